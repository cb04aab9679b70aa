/- The laws FrameOpens, FrameSeals, FrameApart, FrameBursts: walked. -/
import Derived.Test.YtbpmjbhmcnjnoaaFrL1
namespace Go.Proofs.Ytbpmjbhmcnjnoaa
open Go.RowKit

theorem frSeal_n (A : Option Addr) (n c : Nat) (xs : List Byte) (w : World) (hl : xs.length = n) (hm : n ≤ 5000) (hx : Rd w A (u8s xs)) :
    Calls Try.prog 19 #[.slice A n c] w (RetRowE 5 1 (sealRes xs).length (u8s (sealRes xs)) (sealErr xs) w) := by subst hl; exact frSeal_any A c xs w hm hx
theorem frOpen_n (A : Option Addr) (n c : Nat) (xs : List Byte) (w : World) (hl : xs.length = n) (hm : n ≤ 5000) (hc : n ≤ c) (hx : Rd w A (u8s xs)) :
    Calls Try.prog 16 #[.slice A n c] w (RetRowE 5 1 (openRes xs).length (u8s (openRes xs)) (openErr xs) w) := by subst hl; exact frOpen_any A c xs w hm hc hx

set_option maxHeartbeats 400000 in
theorem refOpen_n (A : Option Addr) (n c : Nat) (xs : List Byte) (w : World) (hl : xs.length = n) (hm : n ≤ 5000) (hc : n ≤ c) (hA : A = none → n = 0) (hx : Rd w A (u8s xs)) :
    Calls Try.prog 17 #[.slice A n c] w (RetRowE 5 1 (openRes xs).length (u8s (openRes xs)) (openErr xs) w) := by
  by_cases h : n < 4
  · have E2 := Bx.mk (show openErr xs = 2 from if_pos (by omega))
    have E1 := Bx.mk (open_err xs (by rw [E2.out]; decide))
    clear hl hA hx
    go_enter Try.func17, Try.ntmps17
    go_wp2
    go_ret2
    rw [E1.out, E2.out]
    exact ⟨_, rfl, World.ownsRow_nil _ _ _ _, .refl _ _⟩
  by_cases h' : 4100 < n
  · have E2 := Bx.mk (show openErr xs = 3 by rw [openErr, if_neg (by omega), if_pos (by omega)])
    have E1 := Bx.mk (open_err xs (by rw [E2.out]; decide))
    clear hl hA hx
    go_enter Try.func17, Try.ntmps17
    go_wp2
    go_ret2
    rw [E1.out, E2.out]
    exact ⟨_, rfl, World.ownsRow_nil _ _ _ _, .refl _ _⟩
  obtain ⟨m, rfl⟩ : ∃ m, n = m + 4 := ⟨n - 4, by omega⟩
  have hx1 := hx.take m
  rw [← u8s_take] at hx1
  have HL := Bx.mk hl
  have HL1 := Bx.mk (show (xs.take m).length = m by rw [List.length_take]; omega)
  have HE := Bx.mk (open_iff xs m hl (by omega))
  have HE2 := Bx.mk (show openRes xs = if openErr xs = 0 then xs.take m else [] by rw [openRes, hl]; rfl)
  have HS1 := Bx.mk (show sealRes (xs.take m) = sealed (xs.take m) from if_pos (by rw [HL1.out]; omega))
  have HS2 := Bx.mk (show sealErr (xs.take m) = 0 from if_pos (by rw [HL1.out]; omega))
  have HS3 := Bx.mk (sealed_length (xs.take m))
  have hmc : m ≤ c := by omega
  have hm4 : m ≤ 4096 := by omega
  have hnot : ¬ (4100 < (m : Int) + 4) := by omega
  have HAm := Bx.mk (show A = none → m = 0 from fun h => by have := hA h; omega)
  generalize xs.take m = body at *
  clear hl hA h h'
  go_enter Try.func17, Try.ntmps17
  repeat' (first | (go_at_call 20; (with_reducible refine (refSeal_any _ _ _ body _ HL1.out (by omega) HAm.out hx1).mono ?_); rintro e w1 ⟨v1, rfl, ho1, hu1⟩; rw [HS1.out, HS3.out, HL1.out] at ho1; rw [HS2.out]; obtain ⟨A1, c1, rfl, hc1, _, hr1, _⟩ := own_rd ho1; have hx' := hx.new hu1; dsimp only) | go_values | go_skip | go_guarded | go_step | go_upon | go_back)
  clear hnot
  generalize hb : decide (sealed body = xs) = bb
  have HB := Bx.mk hb
  clear hb
  cases bb with
  | false =>
    have E2 := Bx.mk (show openErr xs = 6 by rw [HE.out, if_neg (of_decide_eq_false HB.out)])
    have E1 := Bx.mk (open_err xs (by rw [E2.out]; decide))
    go_wp2_with (go_at_call 18; (with_reducible refine (Same_n _ _ _ _ _ _ (sealed body) xs _ (by rw [HS3.out, HL1.out]) HL.out hr1 hx').mono ?_); rintro e w2 ⟨rfl, rfl⟩; rw [HB.out]; dsimp only)
    go_ret2
    rw [E1.out, E2.out]
    exact ⟨_, rfl, World.ownsRow_nil _ _ _ _, hu1⟩
  | true =>
    have E2 := Bx.mk (show openErr xs = 0 by rw [HE.out, if_pos (of_decide_eq_true HB.out)])
    have E1 := Bx.mk (show openRes xs = body by rw [HE2.out, if_pos E2.out])
    have hl0 := own_lower (own_lit0 w1 w1.heap.size 5 1 (Nat.le_refl _)) hu1.size
    have hs := ((hx1.new hu1).new ((Upd.refl _ w1).alloc (.cells #[] 5))).src (P := Try.prog) (n := m) (c := c) (size := 1) Try.underlying22 HAm.out (by rw [u8s_length, HL1.out, Nat.mul_one]) (u8s_one body)
    go_wp2_with (first | (at_builtin; refine wpList_appN _ rfl _ _ 22 22 rfl _ 5 (.int .u8 0) 1 1 Try.underlying22 info8 rfl _ _ _ hl0 rfl _ _ _ hs rfl _ (hu1.alloc _) ?c1 ?c2 ?_; (case c1 => unfold maxLen; omega); (case c2 => omega); intro v3 w3 ho3 hu3 hk3 hv3) | (go_at_call 18; (with_reducible refine (Same_n _ _ _ _ _ _ (sealed body) xs _ (by rw [HS3.out, HL1.out]) HL.out hr1 hx').mono ?_); rintro e w2 ⟨rfl, rfl⟩; rw [HB.out]; dsimp only))
    go_ret2
    rw [E1.out, E2.out, HL1.out]
    exact ⟨_, rfl, by simpa using ho3, hu3⟩

set_option maxHeartbeats 400000 in
theorem FrameOpens_any (A : Option Addr) (n c : Nat) (xs : List Byte) (w : World) (hl : xs.length = n) (hnc : n ≤ c) (hA : A = none → n = 0) (hx : Rd w A (u8s xs)) :
    Calls Try.prog 5 #[.slice A n c] w fun e w' => e = .returned (.bool true) ∧ New w w' := by
  obtain ⟨m, hm⟩ : ∃ m : Nat, min (n : Int) 600 = (m : Int) := ⟨min n 600, by omega⟩
  have hmn : m ≤ n := by omega
  have hm6 : m ≤ 600 := by omega
  have hmc : m ≤ c := by omega
  have HL := Bx.mk (show (xs.take m).length = m by rw [List.length_take]; omega)
  have HA := Bx.mk (show A = none → m = 0 from fun h => by have := hA h; omega)
  have hx0 := hx.take m
  rw [← u8s_take] at hx0
  generalize xs.take m = ys at HL hx0
  have HM := Bx.mk hm
  clear hl hA hx hm
  go_enter Try.func5, Try.ntmps5
  go_wp2_with (first | ((with_reducible refine at_wpList ?_); refine wpList_min rfl _ _ _ _ rfl _ _ _ _ _ HM.out rfl rfl ?_) | (go_at_call 10; (with_reducible refine (awake_any _).mono ?_); rintro e w1 ⟨rfl, hu1⟩; dsimp only))
  have hx1 := hx0.new hu1
  go_wp2_with (go_at_call 11; (with_reducible refine (spare_n _ _ _ ys _ HL.out (by omega) HA.out hx1).mono ?_); rintro e w2 ⟨g, c2, rfl, hc2, hg, hq2, hu2⟩; dsimp only)
  go_wp2_with (go_at_call 16; (with_reducible refine (frOpen_n _ _ _ ys _ HL.out (by omega) (by omega) hq2.prefix_).mono ?_); rintro e w3 ⟨v3, rfl, ho3, hu3⟩; obtain ⟨A3, c3, rfl, hc3, _, hr3, _⟩ := own_rd ho3; dsimp only)
  go_wp2_with (go_at_call 17; (with_reducible refine (refOpen_n _ _ _ ys _ HL.out (by omega) (by omega) HA.out ((hx1.new hu2).new hu3)).mono ?_); rintro e w4 ⟨v4, rfl, ho4, hu4⟩; obtain ⟨A4, c4, rfl, hc4, _, hr4, _⟩ := own_rd ho4; dsimp only)
  go_wp2_with (first | (go_at_call 18; (with_reducible refine (Same_n _ _ _ _ _ _ (openRes ys) (openRes ys) _ rfl rfl (hr3.new hu4) hr4).mono ?_); rintro e w5 ⟨rfl, rfl⟩; dsimp only) | (go_at_call 14; (with_reducible refine (kept_n _ _ _ _ _ ys _ HL.out (by omega) (((hx1.new hu2).new hu3).new hu4) ((hq2.new hu3).new hu4) hc2).mono ?_); rintro e w5 ⟨rfl, rfl⟩; dsimp only))
  go_ret
  exact ⟨rfl, ((hu1.trans hu2).trans hu3).trans hu4⟩
end Go.Proofs.Ytbpmjbhmcnjnoaa
