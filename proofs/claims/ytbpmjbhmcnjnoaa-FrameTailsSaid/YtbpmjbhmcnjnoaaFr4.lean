/- The walks of the frame's functions, the last. -/
import Derived.Test.YtbpmjbhmcnjnoaaFr3
import Derived.Deep.RegionWith
namespace Go.Proofs.Ytbpmjbhmcnjnoaa
open Go.RowKit

theorem Sum_n (A : Option Addr) (n c : Nat) (xs : List Byte) (w : World) (hl : xs.length = n) (hm : n ≤ 140737488351232) (hx : Rd w A (u8s xs)) :
    Calls Try.prog 12 #[.slice A n c] w fun e w' => e = .returned (.int .u32 (Fr.sum xs).toNat) ∧ w = w' := by subst hl; exact Sum_any A c xs w hm hx
theorem Equal_n (A A' : Option Addr) (n n' c c' : Nat) (xs ys : List Byte) (w : World) (hl : xs.length = n) (hl' : ys.length = n') (hx : Rd w A (u8s xs)) (hy : Rd w A' (u8s ys)) :
    Calls Try.prog 23 #[.slice A n c, .slice A' n' c'] w fun e w' => e = .returned (.bool (decide (xs = ys))) ∧ w = w' := by subst hl; subst hl'; exact Equal_any A A' c c' xs ys w hx hy
theorem Same_n (A A' : Option Addr) (n n' c c' : Nat) (xs ys : List Byte) (w : World) (hl : xs.length = n) (hl' : ys.length = n') (hx : Rd w A (u8s xs)) (hy : Rd w A' (u8s ys)) :
    Calls Try.prog 18 #[.slice A n c, .slice A' n' c'] w fun e w' => e = .returned (.bool (decide (xs = ys))) ∧ w = w' := by subst hl; subst hl'; exact Same_any A A' c c' xs ys w hx hy
theorem Clone_n (A : Option Addr) (n c : Nat) (xs : List Byte) (w : World) (hl : xs.length = n) (hm : n ≤ 140737488351232) (hx : Rd w A (u8s xs)) :
    Calls Try.prog 25 #[.slice A n c] w (RetRow 5 1 n (u8s xs) w) := by subst hl; exact Clone_any A c xs w hm hx

set_option maxHeartbeats 400000 in
theorem kept_any (g c c' : Nat) (A : Option Addr) (xs : List Byte) (w : World) (hm : xs.length ≤ 5000) (hx : Rd w A (u8s xs)) (hq : Rd w (some ⟨g, 0, none⟩) (u8s xs ++ [.int .u8 165])) (hc : xs.length + 1 ≤ c') :
    Calls Try.prog 14 #[.slice (some ⟨g, 0, none⟩) xs.length c', .slice A xs.length c] w fun e w' => e = .returned (.bool true) ∧ w = w' := by
  obtain ⟨b, off, h1, hcell⟩ := hq.at_ xs.length (by simp [u8s])
  simp only [Option.some.injEq, Addr.mk.injEq, and_true] at h1
  obtain ⟨rfl, rfl⟩ := h1
  replace hcell : w.cell? ⟨g, xs.length, none⟩ = some (.int .u8 165) := by
    rw [Nat.zero_add] at hcell
    rw [hcell]; simp [u8s]
  have hq' := Bx.mk hq.prefix_
  clear hq
  go_enter Try.func14, Try.ntmps14
  go_wp2_with (go_at_call 18; (with_reducible refine (Same_any _ _ _ _ xs xs _ hq'.out hx).mono ?_); rintro e w1 ⟨rfl, rfl⟩; dsimp only)
  go_ret
  exact ⟨rfl, rfl⟩

def nine : List Byte := [49, 50, 51, 52, 53, 54, 55, 56, 57]
theorem nine_sum : (Fr.sum nine).toNat = 3421780262 := by decide +kernel
set_option maxHeartbeats 400000 in
theorem awake_any (w : World) : Calls Try.prog 10 #[] w fun e w' => e = .returned (.bool true) ∧ New w w' := by
  have hb := rd_new w (u8s nine) 5 (9, 10)
  have hb' : Rd (w.alloc (.cells #[.int .u8 49, .int .u8 50, .int .u8 51, .int .u8 52, .int .u8 53, .int .u8 54, .int .u8 55, .int .u8 56, .int .u8 57] 5 (9, 10))) (some ⟨w.heap.size, 0, none⟩) (u8s nine) := hb
  have hcv := fun C => Lib.run_convert_bytes_const (P := Try.prog) w 22 5 C 9 9 Try.underlying22 Try.underlying5
  have HB := Bx.mk hb'
  clear hb hb'
  go_enter Try.func10, Try.ntmps10
  go_wp2_with (go_at_call 12; (with_reducible refine (Sum_n _ 9 _ nine _ rfl (by decide) HB.out).mono ?_); rintro e w1 ⟨rfl, rfl⟩; rw [nine_sum]; dsimp only)
  go_ret
  exact ⟨rfl, (Upd.refl _ _).alloc _⟩

set_option maxHeartbeats 400000 in
theorem frSeal_any (A : Option Addr) (c : Nat) (xs : List Byte) (w : World) (hm : xs.length ≤ 5000) (hx : Rd w A (u8s xs)) :
    Calls Try.prog 19 #[.slice A xs.length c] w (RetRowE 5 1 (sealRes xs).length (u8s (sealRes xs)) (sealErr xs) w) := by
  by_cases h : xs.length ≤ 4096
  · have e1 : sealRes xs = sealed xs := if_pos h
    have e2 : sealErr xs = 0 := if_pos h
    rw [e1, e2]
    clear e1 e2
    go_enter Try.func19, Try.ntmps19
    go_wp2_with (first | (at_builtin; refine wpList_appN _ rfl _ _ 22 22 rfl _ 5 (.int .u8 0) 1 1 Try.underlying22 info8 rfl _ _ _ ho2 rfl _ _ _ hs rfl _ (hu1.trans hu2) ?c1 ?c2 ?_; (case c1 => unfold maxLen; omega); (case c2 => omega); intro v3 w3 ho3 hu3 hk3 hv3) | (go_at_call 25; (with_reducible refine (Clone_any _ _ xs _ (by omega) hx).mono ?_); rintro e w1 ⟨v1, rfl, ho1, hu1⟩; have hx1 := hx.new hu1; dsimp only) | (go_at_call 12; (with_reducible refine (Sum_any _ _ xs _ (by omega) hx1).mono ?_); rintro e w2 ⟨rfl, rfl⟩; dsimp only) | (go_at_call 24; (with_reducible refine (tail_any _ _).mono ?_); rintro e w2 ⟨v2, rfl, ho2', hu2⟩; have hs := own_src (P := Try.prog) Try.underlying22 ho2' (u8s_one _); have ho2 := own_new ho1 hu2; dsimp only))
    go_ret2
    exact ⟨_, rfl, by simpa [sealed, u8s_append, tailOf] using ho3, hu3⟩
  · have e1 : sealRes xs = [] := if_neg h
    have e2 : sealErr xs = 3 := if_neg h
    rw [e1, e2]
    clear e1 e2
    go_enter Try.func19, Try.ntmps19
    go_wp2
    go_ret2
    exact ⟨_, rfl, World.ownsRow_nil _ _ _ _, .refl _ _⟩
set_option maxHeartbeats 400000 in
theorem frOpen_any (A : Option Addr) (c : Nat) (xs : List Byte) (w : World) (hm : xs.length ≤ 5000) (hc : xs.length ≤ c) (hx : Rd w A (u8s xs)) :
    Calls Try.prog 16 #[.slice A xs.length c] w (RetRowE 5 1 (openRes xs).length (u8s (openRes xs)) (openErr xs) w) := by
  by_cases h : xs.length < 4
  · have e2 : openErr xs = 2 := if_pos h
    have e1 : openRes xs = [] := by rw [openRes, e2]; rfl
    rw [e1, e2]
    clear e1 e2
    go_enter Try.func16, Try.ntmps16
    go_wp2
    go_ret2
    exact ⟨_, rfl, World.ownsRow_nil _ _ _ _, .refl _ _⟩
  by_cases h' : 4100 < xs.length
  · have e2 : openErr xs = 3 := by rw [openErr, if_neg h, if_pos h']
    have e1 : openRes xs = [] := by rw [openRes, e2]; rfl
    rw [e1, e2]
    clear e1 e2
    go_enter Try.func16, Try.ntmps16
    go_wp2
    go_ret2
    exact ⟨_, rfl, World.ownsRow_nil _ _ _ _, .refl _ _⟩
  obtain ⟨n, hn⟩ : ∃ n, xs.length = n + 4 := ⟨xs.length - 4, by omega⟩
  have e2 : openErr xs = if xs.drop n = tailOf (Fr.sum (xs.take n)) then 0 else 6 := by rw [openErr, if_neg h, if_neg h', hn]; rfl
  have e1 : openRes xs = if openErr xs = 0 then xs.take n else [] := by rw [openRes, hn]; rfl
  have hx1 := hx.take n
  rw [← u8s_take] at hx1
  have hl1 : (xs.take n).length = n := by rw [List.length_take]; omega
  have hl2 : (xs.drop n).length = 4 := by rw [List.length_drop]; omega
  rw [hn] at hc hm
  obtain ⟨b, off, rfl⟩ : ∃ b off, A = some ⟨b, off, none⟩ := by
    rcases hx with h | ⟨b, off, h, _⟩
    · have h9 := congrArg List.length h; rw [u8s_length] at h9; exact absurd h9 (by simp only [List.length_nil]; omega)
    · exact ⟨b, off, h⟩
  have hx2 := hx.drop_lit n
  rw [← u8s_drop] at hx2
  have hn4 : n ≤ 4096 := by omega
  rw [hn]
  generalize xs.take n = body at *
  generalize xs.drop n = tail at *
  generalize openErr xs = E at *
  generalize openRes xs = R at *
  clear h h' hx hn
  have HL1 := Bx.mk hl1
  have HL2 := Bx.mk hl2
  have HE1 := Bx.mk e1
  have HE2 := Bx.mk e2
  clear hl1 hl2 e1 e2
  go_enter Try.func16, Try.ntmps16
  go_wp2
  have hcn : ¬ c = n := by omega
  have hnc : n ≤ c := by omega
  have hle : (n : Int) ≤ (n : Int) + 4 := by omega
  have hd : New w w.drew := (Upd.refl _ w).drew
  have hx1d := hx1.new hd
  have hx2d := hx2.new hd
  go_region_with (first | (go_at_call 12; (with_reducible refine (Sum_n _ _ _ body _ HL1.out (by omega) hx1d).mono ?_); rintro e w2 ⟨rfl, rfl⟩; dsimp only) | (go_at_call 24; (with_reducible refine (tail_any _ _).mono ?_); rintro e w2 ⟨v2, rfl, ho2', hu2⟩; obtain ⟨A2, c2, rfl, _, _, hr2, _⟩ := own_rd ho2'; dsimp only) | (go_at_call 23; (with_reducible refine (Equal_n _ _ _ _ _ _ tail _ _ HL2.out (tailOf_length _) (hx2d.new hu2) hr2).mono ?_); rintro e w3 ⟨rfl, rfl⟩; dsimp only))
  have hu02 : New w w2 := hd.trans hu2
  have hx3 := hx1d.new hu2
  generalize hb : decide (tail = tailOf (Fr.sum body)) = bb
  cases bb with
  | true =>
    have e2 : E = 0 := by rw [HE2.out, if_pos (of_decide_eq_true hb)]
    have e1 : R = body := by rw [HE1.out, if_pos e2]
    have E1 := Bx.mk e1
    have E2 := Bx.mk e2
    clear hb e1 e2
    go_wp2_with (go_at_call 25; (with_reducible refine (Clone_n _ _ _ _ _ HL1.out (by omega) hx3).mono ?_); rintro e w4 ⟨v4, rfl, ho4, hu4⟩; dsimp only)
    go_ret2
    rw [E1.out, E2.out, HL1.out]
    exact ⟨_, rfl, own_lower ho4 hu02.size, hu02.trans hu4⟩
  | false =>
    have e2 : E = 6 := by rw [HE2.out, if_neg (of_decide_eq_false hb)]
    have e1 : R = [] := by rw [HE1.out, e2]; rfl
    have E1 := Bx.mk e1
    have E2 := Bx.mk e2
    clear hb e1 e2
    go_wp2
    go_ret2
    rw [E1.out, E2.out]
    exact ⟨_, rfl, World.ownsRow_nil _ _ _ _, hu02⟩
end Go.Proofs.Ytbpmjbhmcnjnoaa
