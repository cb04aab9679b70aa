/- The laws FrameSeals, FrameApart, FrameBursts: walked. -/
import Derived.Test.YtbpmjbhmcnjnoaaFrL2
namespace Go.Proofs.Ytbpmjbhmcnjnoaa
open Go.RowKit

theorem or1 (p : BitVec 32) : bits .or .u32 (p.toNat : Int) 1 = ((p ||| 1#32).toNat : Int) := by
  rw [show (1 : Int) = ((1#32).toNat : Int) from rfl, u32_or_nat _ _ p.isLt (1#32).isLt, BitVec.toNat_or]
theorem or1_bit (p : BitVec 32) : (p ||| 1#32).getLsbD 0 = true := by simp

set_option maxHeartbeats 400000 in
theorem FrameSeals_any (A : Option Addr) (n c : Nat) (xs : List Byte) (w : World) (hl : xs.length = n) (hnc : n ≤ c) (hA : A = none → n = 0) (hx : Rd w A (u8s xs)) :
    Calls Try.prog 7 #[.slice A n c] w fun e w' => e = .returned (.bool true) ∧ New w w' := by
  obtain ⟨m, hm⟩ : ∃ m : Nat, min (n : Int) 600 = (m : Int) := ⟨min n 600, by omega⟩
  have hmn : m ≤ n := by omega
  have hm6 : m ≤ 600 := by omega
  have hmc : m ≤ c := by omega
  have HL := Bx.mk (show (xs.take m).length = m by rw [List.length_take]; omega)
  have HA := Bx.mk (show A = none → m = 0 from fun h => by have := hA h; omega)
  have hx0 := hx.take m
  rw [← u8s_take] at hx0
  generalize xs.take m = ys at HL hx0
  have HM := Bx.mk hm
  have HS1 := Bx.mk (show sealRes ys = sealed ys from if_pos (by rw [HL.out]; omega))
  have HS2 := Bx.mk (show sealErr ys = 0 from if_pos (by rw [HL.out]; omega))
  have HS3 := Bx.mk (sealed_length ys)
  have HO := Bx.mk (open_sealed ys (by rw [HL.out]; omega))
  clear hl hA hx hm
  go_enter Try.func7, Try.ntmps7
  go_wp2_with (first | ((with_reducible refine at_wpList ?_); refine wpList_min rfl _ _ _ _ rfl _ _ _ _ _ HM.out rfl rfl ?_) | (go_at_call 10; (with_reducible refine (awake_any _).mono ?_); rintro e w1 ⟨rfl, hu1⟩; dsimp only))
  have hx1 := hx0.new hu1
  go_wp2_with (go_at_call 11; (with_reducible refine (spare_n _ _ _ ys _ HL.out (by omega) HA.out hx1).mono ?_); rintro e w2 ⟨g, c2, rfl, hc2, hg, hq2, hu2⟩; dsimp only)
  go_wp2_with (go_at_call 19; (with_reducible refine (frSeal_n _ _ _ ys _ HL.out (by omega) hq2.prefix_).mono ?_); rintro e w3 ⟨v3, rfl, ho3, hu3⟩; rw [HS1.out, HS3.out, HL.out] at ho3; rw [HS2.out]; obtain ⟨A3, c3, rfl, hc3, _, hr3, _⟩ := own_rd ho3; dsimp only)
  go_wp2_with (go_at_call 20; (with_reducible refine (refSeal_any _ _ _ ys _ HL.out (by omega) HA.out ((hx1.new hu2).new hu3)).mono ?_); rintro e w4 ⟨v4, rfl, ho4, hu4⟩; rw [HS1.out, HS3.out, HL.out] at ho4; rw [HS2.out]; obtain ⟨A4, c4, rfl, hc4, _, hr4, _⟩ := own_rd ho4; dsimp only)
  have hx4 := ((hx1.new hu2).new hu3).new hu4
  have hr3' := hr3.new hu4
  go_wp2_with (first | (go_at_call 14; (with_reducible refine (kept_n _ _ _ _ _ ys _ HL.out (by omega) hx4 ((hq2.new hu3).new hu4) hc2).mono ?_); rintro e w5 ⟨rfl, rfl⟩; dsimp only) | (go_at_call 18; (with_reducible refine (Same_n _ _ _ _ _ _ (sealed ys) (sealed ys) _ (by rw [HS3.out, HL.out]) (by rw [HS3.out, HL.out]) hr3' hr4).mono ?_); rintro e w5 ⟨rfl, rfl⟩; dsimp only) | (go_at_call 18; (with_reducible refine (Same_n _ _ _ _ _ _ ys ys _ HL.out HL.out hr5 (hx4.new hu5)).mono ?_); rintro e w5 ⟨rfl, rfl⟩; dsimp only) | (go_at_call 16; (with_reducible refine (frOpen_n _ _ _ (sealed ys) _ (by rw [HS3.out, HL.out]) (by omega) (by omega) hr3').mono ?_); rintro e w5 ⟨v5, rfl, ho5, hu5⟩; rw [HO.out.2, HL.out] at ho5; rw [HO.out.1]; obtain ⟨A5, c5, rfl, hc5, _, hr5, _⟩ := own_rd ho5; dsimp only))
  go_ret
  exact ⟨rfl, (((hu1.trans hu2).trans hu3).trans hu4).trans hu5⟩
theorem bv_ne {a b : BitVec 32} (h : a ≠ b) : ((a.toNat : Int) != (b.toNat : Int)) = true := by
  rw [bne_iff_ne]; intro e; exact h (BitVec.eq_of_toNat_eq (Int.ofNat_inj.1 e))
set_option maxHeartbeats 400000 in
theorem FrameApart_any (A : Option Addr) (n c a : Nat) (xs : List Byte) (pat : BitVec 32) (w : World) (hl : xs.length = n) (hnc : n ≤ c) (ha : a < 65536) (hA : A = none → n = 0) (hx : Rd w A (u8s xs)) :
    Calls Try.prog 4 #[.slice A n c, .int .u16 a, .int .u32 pat.toNat] w fun e w' => e = .returned (.bool true) ∧ New w w' := by
  obtain ⟨m, hm⟩ : ∃ m : Nat, min (n : Int) 1000 = (m : Int) := ⟨min n 1000, by omega⟩
  have hmn : m ≤ n := by omega
  have hm6 : m ≤ 1000 := by omega
  have hmc : m ≤ c := by omega
  have HL := Bx.mk (show (xs.take m).length = m by rw [List.length_take]; omega)
  have HA := Bx.mk (show A = none → m = 0 from fun h => by have := hA h; omega)
  have hx0 := hx.take m
  rw [← u8s_take] at hx0
  generalize xs.take m = ys at HL hx0
  have HM := Bx.mk hm
  have hor := or1 pat
  have HP := Bx.mk (or1_bit pat)
  have hpl := pat.isLt
  generalize pat ||| 1#32 = p1 at hor HP
  clear hl hA hx hm
  by_cases h0 : m = 0
  · subst h0
    go_enter Try.func4, Try.ntmps4
    go_wp2_with (first | ((with_reducible refine at_wpList ?_); refine wpList_min rfl _ _ _ _ rfl _ _ _ _ _ HM.out rfl rfl ?_) | (go_at_call 10; (with_reducible refine (awake_any _).mono ?_); rintro e w1 ⟨rfl, hu1⟩; dsimp only))
    go_ret
    exact ⟨rfl, hu1⟩
  · have hm0 : ((m : Int) == 0) = false := by rw [beq_eq_false_iff_ne]; omega
    have HK := Bx.mk (show a % (8 * m) < 8 * m from Nat.mod_lt _ (by omega))
    have hmod : (a : Int) % (8 * (m : Int)) = ((a % (8 * m) : Nat) : Int) := by rw [Int.natCast_emod, Int.natCast_mul]; rfl
    generalize a % (8 * m) = k at hmod HK
    have hk : k < 8 * m := HK.out
    go_enter Try.func4, Try.ntmps4
    go_wp2_with (first | ((with_reducible refine at_wpList ?_); refine wpList_min rfl _ _ _ _ rfl _ _ _ _ _ HM.out rfl rfl ?_) | (go_at_call 10; (with_reducible refine (awake_any _).mono ?_); rintro e w1 ⟨rfl, hu1⟩; dsimp only))
    have HN := Bx.mk (bv_ne (Fr.sum_apart ys k p1 (by rw [HL.out]; exact hk) HP.out))
    have HTl := Bx.mk (Fr.turnTo_length ys k p1 32)
    have hx1 := hx0.new hu1
    have hk5 : k ≤ 100000 := by omega
    generalize hz : Fr.turnTo ys k p1 32 = zs at HN HTl
    have HZ := Bx.mk hz
    have hne := HN.out
    clear hz
    go_wp2_with (first | (go_at_call 15; (with_reducible refine (Turn_any _ _ _ k ys p1 _ HL.out (by omega) hk5 HA.out hx1).mono ?_); rintro e w2 ⟨v2, rfl, ho2, hu2⟩; rw [HZ.out] at ho2; obtain ⟨A2, c2, rfl, hc2, _, hr2, _⟩ := own_rd ho2; dsimp only) | (go_at_call 12; (with_reducible refine (Sum_n _ _ _ zs _ (HTl.out.trans HL.out) (by omega) hr2).mono ?_); rintro e w3 ⟨rfl, rfl⟩; dsimp only) | (go_at_call 12; (with_reducible refine (Sum_n _ _ _ ys _ HL.out (by omega) (hx1.new hu2)).mono ?_); rintro e w3 ⟨rfl, rfl⟩; dsimp only))
    go_ret
    exact ⟨rfl, hu1.trans hu2⟩

set_option maxHeartbeats 400000 in
theorem FrameBursts_any (A : Option Addr) (n c a : Nat) (xs : List Byte) (pat : BitVec 32) (w : World) (hl : xs.length = n) (hnc : n ≤ c) (ha : a < 65536) (hA : A = none → n = 0) (hx : Rd w A (u8s xs)) :
    Calls Try.prog 8 #[.slice A n c, .int .u16 a, .int .u32 pat.toNat] w fun e w' => e = .returned (.bool true) ∧ New w w' := by
  obtain ⟨m, hm⟩ : ∃ m : Nat, min (n : Int) 2000 = (m : Int) := ⟨min n 2000, by omega⟩
  have hmn : m ≤ n := by omega
  have hm6 : m ≤ 2000 := by omega
  have hmc : m ≤ c := by omega
  have HL := Bx.mk (show (xs.take m).length = m by rw [List.length_take]; omega)
  have HA := Bx.mk (show A = none → m = 0 from fun h => by have := hA h; omega)
  have hx0 := hx.take m
  rw [← u8s_take] at hx0
  generalize xs.take m = ys at HL hx0
  have HM := Bx.mk hm
  have hor := or1 pat
  have HP := Bx.mk (or1_bit pat)
  have hpl := pat.isLt
  generalize pat ||| 1#32 = p1 at hor HP
  clear hl hA hx hm
  have HK := Bx.mk (show a % (8 * (m + 4)) < 8 * (m + 4) from Nat.mod_lt _ (by omega))
  have hmod : (a : Int) % (8 * ((m : Int) + 4)) = ((a % (8 * (m + 4)) : Nat) : Int) := by rw [Int.natCast_emod, Int.natCast_mul]; rfl
  generalize a % (8 * (m + 4)) = k at hmod HK
  have hk5 : k ≤ 100000 := by have := HK.out; omega
  have HS1 := Bx.mk (show sealRes ys = sealed ys from if_pos (by rw [HL.out]; omega))
  have HS2 := Bx.mk (show sealErr ys = 0 from if_pos (by rw [HL.out]; omega))
  have HS3 := Bx.mk ((sealed_length ys).trans (by rw [HL.out]))
  have HB := Bx.mk (open_burst ys (by rw [HL.out]; omega) k p1 (by rw [HL.out]; exact HK.out) HP.out)
  have HB2 := Bx.mk (open_err _ (by rw [HB.out]; decide))
  have HTl := Bx.mk ((Fr.turnTo_length (sealed ys) k p1 32).trans HS3.out)
  generalize hz : Fr.turnTo (sealed ys) k p1 32 = zs at HB HB2 HTl
  have HZ := Bx.mk hz
  clear hz
  go_enter Try.func8, Try.ntmps8
  go_wp2_with (first | ((with_reducible refine at_wpList ?_); refine wpList_min rfl _ _ _ _ rfl _ _ _ _ _ HM.out rfl rfl ?_) | (go_at_call 10; (with_reducible refine (awake_any _).mono ?_); rintro e w1 ⟨rfl, hu1⟩; have hl0 := own_lower (own_lit0 w1 w1.heap.size 5 1 (Nat.le_refl _)) hu1.size; have hs := ((hx0.new hu1).new ((Upd.refl _ w1).alloc (.cells #[] 5))).src (P := Try.prog) (n := m) (c := c) (size := 1) Try.underlying22 HA.out (by rw [u8s_length, HL.out, Nat.mul_one]) (u8s_one ys); dsimp only) | (at_builtin; refine wpList_appN _ rfl _ _ 22 22 rfl _ 5 (.int .u8 0) 1 1 Try.underlying22 info8 rfl _ _ _ hl0 rfl _ _ _ hs rfl _ (hu1.alloc _) ?c1 ?c2 ?_; (case c1 => unfold maxLen; omega); (case c2 => omega); intro v2 w2 ho2 hu2 hk2 hv2; rw [Nat.zero_add, List.nil_append] at ho2; obtain ⟨A2, c2, rfl, hc2, _, hr2, _⟩ := own_rd ho2) | (go_at_call 19; (with_reducible refine (frSeal_n _ _ _ ys _ HL.out (by omega) hr2).mono ?_); rintro e w3 ⟨v3, rfl, ho3, hu3⟩; rw [HS1.out, HS3.out] at ho3; rw [HS2.out]; obtain ⟨A3, c3, rfl, hc3, _, hr3, hb3⟩ := own_rd ho3; have hA3 := Bx.mk (own_none ho3 (by omega)); dsimp only))
  go_wp2_with (first | (go_at_call 15; (with_reducible refine (Turn_any _ _ _ k (sealed ys) p1 _ HS3.out (by omega) hk5 hA3.out hr3).mono ?_); rintro e w4 ⟨v4, rfl, ho4, hu4⟩; rw [HZ.out] at ho4; obtain ⟨A4, c4, rfl, hc4, _, hr4, _⟩ := own_rd ho4; dsimp only) | (go_at_call 16; (with_reducible refine (frOpen_n _ _ _ zs _ HTl.out (by omega) (by omega) hr4).mono ?_); rintro e w5 ⟨v5, rfl, ho5, hu5⟩; rw [HB2.out] at ho5; rw [HB.out]; obtain ⟨A5, c5, rfl, hc5, _, hr5, _⟩ := own_rd ho5; dsimp only))
  go_ret
  exact ⟨rfl, ((hu2.trans hu3).trans hu4).trans hu5⟩
end Go.Proofs.Ytbpmjbhmcnjnoaa
