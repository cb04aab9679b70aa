/- The law FrameTails: walked. -/
import Derived.Test.YtbpmjbhmcnjnoaaFrL4
import Derived.Laws.IdiomArrays
import Derived.Laws.StructEq
import Derived.Deep.RegionLaw
namespace Go.Proofs.Ytbpmjbhmcnjnoaa
open Go.RowKit

theorem four_at {w : World} {g : Nat} {b0 b1 b2 b3 : Byte} (h : Rd w (some ⟨g, 0, none⟩) (u8s [b0, b1, b2, b3])) :
    w.cell? ⟨g, 0, none⟩ = some (.int .u8 b0.toNat) ∧ w.cell? ⟨g, 1, none⟩ = some (.int .u8 b1.toNat) ∧ w.cell? ⟨g, 2, none⟩ = some (.int .u8 b2.toNat) ∧ w.cell? ⟨g, 3, none⟩ = some (.int .u8 b3.toNat) := by
  rcases h with h | ⟨b, off, hA, hc⟩
  · simp [u8s] at h
  · simp only [Option.some.injEq, Addr.mk.injEq, and_true] at hA
    obtain ⟨rfl, rfl⟩ := hA
    exact ⟨hc 0 _ rfl, hc 1 _ rfl, hc 2 _ rfl, hc 3 _ rfl⟩
theorem tail_eq (b0 b1 b2 b3 : Byte) (S : BitVec 32) :
    ([(b0.toNat : Int), b1.toNat, b2.toNat, b3.toNat] = [(S.toNat : Int) % 256, (S.toNat : Int) / 256 % 256, (S.toNat : Int) / 65536 % 256, (S.toNat : Int) / 16777216]) ↔ [b0, b1, b2, b3] = tailOf S := by
  have h := S.isLt
  have e : tailOf S = [S.setWidth 8, (S >>> 8).setWidth 8, (S >>> 16).setWidth 8, (S >>> 24).setWidth 8] := by simp [tailOf, List.range, List.range.loop]
  rw [e]
  simp only [List.cons.injEq, and_true, ← BitVec.toNat_inj, BitVec.toNat_setWidth, BitVec.toNat_ushiftRight, Nat.shiftRight_eq_div_pow]
  have e0 : ((S.toNat : Int) % 256) = ((S.toNat % 2 ^ 8 : Nat) : Int) := by omega
  have e1 : ((S.toNat : Int) / 256 % 256) = ((S.toNat / 2 ^ 8 % 2 ^ 8 : Nat) : Int) := by omega
  have e2 : ((S.toNat : Int) / 65536 % 256) = ((S.toNat / 2 ^ 16 % 2 ^ 8 : Nat) : Int) := by omega
  have e3 : ((S.toNat : Int) / 16777216) = ((S.toNat / 2 ^ 24 % 2 ^ 8 : Nat) : Int) := by omega
  rw [e0, e1, e2, e3]
  simp only [Int.natCast_inj]
theorem tails_open (ys tl : List Byte) (n : Nat) (h : ys.length = n) (hn : n ≤ 600) (ht : tl.length = 4) : openErr (ys ++ tl) = if tl = tailOf (Fr.sum ys) then 0 else 6 := by
  have hl : (ys ++ tl).length = n + 4 := by rw [List.length_append, h, ht]
  rw [openErr, if_neg (by omega), if_neg (by omega), hl, Nat.add_sub_cancel, ← h, List.drop_left, List.take_left]
set_option maxHeartbeats 400000 in
theorem FrameTails_any (A : Option Addr) (n c : Nat) (b0 b1 b2 b3 : Byte) (xs : List Byte) (w : World) (hl : xs.length = n) (hnc : n ≤ c) (hA : A = none → n = 0) (hx : Rd w A (u8s xs)) :
    Calls Try.prog 6 #[.slice A n c, .agg #[.int .u8 b0.toNat, .int .u8 b1.toNat, .int .u8 b2.toNat, .int .u8 b3.toNat]] w fun e w' => e = .returned (.bool true) ∧ New w w' := by
  obtain ⟨m, hm⟩ : ∃ m : Nat, min (n : Int) 600 = (m : Int) := ⟨min n 600, by omega⟩
  have hmn : m ≤ n := by omega
  have hm6 : m ≤ 600 := by omega
  have hmc : m ≤ c := by omega
  have HL := Bx.mk (show (xs.take m).length = m by rw [List.length_take]; omega)
  have HA := Bx.mk (show A = none → m = 0 from fun h => by have := hA h; omega)
  have hx0 := hx.take m
  rw [← u8s_take] at hx0
  generalize xs.take m = ys at HL hx0
  have HM := Bx.mk hm
  clear hl hA hx hm
  have hb0 := b0.isLt
  have hb1 := b1.isLt
  have hb2 := b2.isLt
  have hb3 := b3.isLt
  have hd0 : New w (w.alloc (.cells #[.int .u8 b0.toNat, .int .u8 b1.toNat, .int .u8 b2.toNat, .int .u8 b3.toNat] 37)) := (Upd.refl _ _).alloc _
  have HO := tails_open ys [b0, b1, b2, b3] m HL.out hm6 rfl
  have hT := tail_eq b0 b1 b2 b3 (Fr.sum ys)
  have hs0 := (Fr.sum ys).isLt
  generalize hS : Fr.sum ys = S at hs0 HO hT
  have HS := Bx.mk hS
  clear hS
  have HQL := Bx.mk (show (ys ++ [b0, b1, b2, b3]).length = m + 4 by rw [List.length_append, HL.out]; rfl)
  obtain ⟨r, E, hQ, hE, hr⟩ : ∃ (r : Bool) (E : Nat), decide ([(b0.toNat : Int), b1.toNat, b2.toNat, b3.toNat] = [(S.toNat : Int) % 256, (S.toNat : Int) / 256 % 256, (S.toNat : Int) / 65536 % 256, (S.toNat : Int) / 16777216]) = r ∧ openErr (ys ++ [b0, b1, b2, b3]) = E ∧ (r = true ∧ E = 0 ∨ r = false ∧ E = 6) := by
    refine ⟨_, _, rfl, rfl, ?_⟩
    by_cases h : [b0, b1, b2, b3] = tailOf S
    · left; rw [HO, if_pos h]; exact ⟨decide_eq_true (hT.2 h), rfl⟩
    · right; rw [HO, if_neg h]; exact ⟨decide_eq_false fun h' => h (hT.1 h'), rfl⟩
  have HE := Bx.mk hE
  have hQ' : ∀ w, (Op.equalIn 10000 37 (.agg #[.int .u8 b0.toNat, .int .u8 b1.toNat, .int .u8 b2.toNat, .int .u8 b3.toNat]) (.agg #[.int .u8 ((S.toNat : Int) % 256), .int .u8 ((S.toNat : Int) / 256 % 256), .int .u8 ((S.toNat : Int) / 65536 % 256), .int .u8 ((S.toNat : Int) / 16777216)])).run Try.prog w = .ok r w := fun w => by
    rw [← hQ]
    exact run_equalIn_array w 9998 _ 5 .u8 4 Try.underlying37 Try.underlying5 info8 [_, _, _, _] [_, _, _, _] rfl rfl
  have HQ := Bx.mk hQ'
  clear hQ' hQ hE HO hT
  rcases hr with ⟨rfl, rfl⟩ | ⟨rfl, rfl⟩
  all_goals
    go_enter Try.func6, Try.ntmps6
    go_wp2_with (first | ((with_reducible refine at_wpList ?_); refine wpList_min rfl _ _ _ _ rfl _ _ _ _ _ HM.out rfl rfl ?_) | (go_at_call 10; (with_reducible refine (awake_any _).mono ?_); rintro e w1 ⟨rfl, hu1⟩; dsimp only) | (go_at_call 13; (with_reducible refine (refSum_n _ _ _ ys _ HL.out (by omega) ((hx0.new hd0).new hu1)).mono ?_); rintro e w2 ⟨rfl, hu2⟩; rw [HS.out]; have hbx := ((rd_new w (u8s [b0, b1, b2, b3]) 37).new hu1).new hu2; have hc0 := four_at hbx; obtain ⟨hc0, hc1, hc2, hc3⟩ := hc0; dsimp only) | (rw [HQ.out]; simp only [Result.andThen_ok]))
    have hwd : New w w2 := (hd0.trans hu1).trans hu2
    have hd2 : New w2 w2.drew := (Upd.refl _ w2).drew
    have hw0 := ((hx0.new hd0).new hu1).new hu2
    have hl0 := own_lit0 w2.drew w2.drew.heap.size 5 1 (Nat.le_refl _)
    have hs0 := ((hw0.new hd2).new ((Upd.refl _ w2.drew).alloc (.cells #[] 5))).src (P := Try.prog) (n := m) (c := c) (size := 1) Try.underlying22 HA.out (by rw [u8s_length, HL.out, Nat.mul_one]) (u8s_one ys)
    have HS4 : ∀ w4, Upd Nowhere w2.drew w4 → Src Try.prog 1 22 (.slice (some ⟨w.heap.size, 0, none⟩) 4 4) 4 (u8s [b0, b1, b2, b3]) w4 := fun w4 h => ((hbx.new hd2).new h).src Try.underlying22 (fun h => by cases h) rfl (u8s_one _)
    go_region_law (first | ((refine step_appN _ rfl _ _ 22 22 rfl _ 5 (.int .u8 0) 1 1 Try.underlying22 info8 rfl _ _ _ ho4 rfl _ _ _ hs4 rfl _ hu4 ?c1 ?c2 ?_; (case c1 => unfold maxLen; omega); (case c2 => omega); intro v5 w5 ho5 hu5 hk5 hv5); rw [← u8s_append] at ho5; obtain ⟨A5, c5, rfl, hc5, _, hr5, _⟩ := own_rd ho5) | ((refine step_appN _ rfl _ _ 22 22 rfl _ 5 (.int .u8 0) 1 1 Try.underlying22 info8 rfl _ _ _ hl0 rfl _ _ _ hs0 rfl _ ((Upd.refl Nowhere w2.drew).alloc _) ?c1 ?c2 ?_; (case c1 => unfold maxLen; omega); (case c2 => omega); intro v4 w4 ho4 hu4 hk4 hv4); rw [Nat.zero_add, List.nil_append] at ho4; have hs4 := HS4 _ hu4) | (go_simp; (go_at_call 16; (with_reducible refine (frOpen_n _ _ _ (ys ++ [b0, b1, b2, b3]) _ HQL.out (by omega) (by omega) hr5).mono ?_); rintro e w6 ⟨v6, rfl, ho6, hu6⟩; rw [HE.out]; dsimp only)))
    go_wp2
    go_ret
    exact ⟨rfl, ((hwd.trans hd2).trans hu5).trans hu6⟩
end Go.Proofs.Ytbpmjbhmcnjnoaa
