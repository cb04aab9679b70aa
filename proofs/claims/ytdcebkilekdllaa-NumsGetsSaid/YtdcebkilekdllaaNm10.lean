/- The walk of the reference's Var. -/
import Derived.Test.YtdcebkilekdllaaNm9
namespace Go.Proofs.Ytdcebkilekdllaa
open Go.RowKit

theorem grp_div (x j : Nat) (hx : x < 18446744073709551616) (hj : 1 ≤ j) : (0 < x / 2 ^ (4 * j)) ↔ j < grp x := by
  have h1 := bitLen_iff (4 * j) x hx
  have hp : 0 < 2 ^ (4 * j) := Nat.pow_pos (by omega)
  rw [Nat.div_pos_iff]
  unfold grp
  constructor
  · intro h
    have : ¬ Lib.bitLen x ≤ 4 * j := fun q => by have := h1.1 q; omega
    omega
  · intro h
    have : ¬ x < 2 ^ (4 * j) := fun q => by have := h1.2 q; omega
    omega
theorem group_bits (x i n : Nat) (hn : grp x = n) : Bi.numBits (varX x i n) 5 = Bi.numBits (x / 2 ^ (4 * i)) 4 ++ [decide (i + 1 < n)] := by
  have h16 : x / 2 ^ (4 * i) % 16 < 2 ^ 4 := by omega
  rw [show (5 : Nat) = 4 + 1 from rfl, Bi.numBits_succ]
  congr 1
  · rw [← Bi.numBits_mod (varX x i n) 4 4 (Nat.le_refl _), ← Bi.numBits_mod (x / 2 ^ (4 * i)) 4 4 (Nat.le_refl _)]
    congr 1
    unfold varX
    split <;> omega
  · congr 1
    unfold varX
    by_cases h : i + 1 < n
    · rw [if_pos h, decide_eq_true h, Nat.testBit, Nat.shiftRight_eq_div_pow, show (x / 2 ^ (4 * i) % 16 + 16) / 2 ^ 4 = 1 by omega]; rfl
    · rw [if_neg h, decide_eq_false h, Nat.add_zero, Nat.testBit_lt_two_pow h16]

set_option maxHeartbeats 4000000 in
theorem refVar_any (x : Nat) (w : World) (hx : x < 18446744073709551616) :
    Calls Try.prog 36 #[.int .u64 x] w fun e w' => ∃ v', e = .returned v' ∧ w'.ownsRow w.heap.size 4 1 v' (5 * grp x) (bools (varBits x)) ∧ New w w' := by
  obtain ⟨hg1, hg16⟩ := grp_bd x
  obtain ⟨n, hn⟩ : ∃ n, grp x = n := ⟨_, rfl⟩
  have BGD := Bx.mk (fun j (hj : 1 ≤ j) => grp_div x j hx hj)
  have BGB := Bx.mk (fun i => group_bits x i n hn)
  have BV := Bx.mk (show varBits x = varTo x n n by rw [varBits, hn])
  rw [hn] at hg1 hg16 BGD
  rw [hn, BV.out]
  have BX := Bx.mk hx
  clear hn hx
  go_enter Try.func36, Try.ntmps36
  repeat' (first | fail | go_values | go_skip | go_guarded | go_step | go_upon | go_back)
  go_loopw [0, 3] (fun y l wr => ∃ (i z : Nat), i < n ∧ y = .int .u64 z ∧ Bx (z = x / 2 ^ (4 * i)) ∧ New w wr ∧ wr.ownsRow w.heap.size 4 1 l (5 * i) (bools (varTo x n i))) (fun y _ _ => (intOf y).toNat)
  case atStart => exact ⟨0, x, by omega, rfl, ⟨by simp⟩, Upd.refl _ _, World.ownsRow_nil _ _ _ _⟩
  case round =>
    obtain ⟨i, z, hi, rfl, HZ, hN, ho⟩ := hrel
    repeat' (first | fail | go_values | go_skip | go_guarded | go_step | go_upon | go_back)
    obtain ⟨wo, rfl⟩ : ∃ wo : World, wo = wr := ⟨_, rfl⟩
    have hzl : z < 18446744073709551616 := by rw [HZ.out]; exact Nat.lt_of_le_of_lt (Nat.div_le_self _ _) BX.out
    have BZL := Bx.mk hzl
    go_loopw [0, 3, 4] (fun y l i4 wr => ∃ (j z' : Nat), j ≤ 4 ∧ i4 = .int .i64 j ∧ y = .int .u64 z' ∧ Bx (z' = z / 2 ^ j) ∧ New w wr ∧ wr.ownsRow w.heap.size 4 1 l (5 * i + j) (bools (varTo x n i ++ Bi.numBits z j))) (fun _ _ i4 _ => 4 - (intOf i4).toNat)
    case atStart => exact ⟨0, z, by omega, rfl, rfl, ⟨by simp⟩, hN, by simpa [Bi.numBits] using ho⟩
    case round =>
      obtain ⟨j, z', hj, rfl, rfl, HZ', hN', ho'⟩ := hrel
      have hz'l : z' < 18446744073709551616 := by rw [HZ'.out]; exact Nat.lt_of_le_of_lt (Nat.div_le_self _ _) BZL.out
      by_cases hlt : j < 4
      · have hbit := parity z'
        have HB := Bx.mk (show z'.testBit 0 = z.testBit j by rw [HZ'.out, Nat.testBit_div_two_pow]; simp)
        have HH := Bx.mk (show z' / 2 = z / 2 ^ (j + 1) by rw [HZ'.out, Nat.div_div_eq_div_mul, Nat.pow_succ])
        have HC := Bx.mk (show ((z' : Int) / 2) = ((z' / 2 : Nat) : Int) by omega)
        have HS := Bx.mk (Bi.numBits_succ z j)
        generalize z'.testBit 0 = bit at hbit HB
        have ho2 := ho'.alloc (.cells #[.bool bit] 4)
        have hs : Src Try.prog 1 31 (.slice (some ⟨wr.heap.size, 0, none⟩) 1 1) 1 [.bool bit] (wr.alloc (.cells #[.bool bit] 4)) :=
          Src.ofSlice _ Try.underlying31 _ 1 1 _ rfl (cells_new wr [.bool bit] _) (by simp [Value.oneCell'])
        have hsz := hN'.size
        repeat' (first | (at_builtin; refine wpList_appN _ rfl _ _ 31 31 rfl _ 4 (.bool false) 1 1 Try.underlying31 infob rfl _ _ _ ho2 rfl _ _ _ hs rfl _ (hN'.alloc _) ?c1 ?c2 ?_; (case c1 => unfold maxLen; omega); (case c2 => omega); intro v3 w3 ho3 hu3 hk3 hv3) | go_values | go_skip | go_guarded | go_step | go_upon | go_back)
        go_roundw
        case rel => exact ⟨j + 1, z' / 2, by omega, by go_num, by rw [HC.out], ⟨HH.out⟩, hu3, by rw [HS.out, ← List.append_assoc, bools_append, ← HB.out]; exact ho3⟩
        case measure => simp [intOf]; omega
      · obtain rfl : j = 4 := by omega
        have HZ4 := Bx.mk (show z' = x / 2 ^ (4 * (i + 1)) by rw [HZ'.out, HZ.out, Nat.div_div_eq_div_mul, ← Nat.pow_add, show 4 * i + 4 = 4 * (i + 1) by omega])
        have HP := Bx.mk (show 0 < z' ↔ i + 1 < n by rw [HZ4.out]; exact BGD.out (i + 1) (by omega))
        have HGB := Bx.mk (show Bi.numBits (varX x i n) 5 = Bi.numBits z 4 ++ [decide (i + 1 < n)] by rw [BGB.out, HZ.out])
        have HS := Bx.mk (varTo_succ x n i)
        have hz4 := Bx.mk (show z' = z / 16 from HZ'.out)
        have hsz := hN'.size
        by_cases hp : 0 < z'
        · have hd : decide (i + 1 < n) = true := decide_eq_true (HP.out.1 hp)
          rw [hd] at HGB
          have hpi : (0 : Int) < (z' : Int) := by omega
          have hnz : ¬ (z' : Int) = 0 := by omega
          have BI := Bx.mk (HP.out.1 hp)
          have BM := Bx.mk (show z' < z by have := hz4.out; omega)
          have ho2 := ho'.alloc (.cells #[.bool true] 4)
          have hs : Src Try.prog 1 31 (.slice (some ⟨wr.heap.size, 0, none⟩) 1 1) 1 [.bool true] (wr.alloc (.cells #[.bool true] 4)) :=
            Src.ofSlice _ Try.underlying31 _ 1 1 _ rfl (cells_new wr [.bool true] _) (by simp [Value.oneCell'])
          have hdz : decide (0 < z') = true := decide_eq_true hp
          clear hp hd
          repeat' (first | (at_builtin; refine wpList_appN _ rfl _ _ 31 31 rfl _ 4 (.bool false) 1 1 Try.underlying31 infob rfl _ _ _ ho2 rfl _ _ _ hs rfl _ (hN'.alloc _) ?c1 ?c2 ?_; (case c1 => unfold maxLen; omega); (case c2 => omega); intro v3 w3 ho3 hu3 hk3 hv3) | go_values | go_skip | go_guarded | go_step | go_upon | go_back)
          go_roundw
          case rel => exact ⟨i + 1, z', BI.out, rfl, HZ4, hu3, by rw [HS.out, HGB.out, ← List.append_assoc, bools_append, show 5 * (i + 1) = 5 * i + 4 + 1 by omega]; exact ho3⟩
          case measure => simp [intOf]; exact BM.out
        · obtain rfl : z' = 0 := by omega
          have hnn : i + 1 = n := by have := HP.out; omega
          have hd : decide (i + 1 < n) = false := decide_eq_false (by omega)
          rw [hd] at HGB
          have HF := Bx.mk (show varTo x n n = varTo x n i ++ Bi.numBits z 4 ++ [false] by rw [List.append_assoc, ← HGB.out, ← HS.out, hnn])
          have HF2 := Bx.mk (show 5 * n = 5 * i + 4 + 1 by omega)
          have ho2 := ho'.alloc (.cells #[.bool false] 4)
          have hs : Src Try.prog 1 31 (.slice (some ⟨wr.heap.size, 0, none⟩) 1 1) 1 [.bool false] (wr.alloc (.cells #[.bool false] 4)) :=
            Src.ofSlice _ Try.underlying31 _ 1 1 _ rfl (cells_new wr [.bool false] _) (by simp [Value.oneCell'])
          clear hp hd hnn
          repeat' (first | (at_builtin; refine wpList_appN _ rfl _ _ 31 31 rfl _ 4 (.bool false) 1 1 Try.underlying31 infob rfl _ _ _ ho2 rfl _ _ _ hs rfl _ (hN'.alloc _) ?c1 ?c2 ?_; (case c1 => unfold maxLen; omega); (case c2 => omega); intro v3 w3 ho3 hu3 hk3 hv3) | go_values | go_skip | go_guarded | go_step | go_upon | go_back)
          go_ret
          refine ⟨_, rfl, ?_, hu3⟩
          rw [HF.out, bools_append, HF2.out]
          exact ho3
end Go.Proofs.Ytdcebkilekdllaa
