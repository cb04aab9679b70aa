/- The walks of the reference's reader. -/
import Derived.Test.YtpfdbkfjjjiamaaBi6
namespace Go.Proofs.Ytpfdbkfjjjiamaa
open Go.RowKit

theorem odd_bit (b : BitVec 8) : ((b.toNat : Int) % 2 == 1) = b[0] := by
  rw [← BitVec.getLsbD_eq_getElem]
  simp only [BitVec.getLsbD, Nat.testBit_zero]
  rw [Bool.eq_iff_iff]; simp; omega
theorem half1 (y : BitVec 8) : (y.toNat : Int) / (2 : Int) = ((y >>> 1).toNat : Int) := by
  rw [BitVec.toNat_ushiftRight, Nat.shiftRight_eq_div_pow]; omega
theorem bits8_get (x : BitVec 8) (j : Nat) (h : j < 8) : (Bi.bits8 x).getD j false = x.getLsbD j := by simp [Bi.bits8, h]
set_option maxHeartbeats 400000 in
theorem Bits_any (A : Option Addr) (n c : Nat) (xs : List (BitVec 8)) (w : World) (hl : xs.length = n) (hm : n * 8 ≤ 140737488351232) (hx : Rd w A (u8s xs)) :
    Calls Try.prog 15 #[.slice A n c] w (RetRow 4 1 (8 * n) (bools (Bi.bitsOf xs)) w) := by
  subst hl
  go_enter Try.func15, Try.ntmps15
  go_wp2
  go_loopw [3, 8] (fun l i wr => ∃ k : Nat, k ≤ xs.length ∧ i = .int .i64 k ∧ New w wr ∧ wr.ownsRow w.heap.size 4 1 l (8 * k) (bools (Bi.bitsOf (xs.take k)))) (fun _ i _ => xs.length - (intOf i).toNat)
  case atStart => exact ⟨0, Nat.zero_le _, rfl, .refl _ _, World.ownsRow_nil _ _ _ _⟩
  case round =>
    obtain ⟨k, hk, rfl, hu, ho⟩ := hrel
    by_cases hlt : k < xs.length
    · obtain ⟨b, off, rfl, hcell⟩ := u8s_at (hx.new hu) k hlt
      have HB := Bx.mk (Bi.bitsOf_take xs k hlt)
      generalize xs[k] = x at hcell HB
      go_wp2
      obtain ⟨wo, rfl⟩ : ∃ wo : World, wo = wr := ⟨_, rfl⟩
      go_loopw [3, 5, 12] (fun l b i wr => ∃ (j : Nat) (y : BitVec 8), j ≤ 8 ∧ i = .int .i64 j ∧ b = .int .u8 (y.toNat : Int) ∧ Bx (y = x >>> j) ∧ New w wr ∧ wr.ownsRow w.heap.size 4 1 l (8 * k + j) (bools (Bi.bitsOf (xs.take k) ++ (Bi.bits8 x).take j))) (fun _ _ i _ => 8 - (intOf i).toNat)
      case atStart => exact ⟨0, x, Nat.zero_le _, rfl, rfl, ⟨by simp⟩, hu, by simpa using ho⟩
      case round =>
        obtain ⟨j, y, hj, rfl, rfl, HY, hu1, ho1⟩ := hrel
        by_cases hj8 : j < 8
        · have hb := y.isLt
          have hbit := odd_bit y
          have ho2 := ho1.alloc (.cells #[.bool (y[0])] 4)
          have hs : Src Try.prog 1 34 (.slice (some ⟨wr.heap.size, 0, none⟩) 1 1) 1 [.bool (y[0])] (wr.alloc (.cells #[.bool (y[0])] 4)) :=
            Src.ofSlice _ Try.underlying34 _ 1 1 _ rfl (cells_new wr [.bool (y[0])] _) (by simp [Value.oneCell'])
          have hz := hu1.size
          go_wp2_with (at_builtin; refine wpList_appN _ rfl _ _ 34 34 rfl _ 4 (.bool false) 1 1 Try.underlying34 infob rfl _ _ _ ho2 rfl _ _ _ hs rfl _ (hu1.alloc _) ?c1 ?c2 ?_; (case c1 => unfold maxLen; omega); (case c2 => omega); intro v1 w1 ho3 hu3 hk3 hv3)
          go_roundw
          case rel => exact ⟨j + 1, y >>> 1, by omega, by go_num, by rw [half1], ⟨by rw [HY.out, BitVec.shiftRight_add]⟩, hu3, by
            rw [take_snoc_bool _ _ (by rw [Bi.bits8_length]; exact hj8), ← List.append_assoc, bools_append, bits8_get _ _ hj8]
            have e : y[0] = x.getLsbD j := by rw [HY.out, BitVec.getElem_ushiftRight]; simp
            rw [e] at ho3
            exact ho3⟩
          case measure => simp [intOf]; omega
        · obtain rfl : j = 8 := by omega
          go_wp2
          go_roundw
          case rel => exact ⟨k + 1, by omega, by go_num, hu1, by
            rw [HB.out, show 8 * (k + 1) = 8 * k + 8 from rfl]
            rw [List.take_of_length_le (l := Bi.bits8 x) (by rw [Bi.bits8_length]; omega)] at ho1
            exact ho1⟩
          case measure => simp [intOf]; omega
    · obtain rfl : k = xs.length := by omega
      rw [List.take_length] at ho
      go_wp2
      go_ret
      exact ⟨_, rfl, ho, hu⟩


set_option maxHeartbeats 1000000 in
theorem refGet_any (A : Option Addr) (nl c : Nat) (R : List Bool) (n : Int) (w : World) (hl : R.length = nl) (hm : nl ≤ 100000000) (hc : nl ≤ c) (hcm : c ≤ maxLen) (hA : A = none → nl = 0) (hx : Rd w A (bools R)) (hn1 : -9223372036854775808 ≤ n) (hn2 : n ≤ 9223372036854775807) :
    Calls Try.prog 55 #[.slice A nl c, .int .i64 n] w fun e w' => ∃ A' c', e = .returned (.tuple #[.int .u64 (Bi.getVal R n), .slice A' (Bi.getRest R n).length c', .int .i64 (Bi.getErr R n)]) ∧
      (Bi.getRest R n).length ≤ c' ∧ c' ≤ maxLen ∧ (A' = none → (Bi.getRest R n).length = 0) ∧ Rd w' A' (bools (Bi.getRest R n)) ∧ New w w' ∧ ∀ a', A' = some a' → ∃ a0, A = some a0 ∧ a0.block = a'.block := by
  by_cases hn : n < 0 ∨ n > 64
  · have HE := Bx.mk (show Bi.getErr R n = 1 from if_pos hn)
    have HV := Bx.mk (show Bi.getVal R n = 0 from if_neg (by rw [HE.out]; decide))
    have HR := Bx.mk (show Bi.getRest R n = R from if_neg (by rw [HE.out]; decide))
    rw [HE.out, HR.out, HV.out, hl]
    by_cases hn0 : n < 0
    · clear hn
      go_enter Try.func55, Try.ntmps55
      go_wp2
      go_returns
      exact ⟨_, _, rfl, hc, hcm, hA, hx, Upd.refl _ _, fun a' h => ⟨a', h, rfl⟩⟩
    · have hn64 : 64 < n := by omega
      clear hn
      go_enter Try.func55, Try.ntmps55
      go_wp2
      go_returns
      exact ⟨_, _, rfl, hc, hcm, hA, hx, Upd.refl _ _, fun a' h => ⟨a', h, rfl⟩⟩
  obtain ⟨m, rfl⟩ := Int.eq_ofNat_of_zero_le (show 0 ≤ n by omega)
  have hm64 : m ≤ 64 := by omega
  by_cases hs : nl < m
  · have HE := Bx.mk (show Bi.getErr R m = 2 by rw [Bi.getErr, if_neg hn, if_pos (by omega)])
    have HV := Bx.mk (show Bi.getVal R m = 0 from if_neg (by rw [HE.out]; decide))
    have HR := Bx.mk (show Bi.getRest R m = R from if_neg (by rw [HE.out]; decide))
    rw [HE.out, HR.out, HV.out, hl]
    clear hn
    go_enter Try.func55, Try.ntmps55
    go_wp2
    go_returns
    exact ⟨_, _, rfl, hc, hcm, hA, hx, Upd.refl _ _, fun a' h => ⟨a', h, rfl⟩⟩
  have HE := Bx.mk (show Bi.getErr R m = 0 by rw [Bi.getErr, if_neg hn, if_neg (by omega)])
  have HV := Bx.mk (show Bi.getVal R m = Bi.numOf (R.take m) from if_pos HE.out)
  have HR := Bx.mk (show Bi.getRest R m = R.drop m from if_pos HE.out)
  rw [HE.out, HR.out, HV.out]
  have HL := Bx.mk hl
  clear hn hl
  have HM := Bx.mk hm64
  have HA := Bx.mk hA
  have HC := Bx.mk hcm
  clear hA hcm
  go_enter Try.func55, Try.ntmps55
  go_wp2
  go_loop [7, 8] (fun y i => ∃ (j : Nat) (i0 : Int), j ≤ m ∧ i = .int .i64 i0 ∧ i0 = (j : Int) - 1 ∧ y = .int .u64 (Bi.numOf ((R.take m).drop j) : Nat)) (fun _ i => (intOf i + 1).toNat)
  case atStart => exact ⟨m, _, Nat.le_refl _, rfl, rfl, by rw [List.drop_eq_nil_of_le (by simp; omega)]; rfl⟩
  case round =>
    obtain ⟨j, i0, hj, rfl, hi0, rfl⟩ := hrel
    rcases j with _ | j
    · obtain rfl : i0 = -1 := by omega
      clear hi0
      rw [List.drop_zero]
      go_wp2
      have hmn : (m : Int) ≤ (nl : Int) := by omega
      have hnc : (nl : Int) ≤ (c : Int) := by omega
      have hm0 : (0 : Int) ≤ (m : Int) := by omega
      have hdrop := hx.drop m c (by simp [bools]; have := HL.out; omega)
      rw [show (bools R).drop m = bools (R.drop m) by simp [bools, List.map_drop]] at hdrop
      have HD := Bx.mk (show (R.drop m).length = nl - m by rw [List.length_drop, HL.out])
      have HN := Bx.mk (show A = none → nl - m = 0 from fun h => by have := HA.out h; omega)
      by_cases hcm : c = m
      · rw [if_pos hcm] at hdrop
        go_quiet (fail)
        go_wp2
        go_returns
        rw [HD.out]
        exact ⟨_, _, rfl, by omega, by have := HC.out; omega, HN.out, hdrop.new ((Upd.refl _ _).drewN _), (Upd.refl _ _).drewN _, fun a' h => ⟨a', h, rfl⟩⟩
      · rw [if_neg hcm] at hdrop
        go_quiet (fail)
        go_wp2
        go_returns
        rw [HD.out]
        exact ⟨_, _, rfl, by omega, by have := HC.out; omega, fun h => HN.out (by cases A with | none => rfl | some a => cases h), hdrop.new ((Upd.refl _ _).drewN _), (Upd.refl _ _).drewN _, fun a' h => by
          cases A with
          | none => cases h
          | some a => cases h; exact ⟨a, rfl, by unfold Addr.add; split <;> rfl⟩⟩
    · obtain rfl : i0 = (j : Int) := by omega
      clear hi0
      have hjL : j < R.length := by rw [HL.out]; omega
      obtain ⟨b0, off, rfl, hcell⟩ := hx.at_ j (by simpa [bools] using hjL)
      simp only [bools, List.getElem_map] at hcell
      have HT := Bx.mk (show Bi.numOf ((R.take m).drop j) = R[j].toNat + 2 * Bi.numOf ((R.take m).drop (j + 1)) by
        rw [List.drop_eq_getElem_cons (by simp; omega), Bi.numOf]; simp)
      have hV : Bi.numOf ((R.take m).drop (j + 1)) < 9223372036854775808 := by
        have h1 := Bi.numOf_lt ((R.take m).drop (j + 1))
        refine Nat.lt_of_lt_of_le h1 (Nat.le_trans (Nat.pow_le_pow_right (by omega) (?_ : _ ≤ 63)) (by decide))
        simp; omega
      generalize Bi.numOf ((R.take m).drop (j + 1)) = V at *
      generalize R[j] = bit at *
      cases bit with
      | true =>
        go_wp2
        go_round
        case rel => exact ⟨j, _, by omega, rfl, by omega, by rw [HT.out]; exact congrArg (Value.int .u64) (by rw [Bool.toNat_true]; omega)⟩
        case measure => simp [intOf]
      | false =>
        go_wp2
        go_round
        case rel => exact ⟨j, _, by omega, rfl, by omega, by rw [HT.out]; exact congrArg (Value.int .u64) (by rw [Bool.toNat_false]; omega)⟩
        case measure => simp [intOf]
end Go.Proofs.Ytpfdbkfjjjiamaa
