/- The walks of the reference's reader. -/
import Derived.Test.YtefnpkmbjabcmaaDoorBi6
namespace Go.Proofs.YtefnpkmbjabcmaaDoor
open Go.RowKit

theorem odd_bit (b : BitVec 8) : ((b.toNat : Int) % 2 == 1) = b[0] := by
  rw [← BitVec.getLsbD_eq_getElem]
  simp only [BitVec.getLsbD, Nat.testBit_zero]
  rw [Bool.eq_iff_iff]; simp; omega
theorem half1 (y : BitVec 8) : (y.toNat : Int) / (2 : Int) = ((y >>> 1).toNat : Int) := by
  rw [BitVec.toNat_ushiftRight, Nat.shiftRight_eq_div_pow]; omega
theorem bits8_get (x : BitVec 8) (j : Nat) (h : j < 8) : (Bi.bits8 x).getD j false = x.getLsbD j := by simp [Bi.bits8, h]
set_option maxHeartbeats 400000 in
theorem Bits_any (A : Option Addr) (n c : Nat) (xs : List (BitVec 8)) (w : World) (hl : xs.length = n) (hm : n * 8 ≤ 140737488351232) (hx : Rd w A (u8s xs)) :
    Calls Tryd.prog 27 #[.slice A n c] w (RetRow 4 1 (8 * n) (bools (Bi.bitsOf xs)) w) := by
  subst hl
  go_enter Tryd.func27, Tryd.ntmps27
  go_wp2
  go_loopw [3, 8] (fun l i wr => ∃ k : Nat, k ≤ xs.length ∧ i = .int .i64 k ∧ New w wr ∧ wr.ownsRow w.heap.size 4 1 l (8 * k) (bools (Bi.bitsOf (xs.take k)))) (fun _ i _ => xs.length - (intOf i).toNat)
  case atStart => exact ⟨0, Nat.zero_le _, rfl, .refl _ _, World.ownsRow_nil _ _ _ _⟩
  case round =>
    obtain ⟨k, hk, rfl, hu, ho⟩ := hrel
    by_cases hlt : k < xs.length
    · obtain ⟨b, off, rfl, hcell⟩ := u8s_at (hx.new hu) k hlt
      have HB := Bx.mk (Bi.bitsOf_take xs k hlt)
      generalize xs[k] = x at hcell HB
      go_wp2
      obtain ⟨wo, rfl⟩ : ∃ wo : World, wo = wr := ⟨_, rfl⟩
      go_loopw [3, 5, 12] (fun l b i wr => ∃ (j : Nat) (y : BitVec 8), j ≤ 8 ∧ i = .int .i64 j ∧ b = .int .u8 (y.toNat : Int) ∧ Bx (y = x >>> j) ∧ New w wr ∧ wr.ownsRow w.heap.size 4 1 l (8 * k + j) (bools (Bi.bitsOf (xs.take k) ++ (Bi.bits8 x).take j))) (fun _ _ i _ => 8 - (intOf i).toNat)
      case atStart => exact ⟨0, x, Nat.zero_le _, rfl, rfl, ⟨by simp⟩, hu, by simpa using ho⟩
      case round =>
        obtain ⟨j, y, hj, rfl, rfl, HY, hu1, ho1⟩ := hrel
        by_cases hj8 : j < 8
        · have hb := y.isLt
          have hbit := odd_bit y
          have ho2 := ho1.alloc (.cells #[.bool (y[0])] 4)
          have hs : Src Tryd.prog 1 62 (.slice (some ⟨wr.heap.size, 0, none⟩) 1 1) 1 [.bool (y[0])] (wr.alloc (.cells #[.bool (y[0])] 4)) :=
            Src.ofSlice _ Tryd.underlying62 _ 1 1 _ rfl (cells_new wr [.bool (y[0])] _) (by simp [Value.oneCell'])
          have hz := hu1.size
          go_wp2_with (at_builtin; refine wpList_appN _ rfl _ _ 62 62 rfl _ 4 (.bool false) 1 1 Tryd.underlying62 infob rfl _ _ _ ho2 rfl _ _ _ hs rfl _ (hu1.alloc _) ?c1 ?c2 ?_; (case c1 => unfold maxLen; omega); (case c2 => omega); intro v1 w1 ho3 hu3 hk3 hv3)
          go_roundw
          case rel => exact ⟨j + 1, y >>> 1, by omega, by go_num, by rw [half1], ⟨by rw [HY.out, BitVec.shiftRight_add]⟩, hu3, by
            rw [take_snoc_bool _ _ (by rw [Bi.bits8_length]; exact hj8), ← List.append_assoc, bools_append, bits8_get _ _ hj8]
            have e : y[0] = x.getLsbD j := by rw [HY.out, BitVec.getElem_ushiftRight]; simp
            rw [e] at ho3
            exact ho3⟩
          case measure => simp [intOf]; omega
        · obtain rfl : j = 8 := by omega
          go_wp2
          go_roundw
          case rel => exact ⟨k + 1, by omega, by go_num, hu1, by
            rw [HB.out, show 8 * (k + 1) = 8 * k + 8 from rfl]
            rw [List.take_of_length_le (l := Bi.bits8 x) (by rw [Bi.bits8_length]; omega)] at ho1
            exact ho1⟩
          case measure => simp [intOf]; omega
    · obtain rfl : k = xs.length := by omega
      rw [List.take_length] at ho
      go_wp2
      go_ret
      exact ⟨_, rfl, ho, hu⟩


end Go.Proofs.YtefnpkmbjabcmaaDoor
