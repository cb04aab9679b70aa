/- The reference's names of fields. -/
import Derived.Test.YtcflbeifklhiaaaSc9
namespace Go.Proofs.Ytcflbeifklhiaaa
open Go.RowKit

set_option maxHeartbeats 4000000 in
theorem refField_any (k : Nat) (i : Int) (w : World) (hk : k < 256) :
    Calls Try.prog 27 #[.int .u8 k, .int .i64 i] w fun e w' => e = .returned (.string (fldS k i)) ∧ New w w' := by
  by_cases hi : 0 ≤ i ∧ i < (flds k).length
  · obtain ⟨j, rfl⟩ := Int.eq_ofNat_of_zero_le hi.1
    have HC := Bx.mk (fun (K : Int) (hK : K = (k : Int)) w => refCount_e k K w hk hK)
    have hjl : j < (flds k).length := by omega
    clear hi
    rcases six k with rfl | rfl | rfl | rfl | rfl | rfl | h6
    case' inl =>
      have hj : j = 0 ∨ j = 1 := by change j < 2 at hjl; omega
      rcases hj with rfl | rfl
    case' inr.inl =>
      have hj : j = 0 ∨ j = 1 := by change j < 2 at hjl; omega
      rcases hj with rfl | rfl
    case' inr.inr.inl =>
      have hj : j = 0 := by change j < 1 at hjl; omega
      subst hj
    case' inr.inr.inr.inl =>
      have hj : j = 0 ∨ j = 1 ∨ j = 2 := by change j < 3 at hjl; omega
      rcases hj with rfl | rfl | rfl
    case' inr.inr.inr.inr.inl =>
      have hj : j = 0 ∨ j = 1 ∨ j = 2 := by change j < 3 at hjl; omega
      rcases hj with rfl | rfl | rfl
    case' inr.inr.inr.inr.inr.inl =>
      have hj : j = 0 ∨ j = 1 ∨ j = 2 := by change j < 3 at hjl; omega
      rcases hj with rfl | rfl | rfl
    case' inr.inr.inr.inr.inr.inr => exact absurd hjl (by rw [flds_big k h6]; simp)
    all_goals
      clear hjl
      go_enter Try.func27, Try.ntmps27
      go_wp2_with (go_at_call 12; go_loud ((with_reducible refine (HC.out _ (by decide) _).mono ?_); rintro e w1 ⟨rfl, hu⟩; (first | rw [show (flds 0).length = 2 from rfl] | rw [show (flds 1).length = 2 from rfl] | rw [show (flds 2).length = 1 from rfl] | rw [show (flds 3).length = 3 from rfl] | rw [show (flds 4).length = 3 from rfl] | rw [show (flds 5).length = 3 from rfl]); dsimp only))
      go_ret
      exact ⟨rfl, (((((((hu.alloc _).alloc _).alloc _).alloc _).alloc _).alloc _).alloc _)⟩
  · rw [fldS_bad k i hi]
    by_cases h0 : i < 0
    · clear hi
      go_enter Try.func27, Try.ntmps27
      go_wp2
      go_ret
      exact ⟨rfl, Upd.refl _ _⟩
    · have hge : ((flds k).length : Int) ≤ i := by omega
      clear hi
      go_enter Try.func27, Try.ntmps27
      go_wp2_with (go_at_call 12; go_loud ((with_reducible refine (refCount_any k _ hk).mono ?_); rintro e w1 ⟨rfl, hu⟩; dsimp only))
      go_ret
      exact ⟨rfl, hu⟩
end Go.Proofs.Ytcflbeifklhiaaa
