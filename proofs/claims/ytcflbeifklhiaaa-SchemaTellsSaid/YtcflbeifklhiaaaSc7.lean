/- The walks of what is told of kinds and fields. -/
import Derived.Test.YtcflbeifklhiaaaSc6
namespace Go.Proofs.Ytcflbeifklhiaaa
open Go.RowKit

theorem Count_any (k : Nat) (w : World) (hk : k < 256) :
    Calls Try.prog 25 #[.int .u8 k] w fun e w' => e = .returned (.int .i64 (flds k).length) ∧ New w w' := by
  have hff := field_fields
  go_enter Try.func25, Try.ntmps25
  repeat' (first | (go_at_call 32; go_loud ((with_reducible refine (of_any k _ hk).mono ?_); rintro e w1 ⟨A, rfl, hr, hu⟩; dsimp only)) | go_values | go_skip | go_guarded | go_step | go_upon | go_back)
  go_ret
  exact ⟨rfl, hu⟩
theorem Name_any (k : Nat) (w : World) (hk : k < 256) :
    Calls Try.prog 15 #[.int .u8 k] w fun e w' => e = .returned (.string (nm k)) ∧ New w w' := by
  have hff := field_name
  go_enter Try.func15, Try.ntmps15
  repeat' (first | (go_at_call 32; go_loud ((with_reducible refine (of_any k _ hk).mono ?_); rintro e w1 ⟨A, rfl, hr, hu⟩; dsimp only)) | go_values | go_skip | go_guarded | go_step | go_upon | go_back)
  go_ret
  exact ⟨rfl, hu⟩
theorem Told_any (k : Nat) (w : World) (hk : k < 256) :
    Calls Try.prog 28 #[.int .u8 k] w fun e w' => e = .returned (.bool (told k)) ∧ New w w' := by
  have hff := field_told
  go_enter Try.func28, Try.ntmps28
  repeat' (first | (go_at_call 32; go_loud ((with_reducible refine (of_any k _ hk).mono ?_); rintro e w1 ⟨A, rfl, hr, hu⟩; dsimp only)) | go_values | go_skip | go_guarded | go_step | go_upon | go_back)
  go_ret
  exact ⟨rfl, hu⟩
theorem refTold_any (k : Nat) (w : World) (_hk : k < 256) :
    Calls Try.prog 29 #[.int .u8 k] w fun e w' => e = .returned (.bool (told k)) ∧ New w w' := by
  have h : decide ((k : Int) < 5) = told k := by unfold told; rw [Bool.eq_iff_iff, decide_eq_true_eq, decide_eq_true_eq]; omega
  go_enter Try.func29, Try.ntmps29
  repeat' (first | fail | go_values | go_skip | go_guarded | go_step | go_upon | go_back)
  go_ret
  exact ⟨rfl, Upd.refl _ _⟩
set_option maxHeartbeats 1000000 in
theorem refName_any (k : Nat) (w : World) (hk : k < 256) :
    Calls Try.prog 16 #[.int .u8 k] w fun e w' => e = .returned (.string (nm k)) ∧ New w w' := by
  rcases six k with rfl | rfl | rfl | rfl | rfl | rfl | h6
  all_goals first
    | (go_enter Try.func16, Try.ntmps16; go_wp2; go_ret; exact ⟨rfl, (Upd.refl _ _).alloc _⟩)
    | (have hk5 : (5 : Int) < (k : Int) := (by omega); rw [nm_big k h6]; go_enter Try.func16, Try.ntmps16; go_wp2; go_ret; exact ⟨rfl, Upd.refl _ _⟩)

end Go.Proofs.Ytcflbeifklhiaaa
