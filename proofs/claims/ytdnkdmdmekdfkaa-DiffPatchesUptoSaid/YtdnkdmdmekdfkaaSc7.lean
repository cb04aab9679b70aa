/- The walks of what is told of kinds and fields. -/
import Derived.Test.YtdnkdmdmekdfkaaSc6
namespace Go.Proofs.Ytdnkdmdmekdfkaa
open Go.RowKit

theorem Told_any (k : Nat) (w : World) (hk : k < 256) :
    Calls Try.prog 66 #[.int .u8 k] w fun e w' => e = .returned (.bool (told k)) ∧ New w w' := by
  have hff := field_told
  go_enter Try.func66, Try.ntmps66
  repeat' (first | (go_at_call 77; (with_reducible refine (of_any k _ hk).mono ?_); rintro e w1 ⟨A, rfl, hr, hu⟩; dsimp only) | go_values | go_skip | go_guarded | go_step | go_upon | go_back)
  go_ret
  exact ⟨rfl, hu⟩
theorem refTold_any (k : Nat) (w : World) (_hk : k < 256) :
    Calls Try.prog 41 #[.int .u8 k] w fun e w' => e = .returned (.bool (told k)) ∧ New w w' := by
  have h : decide ((k : Int) < 5) = told k := by unfold told; rw [Bool.eq_iff_iff, decide_eq_true_eq, decide_eq_true_eq]; omega
  go_enter Try.func41, Try.ntmps41
  repeat' (first | fail | go_values | go_skip | go_guarded | go_step | go_upon | go_back)
  go_ret
  exact ⟨rfl, Upd.refl _ _⟩
end Go.Proofs.Ytdnkdmdmekdfkaa
