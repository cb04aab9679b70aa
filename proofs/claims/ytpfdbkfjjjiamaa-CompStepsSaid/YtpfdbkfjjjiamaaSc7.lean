/- The walks of what is told of kinds and fields. -/
import Derived.Test.YtpfdbkfjjjiamaaSc6
namespace Go.Proofs.Ytpfdbkfjjjiamaa
open Go.RowKit

theorem Count_any (k : Nat) (w : World) (hk : k < 256) :
    Calls Try.prog 40 #[.int .u8 k] w fun e w' => e = .returned (.int .i64 (flds k).length) ∧ New w w' := by
  have hff := field_fields
  go_enter Try.func40, Try.ntmps40
  repeat' (first | (go_at_call 54; (with_reducible refine (of_any k _ hk).mono ?_); rintro e w1 ⟨A, rfl, hr, hu⟩; dsimp only) | go_values | go_skip | go_guarded | go_step | go_upon | go_back)
  go_ret
  exact ⟨rfl, hu⟩
end Go.Proofs.Ytpfdbkfjjjiamaa
