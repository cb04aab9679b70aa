/- The laws of nil objects. -/
import Derived.Test.YtfhkonjklhaknaaBi8
namespace Go.Proofs.Ytfhkonjklhaknaa
open Go.RowKit
set_option maxHeartbeats 1000000 in
theorem nilLaw_any (v n : Int) (w : World) : Calls Try.prog 8 #[.int .u64 v, .int .i64 n] w fun e w' => e = .returned (.bool true) ∧ New w w' := by
  go_enter Try.func8, Try.ntmps8
  go_wp2_with (first | (go_at_call 9; go_loud ((with_reducible refine (awake_any _).mono ?_); rintro e w1 ⟨rfl, hu1⟩; dsimp only)) | (go_at_call 12; go_loud ((with_reducible refine (Put_nil _ _ _).mono ?_); rintro e w2 ⟨rfl, rfl⟩; dsimp only)) | (go_at_call 13; go_loud ((with_reducible refine (Len_nil _).mono ?_); rintro e w3 ⟨rfl, rfl⟩; dsimp only)) | (go_at_call 15; go_loud ((with_reducible refine (Bytes_nil _).mono ?_); rintro e w4 ⟨rfl, rfl⟩; dsimp only)) | (go_at_call 20; go_loud ((with_reducible refine (Get_nil _ _).mono ?_); rintro e w5 ⟨rfl, rfl⟩; dsimp only)) | (go_at_call 21; go_loud ((with_reducible refine (Left_nil _).mono ?_); rintro e w6 ⟨rfl, rfl⟩; dsimp only)) | (go_at_call 22; go_loud ((with_reducible refine (End_nil _).mono ?_); rintro e w7 ⟨rfl, rfl⟩; dsimp only)))
  go_ret
  exact ⟨rfl, hu1⟩
end Go.Proofs.Ytfhkonjklhaknaa
