/- The law of what is told. -/
import Derived.Test.YtcflbeifklhiaaaSc10
namespace Go.Proofs.Ytcflbeifklhiaaa
open Go.RowKit

set_option maxHeartbeats 4000000 in
theorem tells_any (k : Nat) (i : Int) (w : World) (hk : k < 256) :
    Calls Try.prog 8 #[.int .u8 k, .int .i64 i] w fun e w' => e = .returned (.bool true) ∧ New w w' := by
  have C1 := Bx.mk (fun w => Range_any k i w hk)
  have C2 := Bx.mk (fun w => refRange_any k i w hk)
  have C3 := Bx.mk (fun w => Count_any k w hk)
  have C4 := Bx.mk (fun w => refCount_any k w hk)
  have C5 := Bx.mk (fun w => Name_any k w hk)
  have C6 := Bx.mk (fun w => refName_any k w hk)
  have C7 := Bx.mk (fun w => Field_any k i w hk)
  have C8 := Bx.mk (fun w => refField_any k i w hk)
  have C9 := Bx.mk (fun w => Told_any k w hk)
  have C10 := Bx.mk (fun w => refTold_any k w hk)
  have C11 := Bx.mk (fun w => Bits_any k w hk)
  have C12 := Bx.mk (fun w => refBits_any k w hk)
  generalize rngLo k i = lo at *
  generalize rngHi k i = hi at *
  generalize rngE k i = E at *
  generalize fldS k i = fs at *
  generalize nm k = nk at *
  generalize told k = tk at *
  generalize sumW (flds k) = sw at *
  generalize (flds k).length = n at *
  cases tk
  all_goals
    go_enter Try.func8, Try.ntmps8
    repeat' (first | (first
      | (go_at_call 9; go_loud ((with_reducible refine (awake_any _).mono ?_); rintro e w3 ⟨rfl, hu3⟩; dsimp only))
      | (go_at_call 24; go_loud ((with_reducible refine (C1.out _).mono ?_); rintro e w1 ⟨rfl, hu1⟩; dsimp only)) | (go_at_call 13; go_loud ((with_reducible refine (C2.out _).mono ?_); rintro e w2 ⟨rfl, hu2⟩; dsimp only))
      | (go_at_call 25; go_loud ((with_reducible refine (C3.out _).mono ?_); rintro e w4 ⟨rfl, hu4⟩; dsimp only)) | (go_at_call 12; go_loud ((with_reducible refine (C4.out _).mono ?_); rintro e w5 ⟨rfl, hu5⟩; dsimp only))
      | (go_at_call 15; go_loud ((with_reducible refine (C5.out _).mono ?_); rintro e w6 ⟨rfl, hu6⟩; dsimp only)) | (go_at_call 16; go_loud ((with_reducible refine (C6.out _).mono ?_); rintro e w7 ⟨rfl, hu7⟩; dsimp only))
      | (go_at_call 26; go_loud ((with_reducible refine (C7.out _).mono ?_); rintro e w8 ⟨rfl, hu8⟩; dsimp only)) | (go_at_call 27; go_loud ((with_reducible refine (C8.out _).mono ?_); rintro e w9 ⟨rfl, hu9⟩; dsimp only))
      | (go_at_call 28; go_loud ((with_reducible refine (C9.out _).mono ?_); rintro e w10 ⟨rfl, hu10⟩; dsimp only)) | (go_at_call 29; go_loud ((with_reducible refine (C10.out _).mono ?_); rintro e w11 ⟨rfl, hu11⟩; dsimp only))
      | (go_at_call 30; go_loud ((with_reducible refine (C11.out _).mono ?_); rintro e w12 ⟨rfl, hu12⟩; dsimp only)) | (go_at_call 31; go_loud ((with_reducible refine (C12.out _).mono ?_); rintro e w13 ⟨rfl, hu13⟩; dsimp only))) | go_values | go_skip | go_guarded | go_step | go_upon | go_back)
    go_ret
    exact ⟨rfl, (((((((((((hu1.trans hu2).trans hu3).trans hu4).trans hu5).trans hu6).trans hu7).trans hu8).trans hu9).trans hu10).trans hu11).trans hu12).trans hu13⟩
end Go.Proofs.Ytcflbeifklhiaaa
