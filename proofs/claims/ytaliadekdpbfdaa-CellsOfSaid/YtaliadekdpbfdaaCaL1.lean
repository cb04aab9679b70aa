/- CellsOf: the law, walked. -/
import Derived.Test.YtaliadekdpbfdaaCa3
namespace Go.Proofs.Ytaliadekdpbfdaa
open Go.RowKit
set_option maxRecDepth 20000 in
theorem CellsOf_any (x : Int) (w : World) (h1 : -2147483648 ≤ x) (h2 : x ≤ 2147483647) : Calls Try.prog 3 #[.int .i32 x] w fun e w' => e = .returned (.bool true) ∧ New w w' := by
  have CO := Bx.mk (fun w => Of_any x w h1 h2)
  have CR := Bx.mk (fun w => refOf_any x w h1 h2)
  have CA := Bx.mk (fun w => awake16_any w)
  obtain ⟨n, hn⟩ : ∃ n, cell x = n := ⟨_, rfl⟩
  rw [hn] at CO CR
  unfold cell at hn
  have e1 : IntKind.i64.wrap (n * 16384) = n * 16384 := by rw [IntKind.wrap_i64]; omega
  have e2 : IntKind.i64.wrap x = x := by rw [IntKind.wrap_i64]; omega
  have e3 : IntKind.i64.wrap (n + 1) = n + 1 := by rw [IntKind.wrap_i64]; omega
  have e4 : IntKind.i64.wrap ((n + 1) * 16384) = (n + 1) * 16384 := by rw [IntKind.wrap_i64]; omega
  have d1 : n * 16384 ≤ x := by omega
  have d2 : x < (n + 1) * 16384 := by omega
  clear hn
  go_enter Try.func3, Try.ntmps3
  repeat' (first | (first | (go_at_call 8; (with_reducible refine (CO.out _).mono ?_); rintro e w1 ⟨rfl, rfl⟩; dsimp only) | (go_at_call 10; (with_reducible refine (CR.out _).mono ?_); rintro e w1 ⟨rfl, rfl⟩; dsimp only) | (go_at_call 9; (with_reducible refine (CA.out _).mono ?_); rintro e w2 ⟨rfl, U2⟩; dsimp only)) | go_values | go_skip | go_guarded | go_step | go_upon | go_back)
  go_returns
  exact ⟨rfl, U2⟩
end Go.Proofs.Ytaliadekdpbfdaa
