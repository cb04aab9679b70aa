/- Of, here and in the reference: walked. -/
import Derived.Test.YtohflgpkimnodaaKit
import Derived.Handy
namespace Go.Proofs.Ytohflgpkimnodaa
open Go.RowKit
/-- the cell of a place -/
def cell (x : Int) : Int := x / 16384
theorem Of_any (x : Int) (w : World) (h1 : -2147483648 ≤ x) (h2 : x ≤ 2147483647) :
    Calls Try.prog 28 #[.int .i32 x] w fun e w' => e = .returned (.int .i64 (cell x)) ∧ w' = w := by
  have e : IntKind.i64.wrap (x / 16384) = cell x := by unfold cell; rw [IntKind.wrap_i64]; omega
  go_enter Try.func28, Try.ntmps28
  repeat' (first | fail | go_values | go_skip | go_guarded | go_step | go_upon | go_back)
  go_returns
  exact ⟨rfl, rfl⟩
theorem refOf_any (x : Int) (w : World) (h1 : -2147483648 ≤ x) (h2 : x ≤ 2147483647) :
    Calls Try.prog 29 #[.int .i32 x] w fun e w' => e = .returned (.int .i64 (cell x)) ∧ w' = w := by
  have e0' := Bx.mk (show IntKind.i64.wrap x = x by rw [IntKind.wrap_i64]; omega)
  obtain ⟨q, hq⟩ : ∃ q, x.tdiv 16384 = q := ⟨_, rfl⟩
  have hq2 : (0 ≤ x → q = x / 16384) ∧ (x < 0 → q = -((-x) / 16384)) := by
    constructor
    · intro h; rw [← hq, Int.tdiv_eq_ediv_of_nonneg h]
    · intro h; rw [← hq, show x = -(-x) by omega, Int.neg_tdiv, Int.tdiv_eq_ediv_of_nonneg (by omega)]; simp
  have e1 : IntKind.i64.wrap q = q := by rw [IntKind.wrap_i64]; omega
  have e2 : IntKind.i64.wrap (q * 16384) = q * 16384 := by rw [IntKind.wrap_i64]; omega
  have e3 : IntKind.i64.wrap (q - 1) = q - 1 := by rw [IntKind.wrap_i64]; omega
  have HC := Bx.mk (show cell x = if x < q * 16384 then q - 1 else q by unfold cell; split <;> omega)
  rw [HC.out]
  have e0 := e0'.out
  clear hq2 e0'
  by_cases hg : x < q * 16384
  · rw [if_pos hg]
    go_enter Try.func29, Try.ntmps29
    repeat' (first | fail | go_values | go_skip | go_guarded | go_step | go_upon | go_back)
    go_returns
    exact ⟨rfl, rfl⟩
  · rw [if_neg hg]
    go_enter Try.func29, Try.ntmps29
    repeat' (first | fail | go_values | go_skip | go_guarded | go_step | go_upon | go_back)
    go_returns
    exact ⟨rfl, rfl⟩
end Go.Proofs.Ytohflgpkimnodaa
