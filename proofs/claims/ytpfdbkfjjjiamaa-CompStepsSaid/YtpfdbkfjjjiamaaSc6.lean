/- The bits of a kind; awake; the law of checks. -/
import Derived.Test.YtpfdbkfjjjiamaaSc5
namespace Go.Proofs.Ytpfdbkfjjjiamaa
open Go.RowKit

theorem flds_bd (k : Nat) : ∀ f ∈ flds k, -1000000 ≤ f.lo ∧ f.lo ≤ 1000000 ∧ -1000000 ≤ f.hi ∧ f.hi ≤ 1000000 := by
  intro f hf
  rcases six k with rfl | rfl | rfl | rfl | rfl | rfl | h6
  case' inr.inr.inr.inr.inr.inr => rw [flds_big k h6] at hf; cases hf
  all_goals
    simp [flds] at hf
    first
    | (rcases hf with rfl | rfl | rfl <;> decide)
    | (rcases hf with rfl | rfl <;> decide)
    | (subst hf; decide)
def sumW (l : List Fld) : Nat := (l.map fun f => wid f.lo f.hi).sum
theorem sumW_take (l : List Fld) (j : Nat) (h : j < l.length) : sumW (l.take (j + 1)) = sumW (l.take j) + wid l[j].lo l[j].hi := by
  unfold sumW
  rw [List.take_succ_eq_append_getElem h, List.map_append, List.sum_append]
  simp only [List.map_cons, List.map_nil, List.sum_cons, List.sum_nil, Nat.add_zero]
theorem sumW_le (l : List Fld) : sumW l ≤ 64 * l.length := by
  induction l with
  | nil => exact Nat.le_refl _
  | cons f l ih => have := wid_le f.lo f.hi; simp only [sumW, List.map_cons, List.sum_cons, List.length_cons] at ih ⊢; omega

theorem Check_e (k : Nat) (K a b c : Int) (w : World) (hk : k < 256) (hK : K = (k : Int)) (E : Int) (hE : chk k [a, b, c] = E) :
    Calls Try.prog 36 #[.agg #[.int .u8 K, .int .i32 a, .int .i32 b, .int .i32 c]] w fun e w' => e = .returned (.int .i64 E) ∧ New w w' := by subst hK; subst hE; exact Check_any k a b c w hk
theorem refCheck_e (k : Nat) (K a b c : Int) (w : World) (hk : k < 256) (hK : K = (k : Int)) (E : Int) (hE : chk k [a, b, c] = E) :
    Calls Try.prog 10 #[.agg #[.int .u8 K, .int .i32 a, .int .i32 b, .int .i32 c]] w fun e w' => e = .returned (.int .i64 E) ∧ New w w' := by subst hK; subst hE; exact refCheck_any k a b c w hk
end Go.Proofs.Ytpfdbkfjjjiamaa
