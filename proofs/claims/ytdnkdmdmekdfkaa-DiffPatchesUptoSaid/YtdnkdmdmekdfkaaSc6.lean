/- The bits of a kind; awake; the law of checks. -/
import Derived.Test.YtdnkdmdmekdfkaaSc5
namespace Go.Proofs.Ytdnkdmdmekdfkaa
open Go.RowKit

theorem flds_bd (k : Nat) : ∀ f ∈ flds k, -1000000 ≤ f.lo ∧ f.lo ≤ 1000000 ∧ -1000000 ≤ f.hi ∧ f.hi ≤ 1000000 := by
  intro f hf
  rcases six k with rfl | rfl | rfl | rfl | rfl | rfl | h6
  case' inr.inr.inr.inr.inr.inr => rw [flds_big k h6] at hf; cases hf
  all_goals
    simp [flds] at hf
    first
    | (rcases hf with rfl | rfl | rfl <;> decide)
    | (rcases hf with rfl | rfl <;> decide)
    | (subst hf; decide)
theorem Check_e (k : Nat) (K a b c : Int) (w : World) (hk : k < 256) (hK : K = (k : Int)) (E : Int) (hE : chk k [a, b, c] = E) :
    Calls Try.prog 76 #[.agg #[.int .u8 K, .int .i32 a, .int .i32 b, .int .i32 c]] w fun e w' => e = .returned (.int .i64 E) ∧ New w w' := by subst hK; subst hE; exact Check_any k a b c w hk
theorem refCheck_e (k : Nat) (K a b c : Int) (w : World) (hk : k < 256) (hK : K = (k : Int)) (E : Int) (hE : chk k [a, b, c] = E) :
    Calls Try.prog 61 #[.agg #[.int .u8 K, .int .i32 a, .int .i32 b, .int .i32 c]] w fun e w' => e = .returned (.int .i64 E) ∧ New w w' := by subst hK; subst hE; exact refCheck_any k a b c w hk
end Go.Proofs.Ytdnkdmdmekdfkaa
