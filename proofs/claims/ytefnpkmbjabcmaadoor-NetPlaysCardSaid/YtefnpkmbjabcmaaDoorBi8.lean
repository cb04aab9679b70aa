/- Contracts with their answers named; the walk of awake. -/
import Derived.Test.YtefnpkmbjabcmaaDoorBi7
namespace Go.Proofs.YtefnpkmbjabcmaaDoor
open Go.RowKit

theorem Same_e (A A' : Option Addr) (n n' c c' : Nat) (xs ys : List (BitVec 8)) (w : World) (hl : xs.length = n) (hl' : ys.length = n') (hx : Rd w A (u8s xs)) (hy : Rd w A' (u8s ys)) (b : Bool) (hb : decide (xs = ys) = b) :
    Calls Tryd.prog 9 #[.slice A n c, .slice A' n' c'] w fun e w' => e = .returned (.bool b) ∧ w = w' := by subst hb; exact Same_n A A' n n' c c' xs ys w hl hl' hx hy
/-- a writer that is new stays so -/
theorem Wrote.fresh {w wa wb : World} {base g : Nat} {v v' : Value} (hN : New w wa) (hU : Wrote base g v v' wa wb) (hg : w.heap.size ≤ g) (hv : ∀ b, v.ownBlock = some b → w.heap.size ≤ b) : New w wb ∧ ∀ b, v'.ownBlock = some b → w.heap.size ≤ b := by
  refine ⟨hN.then hU.upd (fun b hb => .inr ?_), fun b hb => ?_⟩
  · rcases hb with rfl | hb
    · exact hg
    · exact hv b hb
  · rcases hU.at_ b hb with h | h
    · exact hv b h
    · exact Nat.le_trans hN.size h
end Go.Proofs.YtefnpkmbjabcmaaDoor
