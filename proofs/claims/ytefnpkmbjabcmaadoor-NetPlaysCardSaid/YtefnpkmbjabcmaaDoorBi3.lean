/- The walks of the reference's Put and Bytes. -/
import Derived.Test.YtefnpkmbjabcmaaDoorBi2
import Derived.Handy
namespace Go.Proofs.YtefnpkmbjabcmaaDoor
open Go.RowKit

/-- rows of unlike elements lie apart -/
theorem own_apart {w : World} {base base' e e' size size' n n' : Nat} {v v' : Value} {xs xs' : List Value} (h : w.ownsRow base e size v n xs) (h' : w.ownsRow base' e' size' v' n' xs') (hne : e ≠ e') (b : Nat) (hb : v.ownBlock = some b) : ¬ v'.ownBlock = some b := by
  intro hb'
  obtain ⟨_, ⟨rfl, _⟩ | ⟨g1, c1, cur1, rfl, _, hh1, _⟩⟩ := h
  · cases hb
  obtain ⟨_, ⟨rfl, _⟩ | ⟨g2, c2, cur2, rfl, _, hh2, _⟩⟩ := h'
  · cases hb'
  simp only [Value.ownBlock, Option.some.injEq] at hb hb'
  subst hb; subst hb'
  rw [hh1] at hh2
  injection hh2 with hh2
  injection hh2 with _ hh2
  exact hne hh2
theorem own_lt {w : World} {base e size n : Nat} {v : Value} {xs : List Value} (h : w.ownsRow base e size v n xs) (b : Nat) (hb : v.ownBlock = some b) : b < w.heap.size := (h.lt b hb).2
theorem parity (y : Nat) : ((y : Int) % 2 == 1) = y.testBit 0 := by
  rw [Nat.testBit_zero, Bool.eq_iff_iff]; simp; omega

end Go.Proofs.YtefnpkmbjabcmaaDoor
