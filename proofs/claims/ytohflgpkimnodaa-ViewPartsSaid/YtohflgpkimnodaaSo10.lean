/- The plain law of a partition: what the scans and the swaps keep. -/
import Derived.Test.YtohflgpkimnodaaSo9
import Derived.Test.YtohflgpkimnodaaSo0
namespace Go.Proofs.Ytohflgpkimnodaa
open Go.RowKit Go.Sort
/-- what a partition has come to -/
structure Prt (p : Nat → Bool) (a b i j P : Nat) (d d' : Array Nat) : Prop where
  perm : PermIn a b d d'
  piv : d'[a]! = P
  lo : ∀ k, a < k → k < i → p d'[k]! = true
  hi : ∀ k, j < k → k < b → p d'[k]! = false
section
variable {p : Nat → Bool} {a b i j P : Nat} {d d' : Array Nat}
theorem Prt.up (h : Prt p a b i j P d d') (hl : p d'[i]! = true) : Prt p a b (i + 1) j P d d' :=
  ⟨h.perm, h.piv, fun k h1 h2 => by
    by_cases q : k = i
    · subst q; exact hl
    · exact h.lo k h1 (by omega), h.hi⟩
theorem Prt.down (h : Prt p a b i (j + 1) P d d') (hl : p d'[j + 1]! = false) : Prt p a b i j P d d' :=
  ⟨h.perm, h.piv, h.lo, fun k h1 h2 => by
    by_cases q : k = j + 1
    · subst q; exact hl
    · exact h.hi k (by omega) h2⟩
end
theorem swp_at (d : Array Nat) (i j k : Nat) (hi : i < d.size) (hj : j < d.size) (hk : k < d.size) : (swp d i j)[k]! = if k = j then d[i]! else if k = i then d[j]! else d[k]! := by
  unfold swp
  simp only [Array.getElem!_eq_getD, Array.getD, Array.size_setIfInBounds, hk, hi, hj, dif_pos, Array.getElem_setIfInBounds]
  by_cases h1 : k = j
  · subst h1; simp [hk]
  · by_cases h2 : k = i
    · subst h2; simp [h1, Ne.symm h1, hk]
    · simp [h1, h2, Ne.symm h1, Ne.symm h2, hk]
theorem Prt.start (p : Nat → Bool) (d : Array Nat) (a b pivot : Nat) (h1 : a ≤ pivot) (h2 : pivot < b) (hb : b ≤ d.size) : Prt p a b (a + 1) (b - 1) d[pivot]! d (swp d a pivot) :=
  ⟨swp_permIn d a b a pivot (Nat.le_refl _) (by omega) h1 h2 hb, by
    rw [swp_at d a pivot a (by omega) (by omega) (by omega)]
    split
    · rename_i q; rw [q]
    · rw [if_pos rfl], fun k h3 h4 => by omega, fun k h3 h4 => by omega⟩
theorem Prt.fin {p : Nat → Bool} {a b i j P : Nat} {d d' : Array Nat} (h : Prt p a b i j P d d') (haj : a ≤ j) (hjb : j < b) (hi : j < i) (hb : b ≤ d.size) :
    PermIn a b d (swp d' j a) ∧ (swp d' j a)[j]! = P ∧ (∀ k, a ≤ k → k < j → p (swp d' j a)[k]! = true) ∧ (∀ k, j < k → k < b → p (swp d' j a)[k]! = false) := by
  have hs : d'.size = d.size := h.perm.1
  have hj : (swp d' j a)[j]! = P := by
    rw [swp_at d' j a j (by omega) (by omega) (by omega)]
    split
    · rename_i q; rw [q]; exact h.piv
    · rw [if_pos rfl]; exact h.piv
  refine ⟨permIn_trans _ _ _ _ _ h.perm (swp_permIn d' a b j a haj hjb (Nat.le_refl _) (by omega) (by omega)), hj, fun k h1 h2 => ?_, fun k h1 h2 => ?_⟩
  · rw [swp_at d' j a k (by omega) (by omega) (by omega)]
    split
    · exact h.lo j (by omega) hi
    · rw [if_neg (by omega)]; exact h.lo k (by omega) (by omega)
  · rw [swp_at d' j a k (by omega) (by omega) (by omega), if_neg (by omega), if_neg (by omega)]
    exact h.hi k h1 h2
/-- two that stand wrong change their places -/
theorem Prt.step {p : Nat → Bool} {a b i j P : Nat} {d d' : Array Nat} (h : Prt p a b i j P d d') (hai : a < i) (hij : i < j) (hjb : j < b) (hb : b ≤ d.size) (h1 : p d'[i]! = false) (h2 : p d'[j]! = true) : Prt p a b (i + 1) (j - 1) P d (swp d' i j) := by
  have hs : d'.size = d.size := h.perm.1
  refine ⟨permIn_trans _ _ _ _ _ h.perm (swp_permIn d' a b i j (by omega) (by omega) (by omega) hjb (by omega)), ?_, fun k k1 k2 => ?_, fun k k1 k2 => ?_⟩
  · rw [swp_at d' i j a (by omega) (by omega) (by omega), if_neg (by omega), if_neg (by omega)]; exact h.piv
  · rw [swp_at d' i j k (by omega) (by omega) (by omega), if_neg (by omega)]
    split
    · exact h2
    · exact h.lo k k1 (by omega)
  · rw [swp_at d' i j k (by omega) (by omega) (by omega)]
    split
    · exact h1
    · rw [if_neg (by omega)]; exact h.hi k (by omega) k2
theorem Prt.ne {p : Nat → Bool} {D : Array Nat} {i j : Nat} (h1 : p D[i]! = false) (h2 : p D[j]! = true) : i ≠ j := fun q => by subst q; rw [h1] at h2; exact absurd h2 (by decide)
end Go.Proofs.Ytohflgpkimnodaa
