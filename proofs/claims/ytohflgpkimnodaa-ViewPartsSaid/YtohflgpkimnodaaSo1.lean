/- Sorting IDs: the row, and what is less: walked. -/
import Derived.Test.YtohflgpkimnodaaKit
import Derived.Handy
import Derived.Sort.Defs
import Derived.Sort.LotD3
namespace Go.Proofs.Ytohflgpkimnodaa
open Go.RowKit Go.Sort
/-- a row of IDs in a block of its own -/
def SR (blk cap : Nat) (d : Array Nat) (w : World) : Prop :=
  ∃ cur : Array Value, w.heap[blk]? = some (.cells cur 38 (0, 0)) ∧ cur.size = cap ∧ d.size ≤ cap ∧ ∀ i, i < d.size → cur[i]? = some (.int .u32 (d[i]! : Nat))
theorem SR.cell {blk cap : Nat} {d : Array Nat} {w : World} (h : SR blk cap d w) (i : Nat) (hi : i < d.size) : w.cell? ⟨blk, i, none⟩ = some (.int .u32 (d[i]! : Nat)) := by
  obtain ⟨cur, hg, _, _, hc⟩ := h
  rw [World.cell?, hg]
  simpa using hc i hi
theorem SR.frz {blk cap : Nat} {d : Array Nat} {w : World} (h : SR blk cap d w) (o : Nat) : w.frozen? ⟨blk, o, none⟩ = false := by
  obtain ⟨cur, hg, _⟩ := h
  simp [World.frozen?, hg]
theorem SR.blk {blk cap : Nat} {d : Array Nat} {w w' : World} {S : Nat → Prop} (h : SR blk cap d w) (u : Upd S w w') (hs : ¬ S blk) : SR blk cap d w' := by
  obtain ⟨cur, hg, r⟩ := h
  exact ⟨cur, u.blk hg hs, r⟩
theorem SR.drew {blk cap : Nat} {d : Array Nat} {w : World} (h : SR blk cap d w) : SR blk cap d w.drew := h
theorem SR.set {blk cap : Nat} {d : Array Nat} {w : World} (h : SR blk cap d w) (i x : Nat) (hi : i < d.size) : SR blk cap (d.setIfInBounds i x) (w.setCell ⟨blk, i, none⟩ (.int .u32 (x : Nat))) := by
  obtain ⟨cur, hg, hs, hd, hc⟩ := h
  refine ⟨cur.set! i (.int .u32 (x : Nat)), heap_setCell_same w blk i _ _ _ hg, by simpa using hs, by simpa using hd, fun j hj => ?_⟩
  rw [Array.size_setIfInBounds] at hj
  by_cases e : i = j
  · subst e
    have hsz : i < cur.size := by omega
    simp [Array.getElem?_setIfInBounds, hsz, hi]
  · have := hc j hj
    simp only [Array.set!_eq_setIfInBounds, Array.getElem?_setIfInBounds, e, if_false, this]
    simp [Array.getElem!_eq_getD, Array.getD, hj, Array.getElem_setIfInBounds, e]
theorem size_swp' (d : Array Nat) (i j : Nat) : (swp d i j).size = d.size := by simp [swp]
/-- two of a row change their places -/
theorem SR.swap {blk cap : Nat} {d : Array Nat} {w : World} (h : SR blk cap d w) (i j x y : Nat) (hi : i < d.size) (hj : j < d.size) (hx : d[i]! = x) (hy : d[j]! = y) :
    SR blk cap (swp d i j) ((w.setCell ⟨blk, i, none⟩ (.int .u32 (y : Nat))).setCell ⟨blk, j, none⟩ (.int .u32 (x : Nat))) := by
  subst hx; subst hy
  exact (h.set i _ hi).set j _ (by simpa using hj)
theorem SR.c3 {blk cap : Nat} {d : Array Nat} {w : World} (h : SR blk cap d w) (i j y : Nat) (hi : i < d.size) (hj : j < d.size) (hy : d[j]! = y) : (w.setCell ⟨blk, i, none⟩ (.int .u32 (y : Nat))).cell? ⟨blk, j, none⟩ = some (.int .u32 (y : Nat)) := by
  have := (h.set i y hi).cell j (by simpa using hj)
  rw [this]
  congr 3
  by_cases e : i = j
  · subst e; simp [Array.getElem!_eq_getD, Array.getD, hj]
  · rw [← hy]; simp [Array.getElem!_eq_getD, Array.getD, hj, Array.getElem_setIfInBounds, e]
theorem SR.lt {blk cap : Nat} {d : Array Nat} {w : World} (h : SR blk cap d w) : blk < w.heap.size := by
  obtain ⟨cur, hg, _⟩ := h
  exact (Array.getElem?_eq_some_iff.1 hg).1
/-- what is less -/
def ltN (x y : Nat) : Bool := decide (x < y)
theorem isNaN_any (x : Nat) (w : World) : Calls Try.prog 59 #[.int .u32 x] w fun e w' => e = .returned (.bool false) ∧ w' = w := by
  go_enter Try.func59, Try.ntmps59
  repeat' (first | fail | go_values | go_skip | go_guarded | go_step | go_upon | go_back)
  go_returns
  exact ⟨rfl, rfl⟩
theorem Less_any (x y : Nat) (w : World) : Calls Try.prog 49 #[.int .u32 x, .int .u32 y] w fun e w' => e = .returned (.bool (ltN x y)) ∧ w' = w := by
  have hx := fun w => isNaN_any x w
  have hy := fun w => isNaN_any y w
  go_enter Try.func49, Try.ntmps49
  repeat' (first | (first | (go_at_call 59; (with_reducible refine (hx _).mono ?_); rintro e w1 ⟨rfl, rfl⟩; dsimp only) | (go_at_call 59; (with_reducible refine (hy _).mono ?_); rintro e w2 ⟨rfl, rfl⟩; dsimp only)) | go_values | go_skip | go_guarded | go_step | go_upon | go_back)
  go_returns
  refine ⟨?_, rfl⟩
  unfold ltN
  simp
end Go.Proofs.Ytohflgpkimnodaa
