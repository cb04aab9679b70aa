/- New, Drop, Where, Len, Used, At, Box: walked. -/
import Derived.Test.YtohflgpkimnodaaIt3
namespace Go.Proofs.Ytohflgpkimnodaa
open Go.RowKit Go.Maps
theorem has_empty (l : Lit) : has (DataW.map [] : DataW Unit) l = false := rfl
set_option maxRecDepth 20000 in
theorem new_any (n0 : Nat) (w : World) (hn0 : n0 ≤ w.heap.size) : Calls Try.prog 17 #[] w fun e w' => ∃ g cb hb, e = .returned (.pointer (some ⟨g, 0, none⟩)) ∧ GA n0 w' g cb hb (.map []) (.map []) (fun _ => 0) (fun _ => none) ∧ New w w' ∧ w.heap.size ≤ g := by
  have hmm := @run_makeMap Try.prog
  go_enter Try.func17, Try.ntmps17
  repeat' (first | fail | go_values | go_skip | go_guarded | go_step | go_upon | go_back)
  go_returns
  have u : New w (((w.alloc (.map #[] 0)).alloc (.map #[] 0)).alloc (.cells #[.map (some w.heap.size), .map (some (w.heap.size + 1))] 62)) := (((Upd.refl _ w).alloc _).alloc _).alloc _
  have none_of : ∀ {s : Int × Int} {p : Prop}, (none : Option (Int × Int)) = some s → p := fun h => by cases h
  refine ⟨w.heap.size + 2, w.heap.size, w.heap.size + 1, by simp, ⟨?_, ?_, ?_, by omega, ⟨hn0, by omega, fun i s h => none_of h⟩, fun i s h => none_of h, fun l => ?_, fun i s h => none_of h, fun l => ?_, fun i s h => none_of h, fun i s h => none_of h, fun i s h => none_of h, fun i j s t h => none_of h⟩, u, by omega⟩
  · have := heap_alloc_new ((w.alloc (.map #[] 0)).alloc (.map #[] 0)) (.cells #[.map (some w.heap.size), .map (some (w.heap.size + 1))] 62)
    simpa using this
  · have := ((World.ownsMap_made (w.alloc (.map #[] 0)) Try.prog 38 spotElem).alloc (.cells #[.map (some w.heap.size), .map (some (w.heap.size + 1))] 62))
    rw [World.size_alloc] at this
    exact this
  · exact ((World.ownsMap_made w Try.prog 68 setElem).alloc _).alloc _
  · rw [has_empty]; simp
  · rw [has_empty]; simp
section
variable {n0 : Nat} {w : World} {g cb hb : Nat} {DC DH : DataW Unit} {B : Int × Int → Nat} {M : Nat → Option (Int × Int)} {K : Nat}
end
end Go.Proofs.Ytohflgpkimnodaa
