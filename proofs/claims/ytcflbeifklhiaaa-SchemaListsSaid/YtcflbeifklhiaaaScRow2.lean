/- Reading a slice of components that came in. -/
import Derived.Test.YtcflbeifklhiaaaScRow
import Derived.Test.YtcflbeifklhiaaaSc11
import Derived.Deep.Slices
namespace Go.Proofs.Ytcflbeifklhiaaa
open Go.ChangeShapes Go.WideShapes Go.RowKit

instance : Inhabited C4 := ⟨⟨0, 0, 0, 0⟩⟩
set_option maxRecDepth 100000 in
theorem open_comps {H : Type} {enc : TypeId × Value → H} {w : World} {base : Nat} {spare : Nat → Bool} {held : Bool} {r : Reach} {b0 : Nat} {v : Value} {d : DataW H} {ps : List MemPlace} (hval : Value.okWide Try.prog w r b0 40 v) (hd : DataW.Trod enc Try.prog w base spare held 40 v d ps) :
    ∃ (A : Option Addr) (n c : Nat) (L : List C4), v = .slice A n c ∧ L.length = n ∧ n ≤ c ∧ (A = none → n = 0) ∧ Rd w A (ccells L) ∧ ∀ q ∈ L, q.k < 256 := by
  obtain ⟨A, n, c, rfl⟩ := okWide_slice Try.underlying40 hval
  obtain ⟨fuel, hf⟩ := hd
  rcases Go.Deep.open_slice Try.underlying40 hf with ⟨hcs, _⟩ | ⟨a, len, cap, m, n', D, Pl, hcs, _, hl, hm, hmm, _, hcell⟩
  · simp [Value.cells] at hcs
    obtain ⟨rfl, rfl, rfl⟩ := hcs
    exact ⟨none, 0, 0, [], rfl, rfl, Nat.le_refl _, fun _ => rfl, .inl rfl, fun q h => by cases h⟩
  · simp [Value.cells] at hcs
    obtain ⟨rfl, rfl, rfl⟩ := hcs
    have hlm : n ≤ m := by rw [hmm]; split <;> omega
    have hC : Try.prog.cellsOf 24 = 4 := by kernel_rfl
    have each : ∀ i, i < n → ∃ q : C4, w.cell? (a.add (i * 4)) = some (.int .u8 q.k) ∧ w.cell? (a.add (i * 4 + 1)) = some (.int .i32 q.a) ∧ w.cell? (a.add (i * 4 + 2)) = some (.int .i32 q.b) ∧ w.cell? (a.add (i * 4 + 3)) = some (.int .i32 q.c) ∧ q.k < 256 := by
      intro i hi
      obtain ⟨cs', h1, h2⟩ := hcell i (by omega)
      rw [hC] at h1
      obtain ⟨_, hlen, hat⟩ := World.cells?_some h1
      match cs', hlen with
      | [v0, v1, v2, v3], _ =>
        obtain ⟨k, a', b', c', hk, rfl, rfl, rfl, rfl, -⟩ := comp_cells h2
        have e0 := hat 0 (by omega)
        have e1 := hat 1 (by omega)
        have e2 := hat 2 (by omega)
        have e3 := hat 3 (by omega)
        rw [Go.Deep.add_add] at e0 e1 e2 e3
        exact ⟨⟨k, a', b', c'⟩, by simpa using e0, by simpa using e1, by simpa using e2, by simpa using e3, hk⟩
    obtain ⟨q, hq⟩ := Go.Deep.choose_lt each
    have hlen : ((List.range n).map q).length = n := by simp
    refine ⟨some a, n, c, (List.range n).map q, rfl, hlen, hl, (fun h => by cases h), rd_of_cells fun j hj => ?_, fun u hu => ?_⟩
    · rw [ccells_length, hlen] at hj
      obtain ⟨g0, g1, g2, g3⟩ := ccells_get ((List.range n).map q) (j / 4) (by rw [hlen]; omega)
      obtain ⟨c0, c1, c2, c3, _⟩ := hq (j / 4) (by omega)
      simp only [List.getElem_map, List.getElem_range] at g0 g1 g2 g3
      have hjl : j < (ccells ((List.range n).map q)).length := by rw [ccells_length, hlen]; omega
      have h4 : j % 4 = 0 ∨ j % 4 = 1 ∨ j % 4 = 2 ∨ j % 4 = 3 := by omega
      rcases h4 with h | h | h | h
      · have e : j / 4 * 4 = j := by omega
        rw [e] at g0 c0
        rw [List.getElem?_eq_getElem hjl] at g0
        rw [c0, ← g0]
      · have e : j / 4 * 4 + 1 = j := by omega
        rw [e] at g1 c1
        rw [List.getElem?_eq_getElem hjl] at g1
        rw [c1, ← g1]
      · have e : j / 4 * 4 + 2 = j := by omega
        rw [e] at g2 c2
        rw [List.getElem?_eq_getElem hjl] at g2
        rw [c2, ← g2]
      · have e : j / 4 * 4 + 3 = j := by omega
        rw [e] at g3 c3
        rw [List.getElem?_eq_getElem hjl] at g3
        rw [c3, ← g3]
    · obtain ⟨i, hi, rfl⟩ := List.mem_map.1 hu
      exact (hq i (List.mem_range.1 hi)).2.2.2.2
end Go.Proofs.Ytcflbeifklhiaaa
