/- Reading a slice of numbers and widths that came in. -/
import Derived.Test.YtfhkonjklhaknaaBi8
import Derived.Deep.SlicePairs
import Derived.ChangeShapes
import Derived.WideShapes
import Derived.ChangeArms
namespace Go.Proofs.Ytfhkonjklhaknaa
open Go.ChangeShapes Go.WideShapes Go.RowKit

/-- the cells of numbers and widths -/
def numCells (L : List (Nat × Int)) : List Value := L.flatMap fun q => [.int .u64 q.1, .int .i64 q.2]
theorem numCells_length (L : List (Nat × Int)) : (numCells L).length = 2 * L.length := by
  induction L with
  | nil => rfl
  | cons q L ih => simp only [numCells, List.flatMap_cons, List.length_append, List.length_cons, List.length_nil] at ih ⊢; omega
theorem numCells_get (L : List (Nat × Int)) (i : Nat) (h : i < L.length) : (numCells L)[2 * i]? = some (.int .u64 L[i].1) ∧ (numCells L)[2 * i + 1]? = some (.int .i64 L[i].2) := by
  induction L generalizing i with
  | nil => exact absurd h (Nat.not_lt_zero _)
  | cons q L ih =>
    cases i with
    | zero => exact ⟨rfl, rfl⟩
    | succ i =>
      obtain ⟨h1, h2⟩ := ih i (by simpa using h)
      rw [show 2 * (i + 1) = 2 * i + 2 by omega, show 2 * i + 2 + 1 = (2 * i + 1) + 2 by omega]
      exact ⟨h1, h2⟩

set_option maxRecDepth 100000 in
theorem open_nums {H : Type} {enc : TypeId × Value → H} {w : World} {base : Nat} {spare : Nat → Bool} {held : Bool} {r : Reach} {b0 : Nat} {v : Value} {d : DataW H} {ps : List MemPlace} (hval : Value.okWide Try.prog w r b0 22 v) (hd : DataW.Trod enc Try.prog w base spare held 22 v d ps) :
    ∃ (A : Option Addr) (n c : Nat) (L : List (Nat × Int)), v = .slice A n c ∧ L.length = n ∧ n ≤ maxLen ∧ Rd w A (numCells L) ∧ ∀ q ∈ L, q.1 < 18446744073709551616 ∧ -9223372036854775808 ≤ q.2 ∧ q.2 ≤ 9223372036854775807 := by
  obtain ⟨A, n, c, rfl⟩ := okWide_slice Try.underlying22 hval
  obtain ⟨fuel, hf⟩ := hd
  rcases Go.Deep.open_slice_pairs Try.underlying22 Try.underlying29 (by kernel_rfl) rfl rfl (by kernel_rfl) (by kernel_rfl) hf with ⟨hcs, _⟩ | ⟨a, len, cap, m, k, V0, V1, D0, D1, P0, P1, hcs, _, hl, hm, hmm, _, hcell⟩
  · simp [Value.cells] at hcs
    obtain ⟨rfl, rfl, rfl⟩ := hcs
    exact ⟨none, 0, 0, [], rfl, rfl, Nat.zero_le _, .inl rfl, fun q h => by cases h⟩
  · simp [Value.cells] at hcs
    obtain ⟨rfl, rfl, rfl⟩ := hcs
    have hlm : n ≤ m := by rw [hmm]; split <;> omega
    have each : ∀ i, i < n → ∃ q : Nat × Int, w.cell? (a.add (i * 2)) = some (.int .u64 q.1) ∧ w.cell? (a.add (i * 2 + 1)) = some (.int .i64 q.2) ∧ q.1 < 18446744073709551616 ∧ -9223372036854775808 ≤ q.2 ∧ q.2 ≤ 9223372036854775807 := by
      intro i hi
      obtain ⟨h0, h1, t0, t1⟩ := hcell i (by omega)
      obtain ⟨i0, e0, -, wf0⟩ := DataW.trod_int Try.underlying27 t0
      obtain ⟨i1, e1, -, wf1⟩ := DataW.trod_int Try.underlying3 t1
      have e0' : V0 i = .int .u64 i0 := by simpa using e0
      have e1' : V1 i = .int .i64 i1 := by simpa using e1
      obtain ⟨x, rfl, hx⟩ := nat_of_wf wf0 rfl
      have hmax : IntKind.u64.max = 18446744073709551615 := by decide
      have b1 : IntKind.i64.max = 9223372036854775807 := by decide
      have b2 : IntKind.i64.min = -9223372036854775808 := by decide
      simp only [Lit.wf, IntKind.has, Bool.and_eq_true, decide_eq_true_eq] at wf1
      exact ⟨(x, i1), by rw [h0, e0'], by rw [h1, e1'], by omega, by omega, by omega⟩
    obtain ⟨q, hq⟩ := Go.Deep.choose_lt each
    have hlen : ((List.range n).map q).length = n := by simp
    refine ⟨some a, n, c, (List.range n).map q, rfl, hlen, Nat.le_trans hl hm, rd_of_cells fun j hj => ?_, fun u hu => ?_⟩
    · rw [numCells_length, hlen] at hj
      obtain ⟨g0, g1⟩ := numCells_get ((List.range n).map q) (j / 2) (by rw [hlen]; omega)
      obtain ⟨c0, c1, _⟩ := hq (j / 2) (by omega)
      rcases Nat.mod_two_eq_zero_or_one j with h | h
      · have e : j = j / 2 * 2 := by omega
        have e2 : 2 * (j / 2) = j := by omega
        rw [e2, List.getElem?_eq_getElem (by rw [numCells_length, hlen]; omega)] at g0
        rw [← e] at c0
        simp only [List.getElem_map, List.getElem_range] at g0
        rw [c0, ← g0]
      · have e : j = j / 2 * 2 + 1 := by omega
        have e2 : 2 * (j / 2) + 1 = j := by omega
        rw [e2, List.getElem?_eq_getElem (by rw [numCells_length, hlen]; omega)] at g1
        rw [← e] at c1
        simp only [List.getElem_map, List.getElem_range] at g1
        rw [c1, ← g1]
    · obtain ⟨i, hi, rfl⟩ := List.mem_map.1 hu
      exact (hq i (List.mem_range.1 hi)).2.2
end Go.Proofs.Ytfhkonjklhaknaa
