/- Reading a slice of ints that came in. -/
import Derived.Test.YtdcebkilekdllaaKit
namespace Go.Proofs.Ytdcebkilekdllaa
open Go.RowKit
theorem ints_of_row {w : World} {a : Option Addr} {len cap : Nat} {zs : List Int}
    (h : (a = none ∧ len = 0 ∧ cap = 0 ∧ zs = []) ∨ ∃ x, a = some x ∧ len ≤ cap ∧ cap ≤ maxLen ∧ zs.length = cap ∧ (∀ i, i < zs.length → w.cell? (x.add i) = some (.int .i64 (zs.getD i 0))) ∧ ∀ n ∈ zs, (Lit.int .i64 n).wf = true) :
    ∃ xs : List Int, xs.length = len ∧ len ≤ cap ∧ (a = none → len = 0) ∧ Rd w a (xs.map (Value.int .i64)) ∧ ∀ i ∈ xs, -9223372036854775808 ≤ i ∧ i ≤ 9223372036854775807 := by
  rcases h with ⟨rfl, rfl, rfl, rfl⟩ | ⟨x, rfl, hl, hm, hz, hc, hw⟩
  · exact ⟨[], rfl, Nat.le_refl _, fun _ => rfl, .inl rfl, fun i h => by cases h⟩
  · refine ⟨zs.take len, by simp; omega, hl, (fun h => by cases h), ?_, fun i hi => ?_⟩
    · refine rd_of_cells fun i hi => ?_
      have hi' : i < len := by simp at hi; omega
      have hiz : i < zs.length := by omega
      rw [hc i hiz]
      simp [List.getD_eq_getElem?_getD, List.getElem?_eq_getElem hiz]
    · have hwf := hw i (List.mem_of_mem_take hi)
      have b1 : IntKind.i64.max = 9223372036854775807 := by decide
      have b2 : IntKind.i64.min = -9223372036854775808 := by decide
      simp only [Lit.wf, IntKind.has, Bool.and_eq_true, decide_eq_true_eq] at hwf
      omega
end Go.Proofs.Ytdcebkilekdllaa
