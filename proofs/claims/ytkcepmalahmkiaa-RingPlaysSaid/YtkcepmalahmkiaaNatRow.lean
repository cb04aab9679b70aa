/- Reading a slice of unsigned integers that came in. -/
import Derived.Test.YtkcepmalahmkiaaKit
namespace Go.Proofs.Ytkcepmalahmkiaa
open Go.RowKit
theorem nats_of_row {w : World} {a : Option Addr} {len cap : Nat} {zs : List Int} (k : IntKind) (hk : k.min = 0)
    (h : (a = none ∧ len = 0 ∧ cap = 0 ∧ zs = []) ∨ ∃ x, a = some x ∧ len ≤ cap ∧ cap ≤ maxLen ∧ zs.length = cap ∧ (∀ i, i < zs.length → w.cell? (x.add i) = some (.int k (zs.getD i 0))) ∧ ∀ n ∈ zs, (Lit.int k n).wf = true) :
    ∃ ts : List Nat, ts.length = len ∧ len ≤ cap ∧ cap ≤ maxLen ∧ (a = none → len = 0) ∧ Rd w a (ts.map fun (t : Nat) => .int k t) ∧ ∀ t ∈ ts, (t : Int) ≤ k.max := by
  rcases h with ⟨rfl, rfl, rfl, rfl⟩ | ⟨x, rfl, hl, hm, hz, hc, hw⟩
  · exact ⟨[], rfl, Nat.le_refl _, Nat.zero_le _, fun _ => rfl, .inl rfl, fun i h => by cases h⟩
  · refine ⟨(zs.take len).map Int.toNat, by simp; omega, hl, hm, (fun h => by cases h), ?_, fun t ht => ?_⟩
    · refine rd_of_cells fun i hi => ?_
      have hi' : i < len := by simp at hi; omega
      have hiz : i < zs.length := by omega
      rw [hc i hiz]
      obtain ⟨n, hn, _⟩ := nat_of_wf (hw (zs[i]) (List.getElem_mem hiz)) hk
      simp only [List.getElem_map, List.getElem_take, List.getD_eq_getElem?_getD, List.getElem?_eq_getElem hiz, Option.getD_some, hn, Int.toNat_natCast]
    · obtain ⟨z, hz', rfl⟩ := List.mem_map.1 ht
      obtain ⟨n, rfl, hn⟩ := nat_of_wf (hw z (List.mem_of_mem_take hz')) hk
      simpa using hn
end Go.Proofs.Ytkcepmalahmkiaa
