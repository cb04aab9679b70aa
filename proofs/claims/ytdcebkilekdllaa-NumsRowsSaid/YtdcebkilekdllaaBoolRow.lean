/- Reading a slice of bools that came in. -/
import Derived.Test.YtdcebkilekdllaaKit
import Derived.Deep.Slices
import Derived.ChangeShapes
import Derived.WideShapes
import Derived.ChangeArms
namespace Go.Proofs.Ytdcebkilekdllaa
open Go.ChangeShapes Go.WideShapes Go.RowKit

theorem open_boolrow {H : Type} {enc : TypeId × Value → H} {w : World} {base : Nat} {spare : Nat → Bool} {held : Bool} {r : Reach} {b0 : Nat} {v : Value} {d : DataW H} {ps : List MemPlace} (hval : Value.okWide Try.prog w r b0 31 v) (hd : DataW.Trod enc Try.prog w base spare held 31 v d ps) :
    ∃ (A : Option Addr) (n c : Nat) (L : List Bool), v = .slice A n c ∧ L.length = n ∧ n ≤ c ∧ c ≤ maxLen ∧ (A = none → n = 0) ∧ Rd w A (bools L) := by
  obtain ⟨A, n, c, rfl⟩ := okWide_slice Try.underlying31 hval
  obtain ⟨fuel, hf⟩ := hd
  rcases Go.Deep.open_slice1 Try.underlying31 (by kernel_rfl) hf with ⟨hcs, _⟩ | ⟨a, len, cap, m, n', V, D, Pl, hcs, _, hl, hm, hmm, _, hx⟩
  · simp [Value.cells] at hcs
    obtain ⟨rfl, rfl, rfl⟩ := hcs
    exact ⟨none, 0, 0, [], rfl, rfl, Nat.le_refl _, Nat.zero_le _, fun _ => rfl, .inl rfl⟩
  · simp [Value.cells] at hcs
    obtain ⟨rfl, rfl, rfl⟩ := hcs
    have hlm : n ≤ m := by rw [hmm]; split <;> omega
    obtain ⟨B, hB⟩ := Go.Deep.choose_lt (α := Bool) (p := fun i b => V i = .bool b) (fun i (hi : i < n) => by
      obtain ⟨b, h1, h2⟩ := DataW.trod_bool Try.underlying4 (hx i (by omega)).2
      exact ⟨b, by simpa using h1⟩)
    refine ⟨some a, n, c, (List.range n).map B, rfl, by simp, hl, hm, (fun h => by cases h), rd_of_cells fun j hj => ?_⟩
    have hj' : j < n := by simpa [bools] using hj
    rw [(hx j (by omega)).1, hB j hj']
    simp [bools]
end Go.Proofs.Ytdcebkilekdllaa
