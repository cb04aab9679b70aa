/- Reading a slice of structs that came in: any struct of k cells. -/
import Derived.Test.YtohflgpkimnodaaKit
import Derived.Deep.Slices
import Derived.ChangeShapes
import Derived.WideShapes
import Derived.ChangeArms
namespace Go.Proofs.Ytohflgpkimnodaa
open Go.ChangeShapes Go.WideShapes Go.RowKit
theorem flat_length {α : Type} (f : α → List Value) (k : Nat) (hf : ∀ q, (f q).length = k) (L : List α) : (L.flatMap f).length = L.length * k := by
  induction L with
  | nil => simp
  | cons q L ih => simp only [List.flatMap_cons, List.length_append, List.length_cons, hf, ih, Nat.add_mul]; omega
theorem flat_at {α : Type} (f : α → List Value) (k : Nat) (hf : ∀ q, (f q).length = k) (L : List α) (i : Nat) (h : i < L.length) (j : Nat) (hj : j < k) : (L.flatMap f)[i * k + j]? = (f L[i])[j]? := by
  induction L generalizing i with
  | nil => exact absurd h (Nat.not_lt_zero _)
  | cons q L ih =>
    rw [List.flatMap_cons]
    cases i with
    | zero => rw [Nat.zero_mul, Nat.zero_add, List.getElem?_append_left (by rw [hf]; exact hj)]; rfl
    | succ i =>
      have e : (i + 1) * k + j = (f q).length + (i * k + j) := by rw [hf, Nat.add_mul]; omega
      rw [e, List.getElem?_append_right (by omega), Nat.add_sub_cancel_left]
      exact ih i (by simpa using h)
/-- where the i-th lies -/
theorem Rd.elem {α : Type} {w : World} {A : Option Addr} (f : α → List Value) (k : Nat) (hk : 0 < k) (hf : ∀ q, (f q).length = k) {L : List α} (h : Rd w A (L.flatMap f)) (i : Nat) (hi : i < L.length) :
    ∃ b off, A = some ⟨b, off, none⟩ ∧ ∀ j u, (f L[i])[j]? = some u → w.cell? ⟨b, off + i * k + j, none⟩ = some u := by
  rcases h with h | ⟨b, off, h, hc⟩
  · have := flat_length f k hf L
    rw [h, List.length_nil] at this
    have : 0 < L.length * k := Nat.mul_pos (by omega) hk
    omega
  · refine ⟨b, off, h, fun j u hu => ?_⟩
    have hj : j < k := by rw [← hf L[i]]; exact (List.getElem?_eq_some_iff.1 hu).1
    rw [Nat.add_assoc]
    exact hc _ _ ((flat_at f k hf L i hi j hj).trans hu)
set_option maxRecDepth 100000 in
theorem open_structs {α : Type} [Inhabited α] {H : Type} {enc : TypeId × Value → H} {w : World} {base : Nat} {spare : Nat → Bool} {held : Bool} {r : Reach} {b0 : Nat} {v : Value} {d : DataW H} {ps : List MemPlace} {t e : TypeId} (k : Nat) (hk : 0 < k) (f : α → List Value) (hf : ∀ q, (f q).length = k) (Pq : α → Prop)
    (hu : Try.prog.underlying t = some (.slice e)) (hC : Try.prog.cellsOf e = k)
    (hdec : ∀ fuel cs x, DataW.trod enc Try.prog w base spare held fuel e cs = some x → cs.length = k → ∃ q, cs = f q ∧ Pq q)
    (hval : Value.okWide Try.prog w r b0 t v) (hd : DataW.Trod enc Try.prog w base spare held t v d ps) :
    ∃ (A : Option Addr) (n c : Nat) (L : List α), v = .slice A n c ∧ L.length = n ∧ n ≤ c ∧ c ≤ maxLen ∧ (A = none → n = 0) ∧ Rd w A (L.flatMap f) ∧ ∀ q ∈ L, Pq q := by
  obtain ⟨A, n, c, rfl⟩ := okWide_slice hu hval
  obtain ⟨fuel, hff⟩ := hd
  rcases Go.Deep.open_slice hu hff with ⟨hcs, _⟩ | ⟨a, len, cap, m, n', D, Pl, hcs, _, hl, hm, hmm, _, hcell⟩
  · simp [Value.cells] at hcs
    obtain ⟨rfl, rfl, rfl⟩ := hcs
    exact ⟨none, 0, 0, [], rfl, rfl, Nat.le_refl _, Nat.zero_le _, fun _ => rfl, .inl rfl, fun q h => by cases h⟩
  · simp [Value.cells] at hcs
    obtain ⟨rfl, rfl, rfl⟩ := hcs
    have hlm : n ≤ m := by rw [hmm]; split <;> omega
    have each : ∀ i, i < n → ∃ q : α, (∀ j u, (f q)[j]? = some u → w.cell? (a.add (i * k + j)) = some u) ∧ Pq q := by
      intro i hi
      obtain ⟨cs', h1, h2⟩ := hcell i (by omega)
      rw [hC] at h1
      obtain ⟨_, hlen, hat⟩ := World.cells?_some h1
      obtain ⟨q, rfl, hp⟩ := hdec _ _ _ h2 hlen
      refine ⟨q, fun j u hj => ?_, hp⟩
      have hjk : j < (f q).length := (List.getElem?_eq_some_iff.1 hj).1
      have e0 := hat j (by rw [← hf q]; exact hjk)
      rw [Go.Deep.add_add] at e0
      rw [e0, ← hj, List.getElem?_eq_getElem hjk]
    obtain ⟨q, hq⟩ := Go.Deep.choose_lt each
    have hlen : ((List.range n).map q).length = n := by simp
    refine ⟨some a, n, c, (List.range n).map q, rfl, hlen, hl, hm, (fun h => by cases h), rd_of_cells fun j hj => ?_, fun u hu => ?_⟩
    · have hj' := hj
      rw [flat_length f k hf, hlen] at hj'
      have hi : j / k < n := Nat.div_lt_of_lt_mul (by rw [Nat.mul_comm]; exact hj')
      have hm' : j % k < k := Nat.mod_lt _ hk
      have e : j / k * k + j % k = j := by rw [Nat.mul_comm]; exact Nat.div_add_mod j k
      have g := flat_at f k hf ((List.range n).map q) (j / k) (by rw [hlen]; exact hi) (j % k) hm'
      rw [e] at g
      simp only [List.getElem_map, List.getElem_range] at g
      have := (hq (j / k) hi).1 (j % k) _ (g.symm.trans (List.getElem?_eq_getElem hj))
      rwa [e] at this
    · obtain ⟨i, hi, rfl⟩ := List.mem_map.1 hu
      exact (hq i (List.mem_range.1 hi)).2
end Go.Proofs.Ytohflgpkimnodaa
