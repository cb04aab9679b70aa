/- Reading slices of bytes that came in. -/
import Derived.Test.YtefnpkmbjabcmaaDoorNtL1
import Derived.Deep.Slices
import Derived.ChangeShapes
import Derived.WideShapes
import Derived.ChangeArms
import Derived.SizedLaws
namespace Go.Proofs.YtefnpkmbjabcmaaDoor
open Go.ChangeShapes Go.WideShapes Go.RowKit

theorem weightsAll_mem {H : Type} {P : Program} {e : TypeId} : ∀ {l : List (DataW H)} {d : DataW H}, d ∈ l → ∀ n ∈ d.weights P e, n ∈ DataW.weightsAll P e l
  | x :: l, d, hd, n, hn => by
    rw [DataW.weightsAll]
    rcases List.mem_cons.1 hd with rfl | hd
    · exact List.mem_append_left _ hn
    · exact List.mem_append_right _ (weightsAll_mem hd n hn)
/-- a slice of bytes that came in, its length within the reach -/
theorem open_bytes {H : Type} {enc : TypeId × Value → H} {w : World} {base : Nat} {held : Bool} {fuel : Nat} {V : Value} {d : DataW H} {ps : List MemPlace} (h : DataW.trod enc Tryd.prog w base (fun _ => true) held fuel 22 [V] = some (d, ps)) (hr : ∀ k ∈ d.weights Tryd.prog 22, k ≤ reachBytes) :
    ∃ (f : List (BitVec 8)) (B : Option Addr) (c : Nat), V = .slice B f.length c ∧ f.length ≤ c ∧ (B = none → f.length = 0) ∧ Rd w B (u8s f) ∧ f.length ≤ 140737488351232 := by
  rcases open_ints Tryd.underlying22 Tryd.underlying5 (by kernel_rfl) h with ⟨hcs, _⟩ | ⟨x, l, c, zs, hcs, _, hl, hm, hz, hx, hcell, hwz⟩
  · obtain rfl : V = .slice none 0 0 := by simpa using hcs
    exact ⟨[], none, 0, rfl, Nat.le_refl _, fun _ => rfl, .inl rfl, Nat.zero_le _⟩
  · obtain rfl : V = .slice (some x) l c := by simpa using hcs
    obtain ⟨xs, hxl, hxc, hxA, hxr⟩ := bytes_of_row (w := w) (a := some x) (len := l) (cap := c) (zs := zs) (.inr ⟨x, rfl, hl, hm, by simpa using hz, hcell, hwz⟩)
    refine ⟨xs, some x, c, by rw [hxl], by omega, (fun h => by cases h), hxr, ?_⟩
    have hd : d = .slice (lits .u8 (zs.take l)) (lits .u8 (zs.drop l)) := congrArg Prod.fst hx
    have hb : Tryd.prog.bytesOf 5 = 1 := by kernel_rfl
    have hw := hr ((lits (H := H) .u8 (zs.take l)).length + (lits (H := H) .u8 (zs.drop l)).length) (by
      rw [hd, DataW.weights, Tryd.underlying22]
      simp [hb])
    have hrb : reachBytes = 140737488351232 := by decide
    have hz' : zs.length = c := by simpa using hz
    simp only [lits, List.length_map, List.length_take, List.length_drop] at hw
    omega
set_option maxRecDepth 100000 in
theorem open_byterows {H : Type} {enc : TypeId × Value → H} {w : World} {base : Nat} {held : Bool} {r : Reach} {b0 : Nat} {v : Value} {d : DataW H} {ps : List MemPlace} (hval : Value.okWide Tryd.prog w r b0 28 v) (hd : DataW.Trod enc Tryd.prog w base (fun _ => true) held 28 v d ps) (hr : ∀ k ∈ d.weights Tryd.prog 28, k ≤ reachBytes) :
    ∃ (A : Option Addr) (n c : Nat) (vs : List Value) (fs : List (List (BitVec 8))), v = .slice A n c ∧ fs.length = n ∧ n ≤ c ∧ IsRows w A vs fs := by
  obtain ⟨A, n, c, rfl⟩ := okWide_slice Tryd.underlying28 hval
  obtain ⟨fuel, hf⟩ := hd
  rcases Go.Deep.open_slice1 Tryd.underlying28 (by kernel_rfl) hf with ⟨hcs, _⟩ | ⟨a, len, cap, m, n', V, D, Pl, hcs, _, hl, hm, hmm, hx, hel⟩
  · simp [Value.cells] at hcs
    obtain ⟨rfl, rfl, rfl⟩ := hcs
    exact ⟨none, 0, 0, [], [], rfl, rfl, Nat.le_refl _, ⟨.inl rfl, rfl, fun i hi => by cases hi⟩⟩
  · simp [Value.cells] at hcs
    obtain ⟨rfl, rfl, rfl⟩ := hcs
    have hlm : n ≤ m := by rw [hmm]; split <;> omega
    obtain ⟨f, hfp⟩ := Go.Deep.choose_lt (α := List (BitVec 8)) (p := fun i (f : List (BitVec 8)) => ∃ (B : Option Addr) (c : Nat), V i = .slice B f.length c ∧ f.length ≤ c ∧ (B = none → f.length = 0) ∧ Rd w B (u8s f) ∧ f.length ≤ 140737488351232) (fun i (hi : i < n) =>
      open_bytes (hel i (by omega)).2 (fun k hk => hr k (by
        have e : d = .slice ((List.range n).map D) ((List.range (m - n)).map fun j => D (n + j)) := congrArg Prod.fst hx
        rw [e, DataW.weights, Tryd.underlying28]
        exact List.mem_cons_of_mem _ (List.mem_append_left _ (weightsAll_mem (List.mem_map.2 ⟨i, List.mem_range.2 hi, rfl⟩) k hk)))))
    refine ⟨some a, n, c, (List.range n).map V, (List.range n).map f, rfl, by simp, hl, ⟨rd_of_cells fun j hj => ?_, by simp, fun i hi => ?_⟩⟩
    · have hj' : j < n := by simpa using hj
      rw [(hel j (by omega)).1]
      simp
    · have hi' : i < n := by simpa using hi
      have e : ((List.range n).map f).getD i [] = f i := by simp [hi']
      obtain ⟨B, c', h1, h2⟩ := hfp i hi'
      rw [e]
      exact ⟨B, c', by simp [hi', h1], h2⟩
end Go.Proofs.YtefnpkmbjabcmaaDoor
