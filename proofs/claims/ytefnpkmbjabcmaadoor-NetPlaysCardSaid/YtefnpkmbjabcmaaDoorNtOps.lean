/- Reading a script that came in. -/
import Derived.Test.YtefnpkmbjabcmaaDoorNt13
import Derived.Test.YtefnpkmbjabcmaaDoorNtRow
import Derived.Deep.Slices
import Derived.ChangeShapes
import Derived.WideShapes
import Derived.ChangeArms
import Derived.ChangeSame
namespace Go.Proofs.YtefnpkmbjabcmaaDoor
open Go.ChangeShapes Go.WideShapes Go.RowKit
section
variable {H : Type} {enc : TypeId × Value → H} {w : World} {base : Nat} {spare : Nat → Bool} {held : Bool} {P : Program}
theorem trod_struct5 {t : TypeId} {f0 f1 f2 f3 f4 : Field} {fuel : Nat} {cs : List Value} {x : DataW H × List MemPlace} (ht : P.underlying t = some (.struct #[f0, f1, f2, f3, f4])) (h : DataW.trod enc P w base spare held fuel t cs = some x) :
    ∃ y0 y1 y2 y3 y4 n, DataW.trod enc P w base spare held n f0.type ((cs.drop f0.offset).take (P.cellsOf f0.type)) = some y0 ∧
      DataW.trod enc P w base spare held n f1.type ((cs.drop f1.offset).take (P.cellsOf f1.type)) = some y1 ∧ DataW.trod enc P w base spare held n f2.type ((cs.drop f2.offset).take (P.cellsOf f2.type)) = some y2 ∧
      DataW.trod enc P w base spare held n f3.type ((cs.drop f3.offset).take (P.cellsOf f3.type)) = some y3 ∧ DataW.trod enc P w base spare held n f4.type ((cs.drop f4.offset).take (P.cellsOf f4.type)) = some y4 := by
  obtain ⟨xs, n, _, rfl, hl, hlen, hf⟩ := DataW.trod_struct ht h
  match xs, hlen with
  | [y0, y1, y2, y3, y4], _ => exact ⟨y0, y1, y2, y3, y4, n, by simpa using hf 0 f0 rfl, by simpa using hf 1 f1 rfl, by simpa using hf 2 f2 rfl, by simpa using hf 3 f3 rfl, by simpa using hf 4 f4 rfl⟩
end
theorem bd64 (i : Int) (h : (Lit.int .i64 i).wf = true) : -9223372036854775808 ≤ i ∧ i ≤ 9223372036854775807 := by
  have h1 : IntKind.i64.max = 9223372036854775807 := by decide
  have h2 : IntKind.i64.min = -9223372036854775808 := by decide
  simp only [Lit.wf, IntKind.has, Bool.and_eq_true, decide_eq_true_eq] at h
  omega
theorem bytes_cells {H : Type} {enc : TypeId × Value → H} {w : World} {base : Nat} {held : Bool} {fuel : Nat} {V : Value} {y : DataW H × List MemPlace} (h : DataW.trod enc Tryd.prog w base (fun _ => true) held fuel 22 [V] = some y) :
    ∃ (f : List (BitVec 8)) (B : Option Addr) (c : Nat), V = .slice B f.length c ∧ f.length ≤ c ∧ (B = none → f.length = 0) ∧ Rd w B (u8s f) := by
  rcases open_ints Tryd.underlying22 Tryd.underlying5 (by kernel_rfl) h with ⟨hcs, _⟩ | ⟨x, l, c, zs, hcs, _, hl, hm, hz, hx, hcell, hwz⟩
  · obtain rfl : V = .slice none 0 0 := by simpa using hcs
    exact ⟨[], none, 0, rfl, Nat.le_refl _, fun _ => rfl, .inl rfl⟩
  · obtain rfl : V = .slice (some x) l c := by simpa using hcs
    obtain ⟨xs, hxl, hxc, hxA, hxr⟩ := bytes_of_row (w := w) (a := some x) (len := l) (cap := c) (zs := zs) (.inr ⟨x, rfl, hl, hm, by simpa using hz, hcell, hwz⟩)
    exact ⟨xs, some x, c, by rw [hxl], by omega, (fun h => by cases h), hxr⟩
/-- what the six cells of a call are -/
theorem call_cells {H : Type} {enc : TypeId × Value → H} {w : World} {base : Nat} {held : Bool} {fuel : Nat} {c0 c1 c2 c3 c4 c5 : Value} {x : DataW H × List MemPlace} (hf : DataW.trod enc Tryd.prog w base (fun _ => true) held fuel 48 [c0, c1, c2, c3, c4, c5] = some x) :
    ∃ o : OpIt, [c0, c1, c2, c3, c4, c5] = ocells o ∧ o.ok w := by
  obtain ⟨y0, y1, y2, y3, y4, n, t0, t1, t2, t3, t4⟩ := trod_struct5 Tryd.underlying48 hf
  rw [show (([c0, c1, c2, c3, c4, c5] : List Value).drop _).take _ = [c0] by first | kernel_rfl | rfl] at t0
  rw [show (([c0, c1, c2, c3, c4, c5] : List Value).drop _).take _ = [c1, c2] by first | kernel_rfl | rfl] at t1
  rw [show (([c0, c1, c2, c3, c4, c5] : List Value).drop _).take _ = [c3] by first | kernel_rfl | rfl] at t2
  rw [show (([c0, c1, c2, c3, c4, c5] : List Value).drop _).take _ = [c4] by first | kernel_rfl | rfl] at t3
  rw [show (([c0, c1, c2, c3, c4, c5] : List Value).drop _).take _ = [c5] by first | kernel_rfl | rfl] at t4
  obtain ⟨i0, e0, -, wf0⟩ := DataW.trod_int Tryd.underlying5 t0
  obtain ⟨z0, z1, mm, -, -, u0, u1⟩ := trod_struct2 Tryd.underlying36 t1
  rw [show (([c1, c2] : List Value).drop _).take _ = [c1] by first | kernel_rfl | rfl] at u0
  rw [show (([c1, c2] : List Value).drop _).take _ = [c2] by first | kernel_rfl | rfl] at u1
  obtain ⟨i1, e1, -, wf1⟩ := DataW.trod_int Tryd.underlying3 u0
  obtain ⟨f, B, c, rfl, h1, h2, h3⟩ := bytes_cells u1
  obtain ⟨i3, e3, -, wf3⟩ := DataW.trod_int Tryd.underlying3 t2
  obtain ⟨i4, e4, -, wf4⟩ := DataW.trod_int Tryd.underlying3 t3
  obtain ⟨i5, e5, -, wf5⟩ := DataW.trod_int Tryd.underlying23 t4
  obtain rfl : c0 = _ := by simpa using e0
  obtain rfl : c1 = _ := by simpa using e1
  obtain rfl : c3 = _ := by simpa using e3
  obtain rfl : c4 = _ := by simpa using e4
  obtain rfl : c5 = _ := by simpa using e5
  obtain ⟨b, rfl⟩ := bv8_of_wf wf0
  obtain ⟨p, rfl⟩ := bv32_of_wf wf5
  exact ⟨⟨b.toNat, i1, B, c, f, i3, i4, p.toNat⟩, rfl, b.isLt, h1, h2, h3, bd64 _ wf1, bd64 _ wf3, bd64 _ wf4, p.isLt⟩
set_option maxRecDepth 100000 in
theorem open_calls {H : Type} {enc : TypeId × Value → H} {w : World} {base : Nat} {held : Bool} {r : Reach} {b0 : Nat} {v : Value} {d : DataW H} {ps : List MemPlace} (hval : Value.okWide Tryd.prog w r b0 43 v) (hd : DataW.Trod enc Tryd.prog w base (fun _ => true) held 43 v d ps) :
    ∃ (A : Option Addr) (n c : Nat) (os : List OpIt), v = .slice A n c ∧ os.length = n ∧ n ≤ c ∧ IsOps w A os := by
  obtain ⟨A, n, c, rfl⟩ := okWide_slice Tryd.underlying43 hval
  obtain ⟨fuel, hf⟩ := hd
  rcases Go.Deep.open_slice Tryd.underlying43 hf with ⟨hcs, _⟩ | ⟨a, len, cap, m, n', D, Pl, hcs, _, hl, hm, hmm, _, hcell⟩
  · simp [Value.cells] at hcs
    obtain ⟨rfl, rfl, rfl⟩ := hcs
    exact ⟨none, 0, 0, [], rfl, rfl, Nat.le_refl _, .inl rfl, fun q h => by cases h⟩
  · simp [Value.cells] at hcs
    obtain ⟨rfl, rfl, rfl⟩ := hcs
    have hlm : n ≤ m := by rw [hmm]; split <;> omega
    have hC : Tryd.prog.cellsOf 48 = 6 := by kernel_rfl
    have each : ∀ i, i < n → ∃ o : OpIt, (∀ k, k < 6 → w.cell? (a.add (i * 6 + k)) = (ocells o)[k]?) ∧ o.ok w := by
      intro i hi
      obtain ⟨cs', h1, h2⟩ := hcell i (by omega)
      rw [hC] at h1
      obtain ⟨_, hlen, hat⟩ := World.cells?_some h1
      match cs', hlen with
      | [v0, v1, v2, v3, v4, v5], _ =>
        obtain ⟨o, ho, hok⟩ := call_cells h2
        refine ⟨o, fun k hk => ?_, hok⟩
        have e := hat k (by simpa using hk)
        rw [Go.Deep.add_add] at e
        rw [e, ← ho]
    haveI : Inhabited OpIt := ⟨⟨0, 0, none, 0, [], 0, 0, 0⟩⟩
    obtain ⟨q, hq⟩ := Go.Deep.choose_lt (α := OpIt) (p := fun i (o : OpIt) => (∀ k, k < 6 → w.cell? (a.add (i * 6 + k)) = (ocells o)[k]?) ∧ o.ok w) each
    have hlen : ((List.range n).map q).length = n := by simp
    refine ⟨some a, n, c, (List.range n).map q, rfl, hlen, hl, rd_of_cells fun j hj => ?_, fun u hu => ?_⟩
    · have hj6 : j < n * 6 := by rw [ocells_length, hlen] at hj; exact hj
      have hd6 : j / 6 < n := by omega
      have e := ocells_at ((List.range n).map q) (j / 6) (by rw [hlen]; exact hd6) (j % 6) (by omega)
      have e2 := (hq (j / 6) hd6).1 (j % 6) (by omega)
      rw [show j / 6 * 6 + j % 6 = j by omega] at e e2
      rw [e2, ← List.getElem?_eq_getElem hj, e]
      simp
    · obtain ⟨i, hi, rfl⟩ := List.mem_map.1 hu
      exact (hq i (List.mem_range.1 hi)).2
end Go.Proofs.YtefnpkmbjabcmaaDoor
