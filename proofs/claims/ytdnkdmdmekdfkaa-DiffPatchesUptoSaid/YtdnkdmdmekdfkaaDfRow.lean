/- Reading a slice of entities that came in; how much it is. -/
import Derived.Test.YtdnkdmdmekdfkaaDf19
import Derived.Test.YtdnkdmdmekdfkaaScRow
import Derived.Test.YtdnkdmdmekdfkaaRows
import Derived.Deep.Slices
namespace Go.Proofs.Ytdnkdmdmekdfkaa
open Go.ChangeShapes Go.WideShapes Go.RowKit
theorem bulk_one {H : Type} (d : DataW H) : 1 ≤ Rows.uptoBulk d := by
  cases d with
  | lit l => cases l <;> simp [Rows.uptoBulk]
  | nil => simp [Rows.uptoBulk]
  | ptr d => simp [Rows.uptoBulk]
  | slice elems spare => simp [Rows.uptoBulk]
  | agg parts => simp [Rows.uptoBulk]
  | iface t d => simp [Rows.uptoBulk]
  | map entries => simp [Rows.uptoBulk]
  | held h => simp [Rows.uptoBulk]
theorem bulk_sum {H : Type} (D : Nat → DataW H) (f : Nat → Nat) : ∀ (l : List Nat), (∀ i ∈ l, f i + 1 ≤ Rows.uptoBulk (D i)) → (l.map f).sum + l.length ≤ Rows.uptoBulkAll (l.map D)
  | [], _ => by simp [Rows.uptoBulkAll]
  | i :: l, h => by
    have h1 := h i (List.mem_cons_self ..)
    have h2 := bulk_sum D f l (fun j hj => h j (List.mem_cons_of_mem _ hj))
    simp only [List.map_cons, List.sum_cons, List.length_cons, Rows.uptoBulkAll]
    omega
theorem Al_map {R : Sl → List C4 → Prop} (f : Nat → E4) (g : Nat → Et) : ∀ (l : List Nat), (∀ i ∈ l, (f i).1 = (g i).1 ∧ R (f i).2 (g i).2) → Al R (l.map f) (l.map g)
  | [], _ => trivial
  | i :: l, h => ⟨h i (List.mem_cons_self ..), Al_map f g l (fun j hj => h j (List.mem_cons_of_mem _ hj))⟩
theorem u32_of_wf {i : Int} (h : (Lit.int .u32 i).wf = true) : ∃ n : Nat, i = n ∧ n < 4294967296 := by
  have h1 : IntKind.u32.max = 4294967295 := by decide
  have h2 : IntKind.u32.min = 0 := by decide
  simp only [Lit.wf, IntKind.has, Bool.and_eq_true, decide_eq_true_eq] at h
  exact ⟨i.toNat, by omega, by omega⟩
set_option maxRecDepth 100000 in
theorem co_cells {H : Type} {enc : TypeId × Value → H} {w : World} {base : Nat} {spare : Nat → Bool} {held : Bool} {fuel : Nat} {V : Value} {y : DataW H × List MemPlace} (hf : DataW.trod enc Try.prog w base spare held fuel 41 [V] = some y) :
    ∃ (s : Sl) (l : List C4), V = .slice s.1 s.2.1 s.2.2 ∧ Co w s l ∧ (∀ q ∈ l, q.k < 256) ∧ l.length + 1 ≤ Rows.uptoBulk y.1 := by
  rcases Go.Deep.open_slice Try.underlying41 hf with ⟨hcs, rfl⟩ | ⟨a, len, cap, m, n', D, Pl, hcs, _, hl, hm, hmm, rfl, hcell⟩
  · obtain rfl : V = .slice none 0 0 := by simpa using hcs
    exact ⟨(none, 0, 0), [], rfl, Co.zero _ _, (fun q h => by cases h), bulk_one _⟩
  · obtain rfl : V = .slice (some a) len cap := by simpa using hcs
    have hlm : len ≤ m := by rw [hmm]; split <;> omega
    have hC : Try.prog.cellsOf 46 = 4 := by kernel_rfl
    have each : ∀ i, i < len → ∃ q : C4, w.cell? (a.add (i * 4)) = some (.int .u8 q.k) ∧ w.cell? (a.add (i * 4 + 1)) = some (.int .i32 q.a) ∧ w.cell? (a.add (i * 4 + 2)) = some (.int .i32 q.b) ∧ w.cell? (a.add (i * 4 + 3)) = some (.int .i32 q.c) ∧ q.k < 256 := by
      intro i hi
      obtain ⟨cs', h1, h2⟩ := hcell i (by omega)
      rw [hC] at h1
      obtain ⟨_, hlen, hat⟩ := World.cells?_some h1
      match cs', hlen with
      | [v0, v1, v2, v3], _ =>
        obtain ⟨k, a', b', c', hk, rfl, rfl, rfl, rfl, -⟩ := comp_cells h2
        have e0 := hat 0 (by omega)
        have e1 := hat 1 (by omega)
        have e2 := hat 2 (by omega)
        have e3 := hat 3 (by omega)
        rw [Go.Deep.add_add] at e0 e1 e2 e3
        exact ⟨⟨k, a', b', c'⟩, by simpa using e0, by simpa using e1, by simpa using e2, by simpa using e3, hk⟩
    obtain ⟨q, hq⟩ := Go.Deep.choose_lt each
    have hlen : ((List.range len).map q).length = len := by simp
    refine ⟨(some a, len, cap), (List.range len).map q, rfl, ⟨hlen, (fun h => by cases h), rd_of_cells fun j hj => ?_⟩, fun u hu => ?_, ?_⟩
    · rw [ccells_length, hlen] at hj
      obtain ⟨g0, g1, g2, g3⟩ := ccells_get ((List.range len).map q) (j / 4) (by rw [hlen]; omega)
      obtain ⟨c0, c1, c2, c3, _⟩ := hq (j / 4) (by omega)
      simp only [List.getElem_map, List.getElem_range] at g0 g1 g2 g3
      have hjl : j < (ccells ((List.range len).map q)).length := by rw [ccells_length, hlen]; omega
      have h4 : j % 4 = 0 ∨ j % 4 = 1 ∨ j % 4 = 2 ∨ j % 4 = 3 := by omega
      rcases h4 with h | h | h | h
      · have e : j / 4 * 4 = j := by omega
        rw [e] at g0 c0
        rw [List.getElem?_eq_getElem hjl] at g0
        rw [c0, ← g0]
      · have e : j / 4 * 4 + 1 = j := by omega
        rw [e] at g1 c1
        rw [List.getElem?_eq_getElem hjl] at g1
        rw [c1, ← g1]
      · have e : j / 4 * 4 + 2 = j := by omega
        rw [e] at g2 c2
        rw [List.getElem?_eq_getElem hjl] at g2
        rw [c2, ← g2]
      · have e : j / 4 * 4 + 3 = j := by omega
        rw [e] at g3 c3
        rw [List.getElem?_eq_getElem hjl] at g3
        rw [c3, ← g3]
    · obtain ⟨i, hi, rfl⟩ := List.mem_map.1 hu
      exact (hq i (List.mem_range.1 hi)).2.2.2.2
    · rw [hlen]
      have := bulk_sum D (fun _ => 0) (List.range len) (fun i _ => by have := bulk_one (D i); omega)
      rw [List.length_range] at this
      simp only [Rows.uptoBulk]
      omega
set_option maxRecDepth 100000 in
theorem ent_cells {H : Type} {enc : TypeId × Value → H} {w : World} {base : Nat} {spare : Nat → Bool} {held : Bool} {fuel : Nat} {c0 c1 : Value} {x : DataW H × List MemPlace} (hf : DataW.trod enc Try.prog w base spare held fuel 43 [c0, c1] = some x) :
    ∃ (e : E4) (l : List C4), c0 = .int .u32 e.1 ∧ c1 = .slice e.2.1 e.2.2.1 e.2.2.2 ∧ e.1 < 4294967296 ∧ Co w e.2 l ∧ (∀ q ∈ l, q.k < 256) ∧ l.length + 1 ≤ Rows.uptoBulk x.1 := by
  obtain ⟨y0, y1, n, rfl, -, t0, t1⟩ := trod_struct2 Try.underlying43 hf
  rw [show (([c0, c1] : List Value).drop _).take _ = [c0] by first | kernel_rfl | rfl] at t0
  rw [show (([c0, c1] : List Value).drop _).take _ = [c1] by first | kernel_rfl | rfl] at t1
  obtain ⟨i0, e0, -, wf0⟩ := DataW.trod_int Try.underlying40 t0
  obtain ⟨s, l, rfl, hco, hk, hb⟩ := co_cells t1
  obtain rfl : c0 = _ := by simpa using e0
  obtain ⟨i, rfl, hi⟩ := u32_of_wf wf0
  refine ⟨(i, s), l, rfl, rfl, hi, hco, hk, ?_⟩
  have := bulk_one y0.1
  simp only [Rows.uptoBulk, Rows.uptoBulkAll]
  omega
set_option maxRecDepth 100000 in
/-- entities, in the cells of a slice -/
theorem ents_cells {H : Type} {enc : TypeId × Value → H} {w : World} {base : Nat} {spare : Nat → Bool} {held : Bool} {fuel : Nat} {V : Value} {y : DataW H × List MemPlace} (hf : DataW.trod enc Try.prog w base spare held fuel 22 [V] = some y) :
    ∃ (A : Option Addr) (n c : Nat) (L : List Et), V = .slice A n c ∧ EnL w A n L ∧ Bd L ∧ n + sumL L ≤ Rows.uptoBulk y.1 := by
  rcases Go.Deep.open_slice Try.underlying22 hf with ⟨hcs, rfl⟩ | ⟨a, len, cap, m, n', D, Pl, hcs, _, hl, hm, hmm, rfl, hcell⟩
  · obtain rfl : V = .slice none 0 0 := by simpa using hcs
    exact ⟨none, 0, 0, [], rfl, EnL.zero _, (fun q h => by cases h), Nat.zero_le _⟩
  · obtain rfl : V = .slice (some a) len cap := by simpa using hcs
    have hlm : len ≤ m := by rw [hmm]; split <;> omega
    have hC : Try.prog.cellsOf 43 = 2 := by kernel_rfl
    have each : ∀ i, i < len → ∃ o : E4 × List C4, w.cell? (a.add (i * 2)) = some (.int .u32 o.1.1) ∧ w.cell? (a.add (i * 2 + 1)) = some (.slice o.1.2.1 o.1.2.2.1 o.1.2.2.2) ∧ o.1.1 < 4294967296 ∧ Co w o.1.2 o.2 ∧ (∀ q ∈ o.2, q.k < 256) ∧ o.2.length + 1 ≤ Rows.uptoBulk (D i) := by
      intro i hi
      obtain ⟨cs', h1, h2⟩ := hcell i (by omega)
      rw [hC] at h1
      obtain ⟨_, hlen, hat⟩ := World.cells?_some h1
      match cs', hlen with
      | [v0, v1], _ =>
        obtain ⟨e, l, rfl, rfl, hi', hco, hk, hb⟩ := ent_cells h2
        have e0 := hat 0 (by omega)
        have e1 := hat 1 (by omega)
        rw [Go.Deep.add_add] at e0 e1
        exact ⟨(e, l), by simpa using e0, by simpa using e1, hi', hco, hk, hb⟩
    obtain ⟨q, hq⟩ := Go.Deep.choose_lt each
    have hle : ((List.range len).map fun i => (q i).1).length = len := by simp
    have hbs := bulk_sum D (fun i => (q i).2.length) (List.range len) (fun i hi => (hq i (List.mem_range.1 hi)).2.2.2.2.2)
    rw [List.length_range] at hbs
    refine ⟨some a, len, cap, (List.range len).map fun i => ((q i).1.1, (q i).2), rfl, ⟨by simp, (fun h => by cases h), (List.range len).map fun i => (q i).1, rd_of_cells fun j hj => ?_, Al_map _ _ _ fun i hi => ⟨rfl, (hq i (List.mem_range.1 hi)).2.2.2.1⟩⟩, fun x hx => ?_, ?_⟩
    · rw [ec_length, hle] at hj
      obtain ⟨g0, g1⟩ := ec_get ((List.range len).map fun i => (q i).1) (j / 2) (by rw [hle]; omega)
      obtain ⟨c0, c1, _⟩ := hq (j / 2) (by omega)
      simp only [List.getElem_map, List.getElem_range] at g0 g1
      have hjl : j < (ec ((List.range len).map fun i => (q i).1)).length := by rw [ec_length, hle]; omega
      have h4 : j % 2 = 0 ∨ j % 2 = 1 := by omega
      rcases h4 with h | h
      · have e : j / 2 * 2 = j := by omega
        rw [e] at g0 c0
        rw [List.getElem?_eq_getElem hjl] at g0
        rw [c0, ← g0]
      · have e : j / 2 * 2 + 1 = j := by omega
        rw [e] at g1 c1
        rw [List.getElem?_eq_getElem hjl] at g1
        rw [c1, ← g1]
    · obtain ⟨i, hi, rfl⟩ := List.mem_map.1 hx
      have := hq i (List.mem_range.1 hi)
      exact ⟨this.2.2.1, this.2.2.2.2.1⟩
    · unfold sumL
      rw [List.map_map]
      have e : ((fun x : Et => x.2.length) ∘ fun i => ((q i).1.1, (q i).2)) = fun i => (q i).2.length := rfl
      rw [e]
      simp only [Rows.uptoBulk]
      omega
set_option maxRecDepth 100000 in
theorem open_ents {H : Type} {enc : TypeId × Value → H} {w : World} {base : Nat} {spare : Nat → Bool} {held : Bool} {r : Reach} {b0 : Nat} {v : Value} {d : DataW H} {ps : List MemPlace} (hval : Value.okWide Try.prog w r b0 22 v) (hd : DataW.Trod enc Try.prog w base spare held 22 v d ps) :
    ∃ (A : Option Addr) (n c : Nat) (L : List Et), v = .slice A n c ∧ EnL w A n L ∧ Bd L ∧ n + sumL L ≤ Rows.uptoBulk d := by
  obtain ⟨A, n, c, rfl⟩ := okWide_slice Try.underlying22 hval
  obtain ⟨fuel, hf⟩ := hd
  obtain ⟨A', n', c', L, e, h1, h2, h3⟩ := ents_cells (V := .slice A n c) hf
  exact ⟨A', n', c', L, e, h1, h2, h3⟩
end Go.Proofs.Ytdnkdmdmekdfkaa
