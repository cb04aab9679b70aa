/- Reading a delta that came in; how much it is. -/
import Derived.Test.YtdnkdmdmekdfkaaDfRow
import Derived.Test.YtdnkdmdmekdfkaaDfL4
import Derived.Lib.SmallJoins
import Derived.Deep.Strs
namespace Go.Proofs.Ytdnkdmdmekdfkaa
open Go.ChangeShapes Go.WideShapes Go.RowKit
instance : Inhabited Ch := ⟨⟨0, 0#8, [], []⟩⟩
theorem Ah_map {R : Sl → List C4 → Prop} (f : Nat → H4) (g : Nat → Ch) : ∀ (l : List Nat), (∀ i ∈ l, (f i).1 = (g i).id ∧ (f i).2.1 = (g i).lost.toNat ∧ R (f i).2.2.1 (g i).nw ∧ R (f i).2.2.2 (g i).st) → Ah R (l.map f) (l.map g)
  | [], _ => trivial
  | i :: l, h => ⟨h i (List.mem_cons_self ..), Ah_map f g l (fun j hj => h j (List.mem_cons_of_mem _ hj))⟩
set_option maxRecDepth 100000 in
theorem ids_cells {H : Type} {enc : TypeId × Value → H} {w : World} {base : Nat} {spare : Nat → Bool} {held : Bool} {fuel : Nat} {V : Value} {y : DataW H × List MemPlace} (hf : DataW.trod enc Try.prog w base spare held fuel 23 [V] = some y) :
    ∃ (A : Option Addr) (n c : Nat) (l : List Nat), V = .slice A n c ∧ Go_ w (A, n, c) l ∧ n ≤ Rows.uptoBulk y.1 := by
  rcases Go.Deep.open_slice Try.underlying23 hf with ⟨hcs, rfl⟩ | ⟨a, len, cap, m, n', D, Pl, hcs, _, hl, hm, hmm, rfl, hcell⟩
  · obtain rfl : V = .slice none 0 0 := by simpa using hcs
    exact ⟨none, 0, 0, [], rfl, ⟨rfl, fun _ => rfl, .inl rfl⟩, Nat.zero_le _⟩
  · obtain rfl : V = .slice (some a) len cap := by simpa using hcs
    have hlm : len ≤ m := by rw [hmm]; split <;> omega
    have hC : Try.prog.cellsOf 40 = 1 := by kernel_rfl
    have each : ∀ i, i < len → ∃ q : Nat, w.cell? (a.add i) = some (.int .u32 q) := by
      intro i hi
      obtain ⟨cs', h1, h2⟩ := hcell i (by omega)
      rw [hC] at h1
      obtain ⟨_, hlen, hat⟩ := World.cells?_some h1
      match cs', hlen with
      | [v0], _ =>
        obtain ⟨i0, e0, -, wf0⟩ := DataW.trod_int Try.underlying40 h2
        obtain rfl : v0 = _ := by simpa using e0
        obtain ⟨q, rfl, _⟩ := u32_of_wf wf0
        have e0 := hat 0 (by omega)
        rw [Go.Deep.add_add] at e0
        exact ⟨q, by simpa using e0⟩
    obtain ⟨q, hq⟩ := Go.Deep.choose_lt each
    have hbs := bulk_sum D (fun _ => 0) (List.range len) (fun i _ => by have := bulk_one (D i); omega)
    rw [List.length_range] at hbs
    refine ⟨some a, len, cap, (List.range len).map q, rfl, ⟨by simp, (fun h => by cases h), rd_of_cells fun j hj => ?_⟩, ?_⟩
    · rw [u32s_length, List.length_map, List.length_range] at hj
      have := hq j hj
      rw [this]
      simp [u32s]
    · simp only [Rows.uptoBulk]
      omega
set_option maxRecDepth 100000 in
theorem chg_cells {H : Type} {enc : TypeId × Value → H} {w : World} {base : Nat} {spare : Nat → Bool} {held : Bool} {fuel : Nat} {c0 c1 c2 c3 : Value} {x : DataW H × List MemPlace} (hf : DataW.trod enc Try.prog w base spare held fuel 57 [c0, c1, c2, c3] = some x) :
    ∃ (e : H4) (c : Ch), c0 = .int .u32 e.1 ∧ c1 = .int .u8 e.2.1 ∧ c2 = .slice e.2.2.1.1 e.2.2.1.2.1 e.2.2.1.2.2 ∧ c3 = .slice e.2.2.2.1 e.2.2.2.2.1 e.2.2.2.2.2 ∧ (e.1 = c.id ∧ e.2.1 = c.lost.toNat ∧ Co w e.2.2.1 c.nw ∧ Co w e.2.2.2 c.st) ∧ (∀ q ∈ c.nw, q.k < 256) ∧ (∀ q ∈ c.st, q.k < 256) ∧ c.nw.length + c.st.length + 1 ≤ Rows.uptoBulk x.1 := by
  obtain ⟨y0, y1, y2, y3, n, rfl, -, t0, t1, t2, t3⟩ := Go.Joins.trod_struct4 Try.underlying57 hf
  rw [show (([c0, c1, c2, c3] : List Value).drop _).take _ = [c0] by first | kernel_rfl | rfl] at t0
  rw [show (([c0, c1, c2, c3] : List Value).drop _).take _ = [c1] by first | kernel_rfl | rfl] at t1
  rw [show (([c0, c1, c2, c3] : List Value).drop _).take _ = [c2] by first | kernel_rfl | rfl] at t2
  rw [show (([c0, c1, c2, c3] : List Value).drop _).take _ = [c3] by first | kernel_rfl | rfl] at t3
  obtain ⟨i0, e0, -, wf0⟩ := DataW.trod_int Try.underlying40 t0
  obtain ⟨i1, e1, -, wf1⟩ := DataW.trod_int Try.underlying5 t1
  obtain ⟨s, l, rfl, hco, hk, hb⟩ := co_cells t2
  obtain ⟨s', l', rfl, hco', hk', hb'⟩ := co_cells t3
  obtain rfl : c0 = _ := by simpa using e0
  obtain rfl : c1 = _ := by simpa using e1
  obtain ⟨i, rfl, hi⟩ := u32_of_wf wf0
  obtain ⟨b, rfl⟩ := bv8_of_wf wf1
  refine ⟨(i, b.toNat, s, s'), ⟨i, b, l, l'⟩, rfl, rfl, rfl, rfl, ⟨rfl, rfl, hco, hco'⟩, hk, hk', ?_⟩
  have := bulk_one y0.1
  have := bulk_one y1.1
  simp only [Rows.uptoBulk, Rows.uptoBulkAll]
  omega
set_option maxRecDepth 100000 in
theorem chgs_cells {H : Type} {enc : TypeId × Value → H} {w : World} {base : Nat} {spare : Nat → Bool} {held : Bool} {fuel : Nat} {V : Value} {y : DataW H × List MemPlace} (hf : DataW.trod enc Try.prog w base spare held fuel 24 [V] = some y) :
    ∃ (A : Option Addr) (n c : Nat) (L : List Ch), V = .slice A n c ∧ ChL w A n L ∧ (∀ c ∈ L, (∀ q ∈ c.nw, q.k < 256) ∧ ∀ q ∈ c.st, q.k < 256) ∧ n + sumH L ≤ Rows.uptoBulk y.1 := by
  rcases Go.Deep.open_slice Try.underlying24 hf with ⟨hcs, rfl⟩ | ⟨a, len, cap, m, n', D, Pl, hcs, _, hl, hm, hmm, rfl, hcell⟩
  · obtain rfl : V = .slice none 0 0 := by simpa using hcs
    exact ⟨none, 0, 0, [], rfl, ChL.zero _, (fun q h => by cases h), Nat.zero_le _⟩
  · obtain rfl : V = .slice (some a) len cap := by simpa using hcs
    have hlm : len ≤ m := by rw [hmm]; split <;> omega
    have hC : Try.prog.cellsOf 57 = 4 := by kernel_rfl
    have each : ∀ i, i < len → ∃ o : H4 × Ch, w.cell? (a.add (i * 4)) = some (.int .u32 o.1.1) ∧ w.cell? (a.add (i * 4 + 1)) = some (.int .u8 o.1.2.1) ∧ w.cell? (a.add (i * 4 + 2)) = some (.slice o.1.2.2.1.1 o.1.2.2.1.2.1 o.1.2.2.1.2.2) ∧ w.cell? (a.add (i * 4 + 3)) = some (.slice o.1.2.2.2.1 o.1.2.2.2.2.1 o.1.2.2.2.2.2) ∧ (o.1.1 = o.2.id ∧ o.1.2.1 = o.2.lost.toNat ∧ Co w o.1.2.2.1 o.2.nw ∧ Co w o.1.2.2.2 o.2.st) ∧ (∀ q ∈ o.2.nw, q.k < 256) ∧ (∀ q ∈ o.2.st, q.k < 256) ∧ o.2.nw.length + o.2.st.length + 1 ≤ Rows.uptoBulk (D i) := by
      intro i hi
      obtain ⟨cs', h1, h2⟩ := hcell i (by omega)
      rw [hC] at h1
      obtain ⟨_, hlen, hat⟩ := World.cells?_some h1
      match cs', hlen with
      | [v0, v1, v2, v3], _ =>
        obtain ⟨e, c, rfl, rfl, rfl, rfl, k1, k2, k3, k4⟩ := chg_cells h2
        have e0 := hat 0 (by omega)
        have e1 := hat 1 (by omega)
        have e2 := hat 2 (by omega)
        have e3 := hat 3 (by omega)
        rw [Go.Deep.add_add] at e0 e1 e2 e3
        exact ⟨(e, c), by simpa using e0, by simpa using e1, by simpa using e2, by simpa using e3, k1, k2, k3, k4⟩
    obtain ⟨q, hq⟩ := Go.Deep.choose_lt each
    have hle : ((List.range len).map fun i => (q i).1).length = len := by simp
    have hbs := bulk_sum D (fun i => (q i).2.nw.length + (q i).2.st.length) (List.range len) (fun i hi => (hq i (List.mem_range.1 hi)).2.2.2.2.2.2.2)
    rw [List.length_range] at hbs
    refine ⟨some a, len, cap, (List.range len).map fun i => (q i).2, rfl, ⟨by simp, (fun h => by cases h), (List.range len).map fun i => (q i).1, rd_of_cells fun j hj => ?_, Ah_map _ _ _ fun i hi => (hq i (List.mem_range.1 hi)).2.2.2.2.1⟩, fun x hx => ?_, ?_⟩
    · have hjl := hj
      rw [hc_length, hle] at hj
      have hg := hc_get ((List.range len).map fun i => (q i).1) (j / 4) (by rw [hle]; omega) (j % 4) (by omega)
      obtain ⟨c0, c1, c2, c3, _⟩ := hq (j / 4) (by omega)
      rw [show j / 4 * 4 + j % 4 = j by omega, List.getElem?_eq_getElem hjl] at hg
      simp only [List.getElem_map, List.getElem_range] at hg
      have h4 : j % 4 = 0 ∨ j % 4 = 1 ∨ j % 4 = 2 ∨ j % 4 = 3 := by omega
      rcases h4 with h | h | h | h
      · rw [show j / 4 * 4 = j by omega] at c0
        rw [h] at hg
        rw [c0]; exact hg.symm
      · rw [show j / 4 * 4 + 1 = j by omega] at c1
        rw [h] at hg
        rw [c1]; exact hg.symm
      · rw [show j / 4 * 4 + 2 = j by omega] at c2
        rw [h] at hg
        rw [c2]; exact hg.symm
      · rw [show j / 4 * 4 + 3 = j by omega] at c3
        rw [h] at hg
        rw [c3]; exact hg.symm
    · obtain ⟨i, hi, rfl⟩ := List.mem_map.1 hx
      have := hq i (List.mem_range.1 hi)
      exact ⟨this.2.2.2.2.2.1, this.2.2.2.2.2.2.1⟩
    · unfold sumH
      rw [List.map_map]
      have e : ((fun x : Ch => x.nw.length + x.st.length) ∘ fun i => (q i).2) = fun i => (q i).2.nw.length + (q i).2.st.length := rfl
      rw [e]
      simp only [Rows.uptoBulk]
      omega
set_option maxRecDepth 100000 in
theorem open_delta {H : Type} {enc : TypeId × Value → H} {w : World} {base : Nat} {spare : Nat → Bool} {held : Bool} {r : Reach} {b0 : Nat} {v : Value} {d : DataW H} {ps : List MemPlace} (hval : Value.okWide Try.prog w r b0 26 v) (hd : DataW.Trod enc Try.prog w base spare held 26 v d ps) :
    ∃ (g0 : Option Addr) (g1 g2 : Nat) (c0 : Option Addr) (c1 c2 : Nat) (h0 : Option Addr) (h1 h2 : Nat) (D : Dl), v = .agg #[.slice g0 g1 g2, .slice c0 c1 c2, .slice h0 h1 h2] ∧ DlR w g0 g1 g2 c0 c1 h0 h1 D ∧ BdD D ∧ g1 + h1 + sumH D.chg ≤ Rows.uptoBulk d ∧ c1 + sumL D.come ≤ Rows.uptoBulk d := by
  obtain ⟨cs, rfl, hq4⟩ := okWide_struct Try.underlying26 hval
  have hq4' : cs.size = 3 := by rw [hq4]; kernel_rfl
  clear hq4 hval
  obtain ⟨v0, v1, v2, rfl⟩ : ∃ v0 v1 v2, cs = #[v0, v1, v2] := by
    match cs, hq4' with
    | ⟨[a, b, c]⟩, _ => exact ⟨a, b, c, rfl⟩
  obtain ⟨fuel, hf⟩ := hd
  obtain ⟨y0, y1, y2, n, e0, -, t0, t1, t2⟩ := Go.Deep.trod_struct3 Try.underlying26 hf
  rw [show ((Value.agg #[v0, v1, v2]).cells.toList.drop _).take _ = [v0] by first | kernel_rfl | rfl] at t0
  rw [show ((Value.agg #[v0, v1, v2]).cells.toList.drop _).take _ = [v1] by first | kernel_rfl | rfl] at t1
  rw [show ((Value.agg #[v0, v1, v2]).cells.toList.drop _).take _ = [v2] by first | kernel_rfl | rfl] at t2
  obtain ⟨A0, n0, p0, l0, rfl, k0, m0⟩ := ids_cells t0
  obtain ⟨A1, n1, p1, l1, rfl, k1, b1, m1⟩ := ents_cells t1
  obtain ⟨A2, n2, p2, l2, rfl, k2, b2, m2⟩ := chgs_cells t2
  simp only [Prod.mk.injEq] at e0
  obtain ⟨rfl, _⟩ := e0
  have z0 := bulk_one y0.1
  have z1 := bulk_one y1.1
  have z2 := bulk_one y2.1
  refine ⟨A0, n0, p0, A1, n1, p1, A2, n2, p2, ⟨l0, l1, l2⟩, rfl, ⟨k0, k1, k2⟩, ⟨b1, b2⟩, ?_, ?_⟩
  · simp only [Rows.uptoBulk, Rows.uptoBulkAll]
    omega
  · simp only [Rows.uptoBulk, Rows.uptoBulkAll]
    omega
end Go.Proofs.Ytdnkdmdmekdfkaa
