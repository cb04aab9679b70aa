/- Scripts of who comes and goes: what they come to (plain law), and how a step lies in memory. -/
import Derived.Test.YtaliadekdpbfdaaCa2
import Derived.Test.YtaliadekdpbfdaaSlRow
import Derived.Lib.SmallJoins
namespace Go.Proofs.Ytaliadekdpbfdaa
open Go.RowKit Go.Maps Go.ChangeShapes Go.WideShapes
abbrev OpQ := Nat × Nat × Int × Int
def opC (q : OpQ) : List Value := [.int .u8 q.1, .int .u32 q.2.1, .int .i32 q.2.2.1, .int .i32 q.2.2.2]
def opOk (q : OpQ) : Prop := q.1 < 256 ∧ q.2.1 < 4294967296 ∧ inI32 q.2.2.1 ∧ inI32 q.2.2.2
def runM (L : List OpQ) (M : Nat → Option (Int × Int)) : Nat → Option (Int × Int) := L.foldl (fun M q => putM M q.2.1 q.2.2.1 q.2.2.2) M
theorem runM_few (L : List OpQ) : ∀ {M : Nat → Option (Int × Int)} {K : Nat}, Few M K → Few (runM L M) (K + L.length) := by
  induction L with
  | nil => intro M K h; exact h
  | cons q L ih =>
    intro M K h
    have := ih (h.put q.2.1 q.2.2.1 q.2.2.2)
    rw [show K + (q :: L).length = K + 1 + L.length from by simp; omega]
    exact this
theorem take_min_step {α : Type} (L : List α) (j m : Nat) (h : j < L.length) (hm : j < m) : L.take (min (j + 1) m) = L.take (min j m) ++ [L[j]] := by
  rw [Nat.min_eq_left (by omega), Nat.min_eq_left (by omega), List.take_succ_eq_append_getElem h]
theorem take_min_same {α : Type} (L : List α) (j m : Nat) (hm : m ≤ j) : L.take (min (j + 1) m) = L.take (min j m) := by
  rw [Nat.min_eq_right (by omega), Nat.min_eq_right (by omega)]
theorem runM_snoc (L : List OpQ) (q : OpQ) (M : Nat → Option (Int × Int)) : runM (L ++ [q]) M = putM (runM L M) q.2.1 q.2.2.1 q.2.2.2 := by simp [runM]
theorem few_run (L : List OpQ) (j : Nat) : Few (runM (L.take (min j 80)) M0) 80 := by
  have := runM_few (L.take (min j 80)) few0
  refine this.mono ?_
  rw [List.length_take]; omega
theorem putM_no {M : Nat → Option (Int × Int)} {i : Nat} {x y : Int} (h : putE i x y ≠ 0) : putM M i x y = M := by
  unfold putE at h
  unfold putM
  rw [if_neg]
  rintro ⟨h1, h2⟩
  rw [if_neg h1, if_pos h2] at h
  exact h rfl
theorem putM_ok {M : Nat → Option (Int × Int)} {i : Nat} {x y : Int} (h : putE i x y = 0) : putM M i x y = mset M i (some (cell x, cell y)) := by
  unfold putE at h
  unfold putM
  split at h
  · cases h
  · split at h
    · rw [if_pos ⟨by assumption, by assumption⟩]
    · cases h
theorem putE_in {i : Nat} {x y : Int} (h : putE i x y = 0) : inWorld x y := by
  unfold putE at h
  split at h
  · cases h
  · split at h
    · assumption
    · cases h
/-- who is somewhere, by rising IDs -/
theorem sorted_ex (p : Nat → Prop) (hp : ∀ x, p x → x < 4294967296) : ∃ xs : List Nat, xs.Pairwise (· < ·) ∧ ∀ x, x ∈ xs ↔ p x := by
  classical
  refine ⟨(List.range 4294967296).filter fun x => decide (p x), List.Pairwise.filter _ List.pairwise_lt_range, fun x => ?_⟩
  rw [List.mem_filter, List.mem_range, decide_eq_true_iff]
  exact ⟨fun h => h.2, fun h => ⟨hp x h, h⟩⟩
theorem nodup_ex {α : Type} (L : List α) : ∃ l : List α, l.Nodup ∧ ∀ x, x ∈ l ↔ x ∈ L := by
  classical
  induction L with
  | nil => exact ⟨[], List.nodup_nil, fun x => Iff.rfl⟩
  | cons a L ih =>
    obtain ⟨l, h1, h2⟩ := ih
    by_cases q : a ∈ l
    · refine ⟨l, h1, fun x => ?_⟩
      rw [List.mem_cons, h2 x]
      constructor
      · exact .inr
      · rintro (rfl | h)
        · exact (h2 _).1 q
        · exact h
    · exact ⟨a :: l, List.nodup_cons.2 ⟨q, h1⟩, fun x => by rw [List.mem_cons, List.mem_cons, h2 x]⟩
/-- the cells that have somebody -/
theorem cells_ex {M : Nat → Option (Int × Int)} {K : Nat} (f : Few M K) : ∃ us : List (Int × Int), us.Nodup ∧ ∀ s, s ∈ us ↔ ∃ i, M i = some s := by
  classical
  obtain ⟨L, _, h2⟩ := f
  obtain ⟨l, h3, h4⟩ := nodup_ex (L.filterMap M)
  refine ⟨l, h3, fun s => ?_⟩
  rw [h4, List.mem_filterMap]
  exact ⟨fun ⟨i, _, h⟩ => ⟨i, h⟩, fun ⟨i, h⟩ => ⟨i, h2 i s h, h⟩⟩
theorem GR.dom {n0 : Nat} {w : World} {g : Nat} {M : Nat → Option (Int × Int)} (h : GR n0 w g M) {i : Nat} {s : Int × Int} (hi : M i = some s) : i < 4294967296 ∧ inS s := by
  obtain ⟨cb, hb, DC, DH, B, h⟩ := h
  exact h.dom i s hi
theorem mset_back {M : Nat → Option (Int × Int)} {i : Nat} {s : Int × Int} (x : Option (Int × Int)) (h : M i = some s) : mset (mset M i x) i (some s) = M := by
  funext j
  by_cases q : j = i
  · rw [q, mset_same, h]
  · rw [mset_other _ q, mset_other _ q]
theorem mset_id {M : Nat → Option (Int × Int)} {i : Nat} {s : Int × Int} (h : M i = some s) : mset M i (some s) = M := by
  funext j
  by_cases q : j = i
  · rw [q, mset_same, h]
  · rw [mset_other _ q]
set_option maxRecDepth 100000 in
theorem open_script {H : Type} {enc : TypeId × Value → H} {w : World} {base : Nat} {spare : Nat → Bool} {held : Bool} {r : Reach} {b0 : Nat} {v : Value} {d : DataW H} {ps : List MemPlace} (hval : Value.okWide Try.prog w r b0 25 v) (hd : DataW.Trod enc Try.prog w base spare held 25 v d ps) :
    ∃ (A : Option Addr) (n c : Nat) (L : List OpQ), v = .slice A n c ∧ L.length = n ∧ n ≤ c ∧ c ≤ maxLen ∧ (A = none → n = 0) ∧ Rd w A (L.flatMap opC) ∧ ∀ q ∈ L, opOk q := by
  refine open_structs 4 (by decide) opC (fun _ => rfl) opOk Try.underlying25 (by kernel_rfl) (fun fuel cs x hf hl => ?_) hval hd
  obtain ⟨c0, c1, c2, c3, rfl⟩ : ∃ a b c d, cs = [a, b, c, d] := by
    match cs, hl with
    | [a, b, c, d], _ => exact ⟨a, b, c, d, rfl⟩
  obtain ⟨y0, y1, y2, y3, n, -, -, t0, t1, t2, t3⟩ := Go.Joins.trod_struct4 Try.underlying31 hf
  rw [show (([c0, c1, c2, c3] : List Value).drop _).take _ = [c0] by first | kernel_rfl | rfl] at t0
  rw [show (([c0, c1, c2, c3] : List Value).drop _).take _ = [c1] by first | kernel_rfl | rfl] at t1
  rw [show (([c0, c1, c2, c3] : List Value).drop _).take _ = [c2] by first | kernel_rfl | rfl] at t2
  rw [show (([c0, c1, c2, c3] : List Value).drop _).take _ = [c3] by first | kernel_rfl | rfl] at t3
  obtain ⟨i0, e0, -, wf0⟩ := DataW.trod_int Try.underlying5 t0
  obtain ⟨i1, e1, -, wf1⟩ := DataW.trod_int Try.underlying27 t1
  obtain ⟨i2, e2, -, wf2⟩ := DataW.trod_int Try.underlying21 t2
  obtain ⟨i3, e3, -, wf3⟩ := DataW.trod_int Try.underlying21 t3
  obtain rfl : c0 = _ := by simpa using e0
  obtain rfl : c1 = _ := by simpa using e1
  obtain rfl : c2 = _ := by simpa using e2
  obtain rfl : c3 = _ := by simpa using e3
  obtain ⟨n0, rfl, h0⟩ := nat_of_wf wf0 (by decide)
  obtain ⟨n1, rfl, h1⟩ := nat_of_wf wf1 (by decide)
  have m0 : IntKind.u8.max = 255 := by decide
  have m1 : IntKind.u32.max = 4294967295 := by decide
  have m2 : IntKind.i32.max = 2147483647 := by decide
  have m3 : IntKind.i32.min = -2147483648 := by decide
  simp only [Lit.wf, IntKind.has, Bool.and_eq_true, decide_eq_true_eq] at wf2 wf3
  exact ⟨(n0, n1, i2, i3), rfl, by simp only; omega, by simp only; omega, by unfold inI32; simp only; omega, by unfold inI32; simp only; omega⟩
/-- a step's four cells -/
theorem op_at {w : World} {A : Option Addr} {L : List OpQ} (h : Rd w A (L.flatMap opC)) (i : Nat) (hi : i < L.length) :
    ∃ b off, A = some ⟨b, off, none⟩ ∧ w.cell? ⟨b, off + i * 4, none⟩ = some (.int .u8 L[i].1) ∧ w.cell? ⟨b, off + i * 4 + 1, none⟩ = some (.int .u32 L[i].2.1) ∧ w.cell? ⟨b, off + i * 4 + 2, none⟩ = some (.int .i32 L[i].2.2.1) ∧ w.cell? ⟨b, off + i * 4 + 3, none⟩ = some (.int .i32 L[i].2.2.2) := by
  obtain ⟨b, off, e, hc⟩ := h.elem opC 4 (by decide) (fun _ => rfl) i hi
  exact ⟨b, off, e, hc 0 _ rfl, hc 1 _ rfl, hc 2 _ rfl, hc 3 _ rfl⟩
theorem box_at (w : World) (cs : Array Value) (t : TypeId) (k : Nat) (u : Value) (h : cs[k]? = some u) : (w.alloc (.cells cs t)).cell? ⟨w.heap.size, k, none⟩ = some u := by
  rw [World.cell?, heap_alloc_new]
  simpa using h
end Go.Proofs.Ytaliadekdpbfdaa
