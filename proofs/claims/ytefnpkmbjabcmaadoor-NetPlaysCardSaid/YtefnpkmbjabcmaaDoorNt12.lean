/- The program's bag and the reference's, side by side. -/
import Derived.Test.YtefnpkmbjabcmaaDoorNt11
import Derived.Test.YtefnpkmbjabcmaaDoorNtL1
namespace Go.Proofs.YtefnpkmbjabcmaaDoor
open Go.RowKit

/-- both bags, made since w0, apart from each other -/
structure Two (w0 w : World) (gb gr m : Nat) (vb vr : Value) (xs ys : List It) : Prop where
  held : Held w0 w gb vb m xs
  ref : IsRef w gr vr m ys
  rge : w0.heap.size ≤ gr
  rown : ∀ b, vr.ownBlock = some b → w0.heap.size ≤ b
  apart : ∀ b, vb.ownBlock = some b → ¬ vr.ownBlock = some b
theorem ne_obj {w : World} {a b e e' : Nat} {cs ds : Array Value} (ha : w.heap[a]? = some (.cells cs e (0, 0))) (hb : w.heap[b]? = some (.cells ds e' (0, 0))) (h : e ≠ e') : a ≠ b := by
  intro q
  subst q
  rw [ha] at hb
  injection hb with hb
  injection hb with _ hb
  exact h hb
section
variable {w0 w w' : World} {gb gr m : Nat} {vb vr v' : Value} {xs ys zs : List It}
theorem Two.new (h : Two w0 w gb gr m vb vr xs ys) : New w0 w := h.held.new
theorem Two.next (h : Two w0 w gb gr m vb vr xs ys) (k : New w w') : Two w0 w' gb gr m vb vr xs ys :=
  ⟨h.held.next k, h.ref.new k, h.rge, h.rown, h.apart⟩
theorem Two.bag (h : Two w0 w gb gr m vb vr xs ys) (hb : IsBag w' gb v' m zs) (hW : BagWrote gb vb v' w w') : Two w0 w' gb gr m v' vr zs ys :=
  ⟨h.held.step hb hW, h.ref.upd hW.upd (fun q => q.elim (fun e => ne_obj h.ref.obj h.held.bag.obj (by decide) e) (fun e => obj_apart h.ref.obj h.held.bag.row (by decide) e))
    (fun b hb' q => q.elim (fun e => obj_apart h.held.bag.obj h.ref.row (by decide) (e ▸ hb')) (fun e => h.apart b e hb'))
    (fun x hx b hb' q => q.elim (fun e => obj_apart h.held.bag.obj (h.ref.frs x hx) (by decide) (e ▸ hb')) (fun e => own_apart (h.ref.frs x hx) h.held.bag.row (by decide) b hb' e)),
    h.rge, h.rown, fun b hb' hr => (hW.at_ b hb').elim (fun e => h.apart b e hr) (fun e => by have := own_lt h.ref.row b hr; omega)⟩
theorem Two.rf (h : Two w0 w gb gr m vb vr xs ys) (hb : IsRef w' gr v' m zs) (hW : RefWrote gr vr v' w w') : Two w0 w' gb gr m vb v' xs zs :=
  ⟨⟨h.held.new.then hW.upd (fun b hb => .inr (by rw [show b = gr from hb]; exact h.rge)), h.held.bag.upd hW.upd (fun e => ne_obj h.held.bag.obj h.ref.obj (by decide) e)
      (fun b hb' e => obj_apart h.ref.obj h.held.bag.row (by decide) ((show b = gr from e) ▸ hb'))
      (fun x hx b hb' e => obj_apart h.ref.obj (h.held.bag.frs x hx) (by decide) ((show b = gr from e) ▸ hb')), h.held.ge, h.held.own⟩,
    hb, h.rge, fun b hb' => (hW.at_ b hb').elim (h.rown b) (fun q => Nat.le_trans h.held.new.size q),
    fun b hb' hr => (hW.at_ b hr).elim (h.apart b hb') (fun e => by have := own_lt h.held.bag.row b hb'; omega)⟩
theorem Two.box_bag (h : Two w0 w gb gr m vb vr xs ys) (hW : BagWrote gb vb v' w w') {B e : Nat} {cs : Array Value} (hB : w.heap[B]? = some (.cells cs e (0, 0))) (h1 : e ≠ 67) (h2 : 36 ≠ e) : w'.heap[B]? = some (.cells cs e (0, 0)) :=
  hW.upd.blk hB (fun q => q.elim (fun e => ne_obj hB h.held.bag.obj h1 e) (fun e => obj_apart hB h.held.bag.row h2 e))
theorem Two.box_rf (h : Two w0 w gb gr m vb vr xs ys) (hW : RefWrote gr vr v' w w') {B e : Nat} {cs : Array Value} (hB : w.heap[B]? = some (.cells cs e (0, 0))) (h1 : e ≠ 55) : w'.heap[B]? = some (.cells cs e (0, 0)) :=
  hW.upd.blk hB (fun q => ne_obj hB h.ref.obj h1 q)
theorem Two.row_bag (h : Two w0 w gb gr m vb vr xs ys) (hW : BagWrote gb vb v' w w') {B n : Nat} {v : Value} {cs : List Value} (hr : w.ownsRow B 5 1 v n cs) : w'.ownsRow B 5 1 v n cs :=
  own_upd hr hW.upd (fun b hb q => q.elim (fun e => obj_apart h.held.bag.obj hr (by decide) (e ▸ hb)) (fun e => own_apart hr h.held.bag.row (by decide) b hb e))
theorem Two.row_rf (h : Two w0 w gb gr m vb vr xs ys) (hW : RefWrote gr vr v' w w') {B n : Nat} {v : Value} {cs : List Value} (hr : w.ownsRow B 5 1 v n cs) : w'.ownsRow B 5 1 v n cs :=
  own_upd hr hW.upd (fun b hb q => obj_apart h.ref.obj hr (by decide) ((show b = gr from q) ▸ hb))
end
theorem Two.flip {w0 w : World} {gb gr m B g n c : Nat} {vb vr : Value} {xs ys : List It} {cs : List Value} (h : Two w0 w gb gr m vb vr xs ys) (hg : w0.heap.size ≤ g) (hr : w.ownsRow B 5 1 (.slice (some ⟨g, 0, none⟩) n c) n cs)
    (hx : ∀ x ∈ xs, ¬ x.v.ownBlock = some g) (hy : ∀ y ∈ ys, ¬ y.v.ownBlock = some g) (q : Nat) (u : Value) : Two w0 (w.setCell ⟨g, q, none⟩ u) gb gr m vb vr xs ys := by
  have hu := Upd.set1 w ⟨g, q, none⟩ u
  exact ⟨⟨h.held.new.setCell (p := ⟨g, q, none⟩) (.inr hg) _, h.held.bag.upd hu (fun e => obj_apart h.held.bag.obj hr (by decide) (by rw [show gb = g from e]; rfl)) (fun b hb e => own_apart hr h.held.bag.row (by decide) g rfl (by rw [← (show b = g from e)]; exact hb)) (fun x hx' b hb e => hx x hx' (by rw [hb, show b = g from e])), h.held.ge, h.held.own⟩,
    h.ref.upd hu (fun e => obj_apart h.ref.obj hr (by decide) (by rw [show gr = g from e]; rfl)) (fun b hb e => own_apart hr h.ref.row (by decide) g rfl (by rw [← (show b = g from e)]; exact hb)) (fun x hx' b hb e => hy x hx' (by rw [hb, show b = g from e])), h.rge, h.rown, h.apart⟩
theorem box_flip {w : World} {B g n c e bx : Nat} {cs : List Value} {ds : Array Value} (hb : w.heap[bx]? = some (.cells ds e (0, 0))) (hr : w.ownsRow B 5 1 (.slice (some ⟨g, 0, none⟩) n c) n cs) (he : 5 ≠ e) (q : Nat) (u : Value) : (w.setCell ⟨g, q, none⟩ u).heap[bx]? = some (.cells ds e (0, 0)) :=
  (Upd.set1 w ⟨g, q, none⟩ u).blk hb (fun e' => obj_apart hb hr he (by rw [show bx = g from e']; rfl))
theorem flip1 (y : BitVec 8) : bits .xor .u8 (y.toNat : Int) 1 = ((y ^^^ 1#8).toNat : Int) := xor_bits8 y 1#8
/-- the two hold the same -/
structure Alike (m : Nat) (xs ys : List It) : Prop where
  sig : sig xs = sig ys
  len : xs.length ≤ m
  frs : ∀ x ∈ xs, x.fr.length ≤ 40
section
variable {m : Nat} {xs ys : List It}
theorem Alike.length (h : Alike m xs ys) : ys.length = xs.length := by have := congrArg List.length h.sig; simpa [sig_length] using this.symm
theorem Alike.at_ (h : Alike m xs ys) (i : Nat) (hi : i < xs.length) : ∃ x y, xs[i]? = some x ∧ ys[i]? = some y ∧ x.to = y.to ∧ x.fr = y.fr ∧ x.fr.length ≤ 40 := by
  have hi' : i < ys.length := by rw [h.length]; exact hi
  refine ⟨xs[i], ys[i], by simp [hi], by simp [hi'], ?_⟩
  have e := congrArg (fun l => l[i]?) h.sig
  simp only [Go.Proofs.YtefnpkmbjabcmaaDoor.sig, List.getElem?_map, List.getElem?_eq_getElem hi, List.getElem?_eq_getElem hi', Option.map_some, Option.some.injEq, Prod.mk.injEq] at e
  exact ⟨e.1, e.2, h.frs _ (List.getElem_mem hi)⟩
theorem Alike.put (h : Alike m xs ys) {x y : It} (ht : x.to = y.to) (hf : x.fr = y.fr) (hl : x.fr.length ≤ 40) (hm : xs.length < m) : Alike m (xs ++ [x]) (ys ++ [y]) :=
  ⟨by have := h.sig; simp only [Go.Proofs.YtefnpkmbjabcmaaDoor.sig, List.map_append, List.map_cons, List.map_nil, ht, hf] at this ⊢; rw [this], by rw [List.length_append]; exact hm, fun z hz => (List.mem_append.1 hz).elim (h.frs z) (fun q => by obtain rfl := List.mem_singleton.1 q; exact hl)⟩
theorem Alike.cut (h : Alike m xs ys) (i : Nat) : Alike m (xs.take i ++ xs.drop (i + 1)) (ys.take i ++ ys.drop (i + 1)) :=
  ⟨by have := h.sig; simp only [Go.Proofs.YtefnpkmbjabcmaaDoor.sig, List.map_append, List.map_take, List.map_drop] at this ⊢; rw [this], by have := h.len; rw [List.length_append, List.length_take, List.length_drop]; omega,
    fun z hz => h.frs z ((List.mem_append.1 hz).elim (List.mem_of_mem_take ·) (List.mem_of_mem_drop ·))⟩
theorem Alike.set (h : Alike m xs ys) (i : Nat) {x y : It} (ht : x.to = y.to) (hf : x.fr = y.fr) (hl : x.fr.length ≤ 40) : Alike m (xs.set i x) (ys.set i y) :=
  ⟨by have := h.sig; simp only [Go.Proofs.YtefnpkmbjabcmaaDoor.sig, List.map_set, ht, hf] at this ⊢; rw [this], by rw [List.length_set]; exact h.len,
    fun z hz => (List.mem_or_eq_of_mem_set hz).elim (h.frs z) (fun q => by subst q; exact hl)⟩
end
/-- made behind each other -/
theorem Two.made {w0 w1 w2 : World} {m : Nat} (h1 : New w0 w1) (hb : IsBag w1 w0.heap.size (.slice none 0 0) m []) (h2 : New w1 w2) (hr : IsRef w2 w1.heap.size (.slice none 0 0) m []) : Two w0 w2 w0.heap.size w1.heap.size m (.slice none 0 0) (.slice none 0 0) [] [] :=
  ⟨(Held.made h1 hb).next h2, hr, h1.size, (fun b hb => by cases hb), (fun b hb => by cases hb)⟩
theorem tos_pre (xs : List It) (t : Int) : ∀ (d q : Nat), q + d ≤ xs.length → ∃ r, tos xs t (q + d) = tos xs t q ++ r := by
  intro d
  induction d with
  | zero => intro q _; exact ⟨[], by rw [Nat.add_zero, List.append_nil]⟩
  | succ d ih =>
    intro q h
    obtain ⟨r, hr⟩ := ih q (by omega)
    rw [show q + (d + 1) = (q + d) + 1 by omega, tos_succ xs t (q + d) (by omega), hr, List.append_assoc]
    exact ⟨_, rfl⟩
theorem tos_le (xs : List It) (t : Int) (q : Nat) (h : q ≤ xs.length) : (tos xs t q).length ≤ q := by
  have := List.length_filter_le (fun j => decide ((xs.map (·.to)).getD j 0 = t)) (List.range q); rw [List.length_range] at this; exact this
/-- one that is to t: it stands at its place in the list -/
theorem tos_at (xs : List It) (t : Int) (q : Nat) (h : q < xs.length) (ht : xs[q].to = t) : (tos xs t (q + 1)).length = (tos xs t q).length + 1 ∧ (tos xs t q).length < (tos xs t xs.length).length ∧ (natCells (tos xs t xs.length))[(tos xs t q).length]? = some (.int .i64 (q : Int)) := by
  have e := tos_succ xs t q h
  rw [if_pos ht] at e
  obtain ⟨r, hr⟩ := tos_pre xs t (xs.length - (q + 1)) (q + 1) (by omega)
  rw [show q + 1 + (xs.length - (q + 1)) = xs.length by omega, e, List.append_assoc] at hr
  refine ⟨by rw [e, List.length_append]; rfl, by rw [hr, List.length_append, List.length_append]; simp; omega, ?_⟩
  rw [natCells, List.getElem?_map, hr, List.getElem?_append_right (Nat.le_refl _), Nat.sub_self]
  rfl
theorem tos_not (xs : List It) (t : Int) (q : Nat) (h : q < xs.length) (ht : ¬ xs[q].to = t) : (tos xs t (q + 1)).length = (tos xs t q).length := by
  rw [tos_succ xs t q h, if_neg ht, List.append_nil]
theorem same_yes (w : World) (to to' : Int) (A A' : Option Addr) (n n' c c' : Nat) (xs ys : List (BitVec 8)) (hl : xs.length = n) (hl' : ys.length = n') (hx : Rd w A (u8s xs)) (hy : Rd w A' (u8s ys)) (e1 : to = to') (e2 : xs = ys) :
    Calls Tryd.prog 20 #[.agg #[.int .i64 to, .slice A n c], .agg #[.int .i64 to', .slice A' n' c']] w fun e w' => e = .returned (.bool true) ∧ New w w' := by
  have := same_any w to to' A A' n n' c c' xs ys hl hl' hx hy
  rwa [decide_eq_true ⟨e1, e2⟩] at this
/-- a call of the script -/
structure OpIt where
  d : Nat
  to : Int
  B : Option Addr
  c : Nat
  f : List (BitVec 8)
  I : Int
  At : Int
  pat : Nat
def ocells (o : OpIt) : List Value := [.int .u8 o.d, .int .i64 o.to, .slice o.B o.f.length o.c, .int .i64 o.I, .int .i64 o.At, .int .u32 o.pat]
def OpIt.ok (w : World) (o : OpIt) : Prop := o.d < 256 ∧ o.f.length ≤ o.c ∧ (o.B = none → o.f.length = 0) ∧ Rd w o.B (u8s o.f) ∧ (-9223372036854775808 ≤ o.to ∧ o.to ≤ 9223372036854775807) ∧ (-9223372036854775808 ≤ o.I ∧ o.I ≤ 9223372036854775807) ∧ (-9223372036854775808 ≤ o.At ∧ o.At ≤ 9223372036854775807) ∧ o.pat < 4294967296
theorem ocells_length (os : List OpIt) : (os.flatMap ocells).length = os.length * 6 := by
  induction os with
  | nil => rfl
  | cons x xs ih => rw [List.flatMap_cons, List.length_append, ih]; simp [ocells]; omega
theorem ocells_at (os : List OpIt) : ∀ (i : Nat) (hi : i < os.length) (k : Nat), k < 6 → (os.flatMap ocells)[i * 6 + k]? = (ocells os[i])[k]? := by
  induction os with
  | nil => intro i hi; cases hi
  | cons x xs ih =>
    intro i hi k hk
    have hx : (ocells x).length = 6 := rfl
    cases i with
    | zero =>
      rw [List.flatMap_cons, List.getElem?_append_left (by rw [hx]; omega), Nat.zero_mul, Nat.zero_add]
      rfl
    | succ i =>
      rw [List.flatMap_cons, List.getElem?_append_right (by rw [hx]; omega), hx, show (i + 1) * 6 + k - 6 = i * 6 + k by omega, ih i (by simpa using hi) k hk]
      rfl
structure IsOps (w : World) (A : Option Addr) (os : List OpIt) : Prop where
  row : Rd w A (os.flatMap ocells)
  each : ∀ o ∈ os, o.ok w
theorem OpIt.ok.new {w w' : World} {o : OpIt} (h : o.ok w) (k : New w w') : o.ok w' := ⟨h.1, h.2.1, h.2.2.1, h.2.2.2.1.new k, h.2.2.2.2⟩
theorem IsOps.new {w w' : World} {A : Option Addr} {os : List OpIt} (h : IsOps w A os) (k : New w w') : IsOps w' A os := ⟨h.row.new k, fun o ho => (h.each o ho).new k⟩
theorem IsOps.at_ {w : World} {A : Option Addr} {os : List OpIt} (h : IsOps w A os) (i : Nat) (hi : i < os.length) : ∃ b off, A = some ⟨b, off, none⟩ ∧ w.cell? ⟨b, off + i * 6, none⟩ = some (.int .u8 os[i].d) ∧ w.cell? ⟨b, off + i * 6 + 1, none⟩ = some (.int .i64 os[i].to) ∧
    w.cell? ⟨b, off + i * 6 + 2, none⟩ = some (.slice os[i].B os[i].f.length os[i].c) ∧ w.cell? ⟨b, off + i * 6 + 3, none⟩ = some (.int .i64 os[i].I) ∧ w.cell? ⟨b, off + i * 6 + 4, none⟩ = some (.int .i64 os[i].At) ∧ w.cell? ⟨b, off + i * 6 + 5, none⟩ = some (.int .u32 os[i].pat) ∧ os[i].ok w := by
  rcases h.row with h0 | ⟨b, off, hA, hcl⟩
  · have := ocells_length os; rw [h0] at this; simp at this; omega
  · have e := fun k hk => ocells_at os i hi k hk
    have c := fun k (hk : k < 6) u (hu : (ocells os[i])[k]? = some u) => hcl (i * 6 + k) u ((e k hk).trans hu)
    refine ⟨b, off, hA, ?_, ?_, ?_, ?_, ?_, ?_, h.each _ (List.getElem_mem hi)⟩
    · exact c 0 (by omega) _ rfl
    · rw [Nat.add_assoc]; exact c 1 (by omega) _ rfl
    · rw [Nat.add_assoc]; exact c 2 (by omega) _ rfl
    · rw [Nat.add_assoc]; exact c 3 (by omega) _ rfl
    · rw [Nat.add_assoc]; exact c 4 (by omega) _ rfl
    · rw [Nat.add_assoc]; exact c 5 (by omega) _ rfl
end Go.Proofs.YtefnpkmbjabcmaaDoor
