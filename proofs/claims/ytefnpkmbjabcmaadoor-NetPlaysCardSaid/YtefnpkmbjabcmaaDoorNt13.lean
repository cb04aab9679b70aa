/- The calls on both bags, their answers by name. -/
import Derived.Test.YtefnpkmbjabcmaaDoorNt12
namespace Go.Proofs.YtefnpkmbjabcmaaDoor
open Go.RowKit
section
variable {w : World} {g most : Nat} {v : Value} {xs : List It}
theorem Take_J (h : IsBag w g v most xs) (i : Nat) (hi : i < xs.length) (hsz : xs.length ≤ 4096) (x : It) (hx : xs[i]? = some x) (I tv : Int) (F : List (BitVec 8)) (l : Nat) (hI : (i : Int) = I) (ht : x.to = tv) (hF : x.fr = F) (hl : F.length = l) (hb : l ≤ 40) :
    Calls Tryd.prog 16 #[.pointer (some ⟨g, 0, none⟩), .int .i64 I] w fun e w' => ∃ vr v', e = .returned (.tuple #[.agg #[.int .i64 tv, vr], .int .i64 0]) ∧ w'.ownsRow w.heap.size 5 1 vr l (u8s F) ∧ IsBag w' g v' most (xs.take i ++ xs.drop (i + 1)) ∧ BagWrote g v v' w w' := by
  subst hI; subst ht; subst hF; subst hl; exact Take_ok h i hi hsz x hx (by omega)
theorem Peek_J (h : IsBag w g v most xs) (i : Nat) (hi : i < xs.length) (hsz : xs.length ≤ 4096) (x : It) (hx : xs[i]? = some x) (I tv : Int) (F : List (BitVec 8)) (l : Nat) (hI : (i : Int) = I) (ht : x.to = tv) (hF : x.fr = F) (hl : F.length = l) (hb : l ≤ 40) :
    Calls Tryd.prog 14 #[.pointer (some ⟨g, 0, none⟩), .int .i64 I] w fun e w' => ∃ vr, e = .returned (.tuple #[.agg #[.int .i64 tv, vr], .int .i64 0]) ∧ w'.ownsRow w.heap.size 5 1 vr l (u8s F) ∧ New w w' := by
  subst hI; subst ht; subst hF; subst hl; exact Peek_ok h i hi hsz x hx (by omega)
theorem Drop_J (h : IsBag w g v most xs) (i : Nat) (hi : i < xs.length) (hsz : xs.length ≤ 4096) (x : It) (hx : xs[i]? = some x) (I : Int) (F : List (BitVec 8)) (l : Nat) (hI : (i : Int) = I) (hF : x.fr = F) (hl : F.length = l) (hb : l ≤ 40) :
    Calls Tryd.prog 22 #[.pointer (some ⟨g, 0, none⟩), .int .i64 I] w fun e w' => ∃ v', e = .returned (.int .i64 0) ∧ IsBag w' g v' most (xs.take i ++ xs.drop (i + 1)) ∧ BagWrote g v v' w w' := by
  subst hI; subst hF; exact Drop_ok h i hi hsz x hx (by omega)
theorem Copy_J (h : IsBag w g v most xs) (hm : xs.length < most) (hmm : most ≤ 4096) (i : Nat) (hi : i < xs.length) (x : It) (hx : xs[i]? = some x) (I tv : Int) (F : List (BitVec 8)) (l : Nat) (hI : (i : Int) = I) (ht : x.to = tv) (hF : x.fr = F) (hl : F.length = l) (hb : l ≤ 40) :
    Calls Tryd.prog 15 #[.pointer (some ⟨g, 0, none⟩), .int .i64 I] w fun e w' => e = .returned (.int .i64 0) ∧ ∃ v' y, y.to = tv ∧ y.fr = F ∧ (∀ b, y.v.ownBlock = some b → w.heap.size ≤ b) ∧ IsBag w' g v' most (xs ++ [y]) ∧ BagWrote g v v' w w' := by
  subst hI; subst ht; subst hF; exact Copy_ok h hm hmm i hi x hx (by omega)
theorem CopyF_J (h : IsBag w g v most xs) (hm : most ≤ xs.length) (i : Nat) (hi : i < xs.length) (hsz : xs.length ≤ 4096) (x : It) (hx : xs[i]? = some x) (I : Int) (F : List (BitVec 8)) (l : Nat) (hI : (i : Int) = I) (hF : x.fr = F) (hl : F.length = l) (hb : l ≤ 40) :
    Calls Tryd.prog 15 #[.pointer (some ⟨g, 0, none⟩), .int .i64 I] w fun e w' => e = .returned (.int .i64 8) ∧ New w w' := by
  subst hI; subst hF; exact Copy_full h hm i hi hsz x hx (by omega)
theorem Turn_J (h : IsBag w g v most xs) (i : Nat) (hi : i < xs.length) (hsz : xs.length ≤ 4096) (x : It) (hx : xs[i]? = some x) (I tv : Int) (F : List (BitVec 8)) (l : Nat) (hI : (i : Int) = I) (ht : x.to = tv) (hF : x.fr = F) (hl : F.length = l) (hb : l ≤ 40)
    (a : Int) (pat : Nat) (ha : -9223372036854775808 ≤ a ∧ a ≤ 9223372036854775807) (hp : pat < 4294967296) (htab : IsTab w) :
    Calls Tryd.prog 23 #[.pointer (some ⟨g, 0, none⟩), .int .i64 I, .int .i64 a, .int .u32 pat] w fun e w' => e = .returned (.int .i64 0) ∧ ∃ y, y.to = tv ∧ y.fr = Nt.turned F a pat ∧ (∀ b, y.v.ownBlock = some b → w.heap.size ≤ b) ∧ IsBag w' g v most (xs.set i y) ∧ BagWrote g v v w w' := by
  subst hI; subst ht; subst hF; exact Turn_ok h i hi hsz x hx (by omega) a pat ha hp htab
theorem RefTake_J (h : IsRef w g v most xs) (i : Nat) (hi : i < xs.length) (hsz : xs.length ≤ 4096) (x : It) (hx : xs[i]? = some x) (I tv : Int) (vy : Value) (hI : (i : Int) = I) (ht : x.to = tv) (hv : x.v = vy) :
    Calls Tryd.prog 19 #[.pointer (some ⟨g, 0, none⟩), .int .i64 I] w fun e w' => e = .returned (.tuple #[.agg #[.int .i64 tv, vy], .int .i64 0]) ∧ ∃ v', IsRef w' g v' most (xs.take i ++ xs.drop (i + 1)) ∧ RefWrote g v v' w w' := by
  subst hI; subst ht; subst hv; exact RefTake_ok h i hi hsz x hx
theorem RefPeek_J (h : IsRef w g v most xs) (i : Nat) (hi : i < xs.length) (x : It) (hx : xs[i]? = some x) (I tv : Int) (vy : Value) (hI : (i : Int) = I) (ht : x.to = tv) (hv : x.v = vy) :
    Calls Tryd.prog 21 #[.pointer (some ⟨g, 0, none⟩), .int .i64 I] w fun e w' => e = .returned (.tuple #[.agg #[.int .i64 tv, vy], .int .i64 0]) ∧ New w w' := by
  subst hI; subst ht; subst hv; exact RefPeek_ok h i hi x hx
end
/-- one that both hold -/
theorem Two.pick {w0 w : World} {gb gr m : Nat} {vb vr : Value} {xs ys : List It} (h : Two w0 w gb gr m vb vr xs ys) (ha : Alike m xs ys) (i : Nat) (hi : i < xs.length) :
    ∃ (x y : It) (tv : Int) (F : List (BitVec 8)) (l : Nat) (A : Option Addr) (c : Nat), xs[i]? = some x ∧ ys[i]? = some y ∧ x.to = tv ∧ y.to = tv ∧ x.fr = F ∧ y.fr = F ∧ F.length = l ∧ l ≤ 40 ∧ y.v = .slice A l c ∧ y ∈ ys ∧ (A = none → l = 0) := by
  obtain ⟨x, y, hx, hy, h1, h2, h3⟩ := ha.at_ i hi
  have hm : y ∈ ys := List.mem_of_getElem? hy
  obtain ⟨A, c, hv, _, _, _, hn⟩ := In.slice (h.ref.frs y hm)
  exact ⟨x, y, y.to, y.fr, y.fr.length, A, c, hx, hy, h1, rfl, h2, rfl, rfl, by rw [← h2]; exact h3, hv, hm, hn⟩
/-- its frame, as the reference holds it -/
theorem Two.frame {w0 w : World} {gb gr m : Nat} {vb vr : Value} {xs ys : List It} (h : Two w0 w gb gr m vb vr xs ys) {y : It} {F : List (BitVec 8)} {l c : Nat} {A : Option Addr} (hm : y ∈ ys) (hf : y.fr = F) (hl : F.length = l) (hv : y.v = .slice A l c) : w.ownsRow 0 5 1 (.slice A l c) l (u8s F) := by
  have := h.ref.frs y hm
  unfold It.In at this
  rwa [hv, hf, hl] at this
theorem row_rd {w : World} {B l c : Nat} {A : Option Addr} {F : List (BitVec 8)} (h : w.ownsRow B 5 1 (.slice A l c) l (u8s F)) : Rd w A (u8s F) := by
  obtain ⟨A', c', e, _, _, hr, _⟩ := own_rd h
  cases e
  exact hr
theorem outs_set2 (xs : List It) (i : Nat) (y : It) (h : i < xs.length) : outs (xs.set i y) = ((outs xs).set (i * 2) (.int .i64 y.to)).set (i * 2 + 1) y.v := by
  induction xs generalizing i with
  | nil => cases h
  | cons x xs ih =>
    cases i with
    | zero => simp [outs]
    | succ i =>
      have e := ih i (by simpa using h)
      rw [List.set_cons_succ, show (i + 1) * 2 + 1 = (i * 2 + 1) + 1 + 1 by omega, show (i + 1) * 2 = (i * 2) + 1 + 1 by omega]
      simp only [outs, List.flatMap_cons, List.cons_append, List.nil_append, List.set_cons_succ] at e ⊢
      rw [e]
theorem Two.refset {w0 w : World} {gb gr m gl c : Nat} {vb : Value} {xs ys : List It} (h : Two w0 w gb gr m vb (.slice (some ⟨gl, 0, none⟩) ys.length c) xs ys) (i : Nat) (hi : i < ys.length) (y : It) (hy : y.In w) :
    w.frozen? ⟨gl, i * 2, none⟩ = false ∧ w.frozen? ⟨gl, i * 2 + 1, none⟩ = false ∧ Two w0 ((w.setCell ⟨gl, i * 2, none⟩ (.int .i64 y.to)).setCell ⟨gl, i * 2 + 1, none⟩ y.v) gb gr m vb (.slice (some ⟨gl, 0, none⟩) ys.length c) xs (ys.set i y) ∧
    Upd (fun b => b = gl) w ((w.setCell ⟨gl, i * 2, none⟩ (.int .i64 y.to)).setCell ⟨gl, i * 2 + 1, none⟩ y.v) := by
  have hu : Upd (fun b => b = gl) w ((w.setCell ⟨gl, i * 2, none⟩ (.int .i64 y.to)).setCell ⟨gl, i * 2 + 1, none⟩ y.v) := Upd.setCell (p := ⟨gl, i * 2 + 1, none⟩) (Upd.set1 w ⟨gl, i * 2, none⟩ (.int .i64 y.to)) (.inl rfl) y.v
  have hne : gr ≠ gl := fun e => h.ref.apart (by rw [e]; rfl)
  have key : ∀ z : It, z.In w → z.In ((w.setCell ⟨gl, i * 2, none⟩ (.int .i64 y.to)).setCell ⟨gl, i * 2 + 1, none⟩ y.v) := fun z hz => own_upd hz hu (fun b hb q => own_apart hz h.ref.row (by decide) b hb (by rw [show b = gl from q]; rfl))
  refine ⟨h.ref.row.frozenAt _, h.ref.row.frozenAt _, ⟨⟨h.held.new.then hu (fun b hb => .inr (by rw [show b = gl from hb]; exact h.rown gl rfl)), h.held.bag.upd hu (fun e => obj_apart h.held.bag.obj h.ref.row (by decide) (by rw [show gb = gl from e]; rfl)) (fun b hb e => h.apart b hb (by rw [show b = gl from e]; rfl)) (fun x hx b hb e => own_apart (h.held.bag.frs x hx) h.ref.row (by decide) b hb (by rw [show b = gl from e]; rfl)), h.held.ge, h.held.own⟩,
    ⟨hu.blk h.ref.obj hne, ?_, fun x hx => ?_⟩, h.rge, h.rown, h.apart⟩, hu⟩
  · rw [List.length_set, outs_set2 ys i y hi]
    exact ((h.ref.row.stored (i * 2) (.int .i64 y.to)).1.stored (i * 2 + 1) y.v).1
  · rcases List.mem_or_eq_of_mem_set hx with hx | rfl
    · exact key x (h.ref.frs x hx)
    · exact key x hy
/-- what the operations of the region that turns one of the reference's leave -/
def TurnΦ (B gr g6 ly c6 i bx b28 l cy : Nat) (tv At : Int) (pat : Nat) (Ay : Option Addr) (T : List (BitVec 8)) : Nat → Value → World → Prop
  | 0, u, _ => u = .pointer (some ⟨gr, 0, none⟩)
  | 1, u, _ => u = .pointer (some ⟨gr, 0, none⟩)
  | 2, u, _ => u = .pointer (some ⟨gr, 1, none⟩)
  | 3, u, _ => u = .slice (some ⟨g6, 0, none⟩) ly c6
  | 4, u, _ => u = .pointer (some ⟨bx, 3, none⟩)
  | 5, u, _ => u = .int .i64 i
  | 6, u, _ => u = .pointer (some ⟨b28, 0, none⟩)
  | 7, u, _ => u = .int .i64 tv
  | 8, u, _ => u = .pointer (some ⟨b28, 1, none⟩)
  | 9, u, _ => u = .slice Ay l cy
  | 10, u, _ => u = .pointer (some ⟨bx, 4, none⟩)
  | 11, u, _ => u = .int .i64 At
  | 12, u, _ => u = .pointer (some ⟨bx, 5, none⟩)
  | 13, u, _ => u = .int .u32 pat
  | 14, u, w => w.ownsRow B 5 1 u l (u8s T)
  | 15, u, w => ∃ A c, u = .agg #[.int .i64 tv, .slice A l c] ∧ w.ownsRow B 5 1 (.slice A l c) l (u8s T)
  | 16, u, _ => u = .pointer (some ⟨g6, i * 2, none⟩)
  | _, _, _ => True
theorem TurnΦ_new (B gr g6 ly c6 i bx b28 l cy : Nat) (tv At : Int) (pat : Nat) (Ay : Option Addr) (T : List (BitVec 8)) (j : Nat) (u : Value) (w1 w2 : World) (h : New w1 w2) (k : TurnΦ B gr g6 ly c6 i bx b28 l cy tv At pat Ay T j u w1) : TurnΦ B gr g6 ly c6 i bx b28 l cy tv At pat Ay T j u w2 := by
  unfold TurnΦ at k ⊢
  split at k
  all_goals first
    | exact k
    | exact own_new k h
    | (obtain ⟨A, c, h1, h2⟩ := k; exact ⟨A, c, h1, own_new h2 h⟩)
theorem out_box {w : World} {B : Nat} {a b : Value} (h : w.heap[B]? = some (.cells #[a, b] 36 (0, 0))) : w.cell? ⟨B, 0, none⟩ = some a ∧ w.cell? ⟨B, 1, none⟩ = some b := out_cells h
end Go.Proofs.YtefnpkmbjabcmaaDoor
