/- A ring of int64 of the call's own. -/
import Derived.Test.YtkcepmalahmkiaaRgL11
import Derived.Test.YtkcepmalahmkiaaRgL12
import Derived.Test.YtkcepmalahmkiaaRgL10
import Derived.Test.YtkcepmalahmkiaaRgL8
import Derived.Test.YtkcepmalahmkiaaRgL9
import Derived.Test.YtkcepmalahmkiaaRgLast
namespace Go.Proofs.Ytkcepmalahmkiaa
open Go.RowKit
/-- a ring, made since w0 -/
structure LAt (w0 w : World) (g most : Nat) (xs : List (Rit Int)) : Prop where
  ex : ∃ v, LRing w g v most xs ∧ ∀ b, v.ownBlock = some b → w0.heap.size ≤ b
  size : w0.heap.size ≤ w.heap.size
  ge : w0.heap.size ≤ g
  len : xs.length ≤ most
  most1 : 1 ≤ most
  most64 : most ≤ 64
/-- blocks that a ring of int64 may be made of -/
def LBlk (w0 w : World) (b : Nat) : Prop := w0.heap.size ≤ b ∧ ∃ cs fz, w.heap[b]? = some (.cells cs 106 fz) ∨ w.heap[b]? = some (.cells cs 108 fz)
section
variable {w0 w w' : World} {g most : Nat} {xs : List (Rit Int)}
theorem Lblk_row {base n : Nat} {v : Value} {cs : List Value} (h : w.ownsRow base 108 2 v n cs) {b : Nat} (q : v.ownBlock = some b) : ∃ cs fz, w.heap[b]? = some (.cells cs 106 fz) ∨ w.heap[b]? = some (.cells cs 108 fz) := by
  obtain ⟨_, ⟨rfl, _⟩ | ⟨g1, c1, cur1, rfl, _, hh1, _⟩⟩ := h
  · cases q
  · simp only [Value.ownBlock, Option.some.injEq] at q
    subst q
    exact ⟨_, _, .inr hh1⟩
/-- rows of other types stay -/
theorem LBlk.row {base e size n : Nat} {v : Value} {cs : List Value} (h : w.ownsRow base e size v n cs) (k : Upd (LBlk w0 w) w w') (h1 : e ≠ 106) (h2 : e ≠ 108) : w'.ownsRow base e size v n cs := by
  refine own_upd h k fun b q s => ?_
  obtain ⟨_, cs', fz, s⟩ := s
  rcases s with s | s
  · exact own_obj_ne h s h1 q
  · exact own_obj_ne h s h2 q
theorem LAt.next (h : LAt w0 w g most xs) (k : New w w') : LAt w0 w' g most xs := by
  obtain ⟨⟨v, hR, hb⟩, h1, h2, h3, h4, h5⟩ := h
  exact ⟨⟨v, hR.new k, hb⟩, Nat.le_trans h1 k.size, h2, h3, h4, h5⟩
theorem LAt.of_new (n : Int) (m : Nat) (hn : n = m) (w : World) (h1 : 1 ≤ m) (h2 : m ≤ 64) :
    Calls Try.prog 23 #[.int .i64 n] w fun e w' => e = .returned (.tuple #[.pointer (some ⟨w.heap.size, 0, none⟩), .int .i64 0]) ∧ New w w' ∧ LAt w w' w.heap.size m [] := by
  refine (NewL_any n w (by omega) (by omega)).mono ?_
  intro e w' h
  rw [if_neg (by omega)] at h
  obtain ⟨rfl, hN, hR⟩ := h
  subst hn
  exact ⟨rfl, hN, ⟨_, hR, fun b hb => by cases hb⟩, hN.size, Nat.le_refl _, by simp, h1, h2⟩
theorem LAt.put (h : LAt w0 w g most xs) (t : Nat) (T : Int) (hT : (t : Int) = T) (x : Int) (ht : t < 4294967296) :
    Calls Try.prog 25 #[.pointer (some ⟨g, 0, none⟩), .int .u32 T, (.int .i64 x)] w fun e w' => e = .returned (.int .i64 (putE xs t)) ∧ LAt w0 w' g most (putL most xs t x) ∧ Upd (LBlk w0 w) w w' := by
  subst hT
  obtain ⟨⟨v, hR, hb⟩, h1, h2, h3, h4, h5⟩ := h
  refine (PutL_any hR h3 h4 h5 t x ht).mono ?_
  rintro e w' ⟨rfl, v', hR', hW⟩
  exact ⟨rfl, ⟨⟨v', hR', fun b q => (hW.at_ b q).elim (hb b) (fun l => Nat.le_trans h1 l)⟩, Nat.le_trans h1 hW.upd.size, h2, putL_len h3 h4 t x, h4, h5⟩, hW.upd.mono fun b q => q.elim (fun e => e ▸ ⟨h2, _, _, .inl hR.obj⟩) (fun q => ⟨hb b q, Lblk_row hR.row q⟩)⟩
theorem LAt.get (h : LAt w0 w g most xs) (t : Nat) :
    Calls Try.prog 27 #[.pointer (some ⟨g, 0, none⟩), .int .u32 t] w fun e w' => e = .returned (.tuple #[valL (found xs t), .bool (found xs t).isSome]) ∧ New w w' := by
  obtain ⟨⟨v, hR, hb⟩, h1, h2, h3, h4, h5⟩ := h
  exact GetL_any hR (by omega) t
theorem LBlk.new (k : Upd (LBlk w0 w) w w') {w1 : World} (h : New w1 w) (hs : w1.heap.size ≤ w0.heap.size) : New w1 w' := h.then k (fun _ q => .inr (Nat.le_trans hs q.1))
theorem LAt.rising (h : LAt w0 w g most xs) : Rising xs := by
  obtain ⟨⟨v, hR, hb⟩, _⟩ := h
  exact hR.up
theorem LAt.lt (h : LAt w0 w g most xs) : ∀ x ∈ xs, x.tick < 4294967296 := by
  obtain ⟨⟨v, hR, hb⟩, _⟩ := h
  exact hR.lt
/-- what others write -/
theorem LAt.others (h : LAt w0 w g most xs) {S : Nat → Prop} (k : Upd S w w') (h1 : ∀ b cs fz, S b → w.heap[b]? ≠ some (.cells cs 106 fz) ∧ w.heap[b]? ≠ some (.cells cs 108 fz)) : LAt w0 w' g most xs := by
  obtain ⟨⟨v, hR, hb⟩, h1', h2, h3, h4, h5⟩ := h
  refine ⟨⟨v, hR.upd k (fun q => (h1 _ _ _ q).1 hR.obj) (fun b q s => ?_), hb⟩, Nat.le_trans h1' k.size, h2, h3, h4, h5⟩
  obtain ⟨_, ⟨rfl, _⟩ | ⟨g1, c1, cur1, rfl, _, hh1, _⟩⟩ := hR.row
  · cases q
  · simp only [Value.ownBlock, Option.some.injEq] at q
    subst q
    exact (h1 _ _ _ s).2 hh1
theorem LAt.cut (h : LAt w0 w g most xs) (t : Nat) (T : Int) (hT : (t : Int) = T) :
    Calls Try.prog 29 #[.pointer (some ⟨g, 0, none⟩), .int .u32 T] w fun e w' => e = .returned (.int .i64 (lb xs t : Nat)) ∧ LAt w0 w' g most (xs.drop (lb xs t)) ∧ Upd (LBlk w0 w) w w' := by
  subst hT
  obtain ⟨⟨v, hR, hb⟩, h1, h2, h3, h4, h5⟩ := h
  refine (CutL hR (by omega) t).mono ?_
  rintro e w' ⟨rfl, v', hR', hW⟩
  exact ⟨rfl, ⟨⟨v', hR', fun b q => (hW.at_ b q).elim (hb b) (fun l => Nat.le_trans h1 l)⟩, Nat.le_trans h1 hW.upd.size, h2, by rw [List.length_drop]; omega, h4, h5⟩, hW.upd.mono fun b q => q.elim (fun e => e ▸ ⟨h2, _, _, .inl hR.obj⟩) (fun q => ⟨hb b q, Lblk_row hR.row q⟩)⟩
theorem LAt.ticks (h : LAt w0 w g most xs) :
    Calls Try.prog 33 #[.pointer (some ⟨g, 0, none⟩)] w (RetRow 34 1 xs.length (tksL xs) w) := by
  obtain ⟨⟨v, hR, hb⟩, h1, h2, h3, h4, h5⟩ := h
  exact TicksL_any hR (by omega)
theorem LAt.len_ (h : LAt w0 w g most xs) (n : Nat) (hn : xs.length = n) : Calls Try.prog 45 #[.pointer (some ⟨g, 0, none⟩)] w fun e w' => e = .returned (.int .i64 n) ∧ w = w' := by
  obtain ⟨⟨v, hR, hb⟩, h1, h2, h3, h4, h5⟩ := h
  exact LenL hR n hn
theorem LAt.clear (h : LAt w0 w g most xs) :
    Calls Try.prog 31 #[.pointer (some ⟨g, 0, none⟩)] w fun e w' => e = .returned (.tuple #[]) ∧ LAt w0 w' g most [] ∧ Upd (LBlk w0 w) w w' := by
  obtain ⟨⟨v, hR, hb⟩, h1, h2, h3, h4, h5⟩ := h
  refine (ClearL hR).mono ?_
  rintro e w' ⟨rfl, hR', hW⟩
  exact ⟨rfl, ⟨⟨_, hR', fun b q => by cases q⟩, Nat.le_trans h1 hW.upd.size, h2, by simp, h4, h5⟩, hW.upd.mono fun b q => q.elim (fun e => e ▸ ⟨h2, _, _, .inl hR.obj⟩) (fun q => ⟨hb b q, Lblk_row hR.row q⟩)⟩
/-- what is told of the last one -/
def lastT (xs : List (Rit Int)) : Nat := (xs.getLast?.map (·.tick)).getD 0
def lastV (xs : List (Rit Int)) : Int := (xs.getLast?.map (·.v)).getD 0
theorem LAt.last (h : LAt w0 w g most xs) :
    Calls Try.prog 44 #[.pointer (some ⟨g, 0, none⟩)] w fun e w' => e = .returned (.tuple #[.int .u32 (lastT xs), .int .i64 (lastV xs), .bool (!xs.isEmpty)]) ∧ New w w' := by
  obtain ⟨⟨v, hR, hb⟩, h1, h2, h3, h4, h5⟩ := h
  rcases Nat.eq_zero_or_pos xs.length with h0 | hp
  · obtain rfl := List.eq_nil_of_length_eq_zero h0
    exact LastNone hR
  · obtain ⟨l, hl⟩ : ∃ l, l + 1 = xs.length := ⟨xs.length - 1, by omega⟩
    have e : xs.getLast? = some (xs[l]'(by omega)) := by rw [List.getLast?_eq_getElem?, List.getElem?_eq_getElem (by omega)]; congr 2; omega
    have e2 : xs.isEmpty = false := by cases xs with | nil => cases hp | cons _ _ => rfl
    rw [lastT, lastV, e, e2]
    exact LastSome hR (by omega) l hl
end
end Go.Proofs.Ytkcepmalahmkiaa
