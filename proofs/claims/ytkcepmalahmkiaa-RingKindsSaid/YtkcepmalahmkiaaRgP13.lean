/- A ring of pinnace/pinnacelaw08.Pair of the call's own. -/
import Derived.Test.YtkcepmalahmkiaaRgP11
import Derived.Test.YtkcepmalahmkiaaRgP12
namespace Go.Proofs.Ytkcepmalahmkiaa
open Go.RowKit
/-- a ring, made since w0 -/
structure PAt (w0 w : World) (g most : Nat) (xs : List (Rit (Int × Bool))) : Prop where
  ex : ∃ v, PRing w g v most xs ∧ ∀ b, v.ownBlock = some b → w0.heap.size ≤ b
  size : w0.heap.size ≤ w.heap.size
  ge : w0.heap.size ≤ g
  len : xs.length ≤ most
  most1 : 1 ≤ most
  most64 : most ≤ 64
/-- blocks that a ring of pinnace/pinnacelaw08.Pair may be made of -/
def PBlk (w0 w : World) (b : Nat) : Prop := w0.heap.size ≤ b ∧ ∃ cs fz, w.heap[b]? = some (.cells cs 82 fz) ∨ w.heap[b]? = some (.cells cs 87 fz)
section
variable {w0 w w' : World} {g most : Nat} {xs : List (Rit (Int × Bool))}
theorem Pblk_row {base n : Nat} {v : Value} {cs : List Value} (h : w.ownsRow base 87 3 v n cs) {b : Nat} (q : v.ownBlock = some b) : ∃ cs fz, w.heap[b]? = some (.cells cs 82 fz) ∨ w.heap[b]? = some (.cells cs 87 fz) := by
  obtain ⟨_, ⟨rfl, _⟩ | ⟨g1, c1, cur1, rfl, _, hh1, _⟩⟩ := h
  · cases q
  · simp only [Value.ownBlock, Option.some.injEq] at q
    subst q
    exact ⟨_, _, .inr hh1⟩
/-- rows of other types stay -/
theorem PBlk.row {base e size n : Nat} {v : Value} {cs : List Value} (h : w.ownsRow base e size v n cs) (k : Upd (PBlk w0 w) w w') (h1 : e ≠ 82) (h2 : e ≠ 87) : w'.ownsRow base e size v n cs := by
  refine own_upd h k fun b q s => ?_
  obtain ⟨_, cs', fz, s⟩ := s
  rcases s with s | s
  · exact own_obj_ne h s h1 q
  · exact own_obj_ne h s h2 q
theorem PAt.next (h : PAt w0 w g most xs) (k : New w w') : PAt w0 w' g most xs := by
  obtain ⟨⟨v, hR, hb⟩, h1, h2, h3, h4, h5⟩ := h
  exact ⟨⟨v, hR.new k, hb⟩, Nat.le_trans h1 k.size, h2, h3, h4, h5⟩
theorem PAt.of_new (n : Int) (m : Nat) (hn : n = m) (w : World) (h1 : 1 ≤ m) (h2 : m ≤ 64) :
    Calls Try.prog 8 #[.int .i64 n] w fun e w' => e = .returned (.tuple #[.pointer (some ⟨w.heap.size, 0, none⟩), .int .i64 0]) ∧ New w w' ∧ PAt w w' w.heap.size m [] := by
  refine (NewP_any n w (by omega) (by omega)).mono ?_
  intro e w' h
  rw [if_neg (by omega)] at h
  obtain ⟨rfl, hN, hR⟩ := h
  subst hn
  exact ⟨rfl, hN, ⟨_, hR, fun b hb => by cases hb⟩, hN.size, Nat.le_refl _, by simp, h1, h2⟩
theorem PAt.put (h : PAt w0 w g most xs) (t : Nat) (T : Int) (hT : (t : Int) = T) (x : (Int × Bool)) (ht : t < 4294967296) :
    Calls Try.prog 10 #[.pointer (some ⟨g, 0, none⟩), .int .u32 T, (.agg #[.int .i32 x.1, .bool x.2])] w fun e w' => e = .returned (.int .i64 (putE xs t)) ∧ PAt w0 w' g most (putL most xs t x) ∧ Upd (PBlk w0 w) w w' := by
  subst hT
  obtain ⟨⟨v, hR, hb⟩, h1, h2, h3, h4, h5⟩ := h
  refine (PutP_any hR h3 h4 h5 t x ht).mono ?_
  rintro e w' ⟨rfl, v', hR', hW⟩
  exact ⟨rfl, ⟨⟨v', hR', fun b q => (hW.at_ b q).elim (hb b) (fun l => Nat.le_trans h1 l)⟩, Nat.le_trans h1 hW.upd.size, h2, putL_len h3 h4 t x, h4, h5⟩, hW.upd.mono fun b q => q.elim (fun e => e ▸ ⟨h2, _, _, .inl hR.obj⟩) (fun q => ⟨hb b q, Pblk_row hR.row q⟩)⟩
theorem PAt.get (h : PAt w0 w g most xs) (t : Nat) :
    Calls Try.prog 12 #[.pointer (some ⟨g, 0, none⟩), .int .u32 t] w fun e w' => e = .returned (.tuple #[valP (found xs t), .bool (found xs t).isSome]) ∧ New w w' := by
  obtain ⟨⟨v, hR, hb⟩, h1, h2, h3, h4, h5⟩ := h
  exact GetP_any hR (by omega) t
theorem PBlk.new (k : Upd (PBlk w0 w) w w') {w1 : World} (h : New w1 w) (hs : w1.heap.size ≤ w0.heap.size) : New w1 w' := h.then k (fun _ q => .inr (Nat.le_trans hs q.1))
theorem PAt.rising (h : PAt w0 w g most xs) : Rising xs := by
  obtain ⟨⟨v, hR, hb⟩, _⟩ := h
  exact hR.up
theorem PAt.lt (h : PAt w0 w g most xs) : ∀ x ∈ xs, x.tick < 4294967296 := by
  obtain ⟨⟨v, hR, hb⟩, _⟩ := h
  exact hR.lt
/-- what others write -/
theorem PAt.others (h : PAt w0 w g most xs) {S : Nat → Prop} (k : Upd S w w') (h1 : ∀ b cs fz, S b → w.heap[b]? ≠ some (.cells cs 82 fz) ∧ w.heap[b]? ≠ some (.cells cs 87 fz)) : PAt w0 w' g most xs := by
  obtain ⟨⟨v, hR, hb⟩, h1', h2, h3, h4, h5⟩ := h
  refine ⟨⟨v, hR.upd k (fun q => (h1 _ _ _ q).1 hR.obj) (fun b q s => ?_), hb⟩, Nat.le_trans h1' k.size, h2, h3, h4, h5⟩
  obtain ⟨_, ⟨rfl, _⟩ | ⟨g1, c1, cur1, rfl, _, hh1, _⟩⟩ := hR.row
  · cases q
  · simp only [Value.ownBlock, Option.some.injEq] at q
    subst q
    exact (h1 _ _ _ s).2 hh1
end
end Go.Proofs.Ytkcepmalahmkiaa
