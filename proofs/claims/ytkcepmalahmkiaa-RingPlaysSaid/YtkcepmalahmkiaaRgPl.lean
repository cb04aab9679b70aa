/- RingPlays: what its walk uses. -/
import Derived.Test.YtkcepmalahmkiaaRgSame
import Derived.Test.YtkcepmalahmkiaaRgAwake
import Derived.Test.YtkcepmalahmkiaaSlRow
import Derived.Deep.RegionHeld3
namespace Go.Proofs.Ytkcepmalahmkiaa
open Go.RowKit
theorem LBlk_Rf {w0 w1 w w' : World} {g most : Nat} {xs : List (Rit Int)} (h : RfAt w1 w g most xs) (k : Upd (LBlk w0 w) w w') : RfAt w1 w' g most xs := by
  refine h.upd k fun b cs fz q => ?_
  obtain ⟨_, cs', fz', q⟩ := q
  rcases q with q | q <;> (rw [q]; exact ⟨fun e => by injection e with e; injection e with _ e; exact absurd e (by decide), fun e => by injection e with e; injection e with _ e; exact absurd e (by decide)⟩)
theorem RfBlk_L {w1 w w' : World} {g gr most : Nat} {xs : List (Rit Int)} (h : LAt w1 w g most xs) (k : Upd (RfBlk gr w) w w') : LAt w1 w' g most xs := by
  refine h.others k fun b cs fz q => ?_
  obtain ⟨_, cs', fz', q⟩ := q
  rw [q]; exact ⟨fun e => by injection e with e; injection e with _ e; exact absurd e (by decide), fun e => by injection e with e; injection e with _ e; exact absurd e (by decide)⟩
theorem RfBlk.new {w1 w w' : World} {g : Nat} (k : Upd (RfBlk g w) w w') (h : New w1 w) (hs : w1.heap.size ≤ g) : New w1 w' := h.then k (fun _ q => .inr (by rw [q.1]; exact hs))
theorem RfAt.clear {w0 w : World} {g most : Nat} {xs : List (Rit Int)} (h : RfAt w0 w g most xs) : RfAt w0 (w.setCell ⟨g, 1, none⟩ (.slice none 0 0)) g most [] ∧ Upd (RfBlk g w) w (w.setCell ⟨g, 1, none⟩ (.slice none 0 0)) := by
  obtain ⟨⟨A, c, hg, hc, hm, hr, hn, _⟩, hs0, hg0, h4, h5, h6, hup, hlt⟩ := h
  exact ⟨RfAt.store hg hg0 hs0 rfl (Nat.le_refl _) (Nat.zero_le _) (.inl rfl) (fun _ => rfl) (fun a ha => by cases ha) (Nat.zero_le _) h5 h6 List.Pairwise.nil (fun x hx => by cases hx), (Upd.refl _ w).setCell (p := ⟨g, 1, none⟩) (.inl ⟨rfl, _, _, hg⟩) _⟩
/-- a call of the script -/
structure ROp where
  d : Nat
  t : Nat
  v : Int
instance : Inhabited ROp := ⟨⟨0, 0, 0⟩⟩
def opc (o : ROp) : List Value := [.int .u8 o.d, .int .u32 o.t, .int .i64 o.v]
theorem op_at {w : World} {A : Option Addr} {os : List ROp} (h : Rd w A (os.flatMap opc)) (i : Nat) (hi : i < os.length) :
    ∃ b off, A = some ⟨b, off, none⟩ ∧ w.cell? ⟨b, off + i * 3, none⟩ = some (.int .u8 os[i].d) ∧ w.cell? ⟨b, off + i * 3 + 1, none⟩ = some (.int .u32 os[i].t) ∧ w.cell? ⟨b, off + i * 3 + 2, none⟩ = some (.int .i64 os[i].v) := by
  obtain ⟨b, off, h1, h2⟩ := h.elem opc 3 (by decide) (fun _ => rfl) i hi
  exact ⟨b, off, h1, h2 0 _ rfl, h2 1 _ rfl, h2 2 _ rfl⟩
theorem op_box (w : World) (d t : Nat) (v : Int) : New w (w.alloc (.cells #[.int .u8 d, .int .u32 t, .int .i64 v] 68)) ∧ (w.alloc (.cells #[.int .u8 d, .int .u32 t, .int .i64 v] 68)).heap[w.heap.size]? = some (.cells #[.int .u8 d, .int .u32 t, .int .i64 v] 68 (0, 0)) := ⟨(Upd.refl _ w).alloc _, heap_alloc_new _ _⟩
theorem op_cells {w : World} {B : Nat} {x y z : Value} (h : w.heap[B]? = some (.cells #[x, y, z] 68 (0, 0))) : w.cell? ⟨B, 0, none⟩ = some x ∧ w.cell? ⟨B, 1, none⟩ = some y ∧ w.cell? ⟨B, 2, none⟩ = some z :=
  ⟨by rw [World.cell?, h]; rfl, by rw [World.cell?, h]; rfl, by rw [World.cell?, h]; rfl⟩
/-- the box of a call isn't the ring's -/
theorem LBlk_op {w0 w w' : World} {B : Nat} {cs : Array Value} (h : w.heap[B]? = some (.cells cs 68 (0, 0))) (k : Upd (LBlk w0 w) w w') : w'.heap[B]? = some (.cells cs 68 (0, 0)) := by
  refine k.blk h fun q => ?_
  obtain ⟨_, cs', fz', q⟩ := q
  rcases q with q | q <;> (rw [h] at q; injection q with e; injection e with _ e; exact absurd e (by decide))
theorem RfBlk_op {w w' : World} {g B : Nat} {cs : Array Value} (h : w.heap[B]? = some (.cells cs 68 (0, 0))) (k : Upd (RfBlk g w) w w') : w'.heap[B]? = some (.cells cs 68 (0, 0)) := by
  refine k.blk h fun q => ?_
  obtain ⟨_, cs', fz', q⟩ := q
  rw [h] at q; injection q with e; injection e with _ e; exact absurd e (by decide)
theorem same_any {w0 w0' w : World} {g gr most most' : Nat} {xs : List (Rit Int)} (hL : LAt w0 w g most xs) (hR : RfAt w0' w gr most' xs) :
    Calls Try.prog 32 #[.pointer (some ⟨g, 0, none⟩), .pointer (some ⟨gr, 0, none⟩)] w fun e w' => e = .returned (.bool true) ∧ New w w' := by
  rcases Nat.eq_zero_or_pos xs.length with h0 | hp
  · obtain rfl := List.eq_nil_of_length_eq_zero h0
    exact same_none hL hR
  · exact same_some hL hR (xs.length - 1) xs.length (by omega) rfl
end Go.Proofs.Ytkcepmalahmkiaa
