/- A ring of int64: Clear; Delete of none: walked. -/
import Derived.Test.YtkcepmalahmkiaaRgL6
namespace Go.Proofs.Ytkcepmalahmkiaa
open Go.RowKit
theorem ClearNilL (w : World) : Calls Try.prog 31 #[.pointer none] w fun e w' => e = .returned (.tuple #[]) ∧ w = w' := by
  go_enter Try.func31, Try.ntmps31
  go_wp2
  go_returns
  exact ⟨rfl, rfl⟩
theorem ClearL {w : World} {g most : Nat} {v : Value} {xs : List (Rit Int)} (h : LRing w g v most xs) : Calls Try.prog 31 #[.pointer (some ⟨g, 0, none⟩)] w fun e w' => e = .returned (.tuple #[]) ∧ LRing w' g (.slice none 0 0) most [] ∧ LWrote g v (.slice none 0 0) w w' := by
  have k1 := h.c1
  have f1 := h.fz 1
  have HR := Bx.mk h
  obtain ⟨A, c, rfl, _⟩ := own_rd h.row
  clear h
  go_enter Try.func31, Try.ntmps31
  go_wp2
  go_returns
  exact ⟨rfl, ⟨heap_setCell_same w g 1 _ _ _ HR.out.obj, World.ownsRow_nil _ _ _ _, List.Pairwise.nil, fun x hx => by cases hx⟩, ((Upd.refl _ w).setCell (p := ⟨g, 1, none⟩) (.inl (.inl rfl)) _), fun b hb => by cases hb⟩
end Go.Proofs.Ytkcepmalahmkiaa
