/- A ring of int64: Put's refusals: walked. -/
import Derived.Test.YtkcepmalahmkiaaRgL3
namespace Go.Proofs.Ytkcepmalahmkiaa
open Go.RowKit
theorem PutNilL (w : World) (t : Nat) (x : Int) : Calls Try.prog 25 #[.pointer none, .int .u32 t, (.int .i64 x)] w fun e w' => e = .returned (.int .i64 10) ∧ New w w' := by
  go_enter Try.func25, Try.ntmps25
  go_wp2
  go_ret
  first | exact ⟨rfl, Upd.refl _ _⟩ | exact ⟨rfl, (Upd.refl _ _).alloc _⟩
set_option maxRecDepth 20000 in
theorem PutStaleL {w : World} {g most : Nat} {v : Value} {xs : List (Rit Int)} (h : LRing w g v most xs) (hm : xs.length ≤ 4096) (l : Nat) (hl : l + 1 = xs.length) (t : Nat) (x : Int) (ht : t ≤ (xs[l]'(by omega)).tick) :
    Calls Try.prog 25 #[.pointer (some ⟨g, 0, none⟩), .int .u32 t, (.int .i64 x)] w fun e w' => e = .returned (.int .i64 12) ∧ New w w' := by
  obtain ⟨gl, c, rfl, _, _, hc, _, hr⟩ := own_some h.row (by omega)
  have c0 := atL hr l (by omega) 0 (by omega) _ rfl
  rw [Nat.add_zero] at c0
  have k1 := h.c1
  have hti : (t : Int) ≤ ((xs[l]'(by omega)).tick : Int) := by omega
  generalize (xs[l]'(by omega)).tick = tl at *
  rw [← hl] at k1 hm
  clear h hr ht hc hl
  have e1 : IntKind.i64.wrap (((l + 1 : Nat) : Int) - 1) = (l : Int) := by rw [IntKind.wrap_i64]; omega
  go_enter Try.func25, Try.ntmps25
  go_wp2
  go_ret
  first | exact ⟨rfl, Upd.refl _ _⟩ | exact ⟨rfl, (Upd.refl _ _).alloc _⟩
end Go.Proofs.Ytkcepmalahmkiaa
