/- A ring of Pair: Put's refusals: walked. -/
import Derived.Test.YtkcepmalahmkiaaRgP3
namespace Go.Proofs.Ytkcepmalahmkiaa
open Go.RowKit
/-- the parameter's box -/
abbrev boxP (w : World) (x : Int × Bool) : World := w.alloc (.cells #[.int .i32 x.1, .bool x.2] 30)
theorem boxP_new (w : World) (x : Int × Bool) : New w (boxP w x) := (Upd.refl _ w).alloc _
theorem boxP_cells (w : World) (x : Int × Bool) : (boxP w x).cell? ⟨w.heap.size, 0, none⟩ = some (.int .i32 x.1) ∧ (boxP w x).cell? ⟨w.heap.size, 1, none⟩ = some (.bool x.2) := by
  constructor <;> (rw [World.cell?, heap_alloc_new]; rfl)
theorem PutNilP (w : World) (t : Nat) (x : Int × Bool) : Calls Try.prog 10 #[.pointer none, .int .u32 t, (.agg #[.int .i32 x.1, .bool x.2])] w fun e w' => e = .returned (.int .i64 10) ∧ New w w' := by
  go_enter Try.func10, Try.ntmps10
  go_wp2
  go_ret
  exact ⟨rfl, (Upd.refl _ _).alloc _⟩
set_option maxRecDepth 20000 in
theorem PutStaleP {w : World} {g most : Nat} {v : Value} {xs : List (Rit (Int × Bool))} (h : PRing w g v most xs) (hm : xs.length ≤ 4096) (l : Nat) (hl : l + 1 = xs.length) (t : Nat) (x : Int × Bool) (ht : t ≤ (xs[l]'(by omega)).tick) :
    Calls Try.prog 10 #[.pointer (some ⟨g, 0, none⟩), .int .u32 t, (.agg #[.int .i32 x.1, .bool x.2])] w fun e w' => e = .returned (.int .i64 12) ∧ New w w' := by
  have hN := boxP_new w x
  replace h := h.new hN
  obtain ⟨gl, c, rfl, _, _, hc, _, hr⟩ := own_some h.row (by omega)
  have c0 := atP hr l (by omega) 0 (by omega) _ rfl
  rw [Nat.add_zero] at c0
  have k1 := h.c1
  have hti : (t : Int) ≤ ((xs[l]'(by omega)).tick : Int) := by omega
  generalize (xs[l]'(by omega)).tick = tl at *
  rw [← hl] at k1 hm
  clear h hr ht hc hl
  have e1 : IntKind.i64.wrap (((l + 1 : Nat) : Int) - 1) = (l : Int) := by rw [IntKind.wrap_i64]; omega
  go_enter Try.func10, Try.ntmps10
  go_wp2
  go_ret
  exact ⟨rfl, hN⟩
end Go.Proofs.Ytkcepmalahmkiaa
