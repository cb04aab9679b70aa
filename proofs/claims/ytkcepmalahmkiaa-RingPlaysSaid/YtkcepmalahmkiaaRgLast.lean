/- A ring of int64: Last: walked. -/
import Derived.Test.YtkcepmalahmkiaaRgL12
namespace Go.Proofs.Ytkcepmalahmkiaa
open Go.RowKit
theorem LastNil (w : World) : Calls Try.prog 44 #[.pointer none] w fun e w' => e = .returned (.tuple #[.int .u32 0, .int .i64 0, .bool false]) ∧ New w w' := by
  go_enter Try.func44, Try.ntmps44
  go_wp2
  go_returns
  exact ⟨rfl, Upd.refl _ _⟩
theorem LastNone {w : World} {g most : Nat} {v : Value} (h : LRing w g v most []) : Calls Try.prog 44 #[.pointer (some ⟨g, 0, none⟩)] w fun e w' => e = .returned (.tuple #[.int .u32 0, .int .i64 0, .bool false]) ∧ New w w' := by
  have k1 := h.c1
  obtain ⟨A, c, rfl, _, _, hr, _⟩ := own_rd h.row
  clear h
  simp only [List.length_nil] at k1
  go_enter Try.func44, Try.ntmps44
  go_wp2
  go_returns
  exact ⟨rfl, Upd.refl _ _⟩
set_option maxRecDepth 20000 in
set_option maxHeartbeats 1000000 in
theorem LastSome {w : World} {g most : Nat} {v : Value} {xs : List (Rit Int)} (h : LRing w g v most xs) (hm : xs.length ≤ 4096) (l : Nat) (hl : l + 1 = xs.length) :
    Calls Try.prog 44 #[.pointer (some ⟨g, 0, none⟩)] w fun e w' => e = .returned (.tuple #[.int .u32 (xs[l]'(by omega)).tick, .int .i64 (xs[l]'(by omega)).v, .bool true]) ∧ New w w' := by
  have k1 := h.c1
  have hll : l < xs.length := by omega
  obtain ⟨gl, c, rfl, _, _, hc, _, hr⟩ := own_some h.row (by omega)
  have c0 := atL hr l hll 0 (by omega) _ rfl
  rw [Nat.add_zero] at c0
  have c1 := atL hr l hll 1 (by omega) _ rfl
  generalize xs[l] = x at *
  obtain ⟨tk, xv⟩ := x
  dsimp only at c0 c1
  rw [← hl] at k1 hm
  clear h hr hll hl
  have e1 : IntKind.i64.wrap (((l + 1 : Nat) : Int) - 1) = (l : Int) := by rw [IntKind.wrap_i64]; omega
  have e2 : IntKind.i64.wrap ((l : Int) + 1 - 1) = (l : Int) := by rw [IntKind.wrap_i64]; omega
  have e3 : IntKind.i64.wrap (l : Int) = (l : Int) := by rw [IntKind.wrap_i64]; omega
  have hi1 : ¬ ((l : Int) + 1) = 0 := by omega
  have hi2 : (l : Int) < (l : Int) + 1 := by omega
  go_enter Try.func44, Try.ntmps44
  go_wp2
  have d1 := (Upd.refl Nowhere w).drew.cell k1 (fun q => q)
  have d2 := (Upd.refl Nowhere w).drew.cell c0 (fun q => q)
  have d3 := (Upd.refl Nowhere w).drew.cell c1 (fun q => q)
  have hz := (Upd.refl Nowhere w).alloc (.cells #[.int .u32 0, .int .i64 0] 108)
  have q1 := hz.cell k1 (fun q => q)
  have q2 := hz.cell c0 (fun q => q)
  have q3 := hz.cell c1 (fun q => q)
  have hN := (hz.trans (Upd.refl Nowhere _))
  have hNa : New w (w.alloc (.cells #[.int .u32 tk, .int .i64 xv] 108)).drew := ((Upd.refl _ w).alloc _).drew
  have hc0 : (w.alloc (.cells #[.int .u32 tk, .int .i64 xv] 108)).drew.cell? ⟨w.heap.size, 0, none⟩ = some (.int .u32 tk) := by
    show (w.alloc (.cells #[.int .u32 tk, .int .i64 xv] 108)).cell? ⟨w.heap.size, 0, none⟩ = some (.int .u32 tk)
    rw [World.cell?, heap_alloc_new]; rfl
  have hc1 : (w.alloc (.cells #[.int .u32 tk, .int .i64 xv] 108)).drew.cell? ⟨w.heap.size, 1, none⟩ = some (.int .i64 xv) := by
    show (w.alloc (.cells #[.int .u32 tk, .int .i64 xv] 108)).cell? ⟨w.heap.size, 1, none⟩ = some (.int .i64 xv)
    rw [World.cell?, heap_alloc_new]; rfl
  go_region_law (fail)
  all_goals
    clear k1 c0 c1 d1 d2 d3 hz q1 q2 q3 hN
    generalize (w.alloc (.cells #[.int .u32 tk, .int .i64 xv] 108)).drew = w2 at *
    go_wp2
    go_quiet (fail)
    go_wp2
    go_returns
    exact ⟨rfl, hNa.drewN _⟩
end Go.Proofs.Ytkcepmalahmkiaa
