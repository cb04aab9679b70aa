/- the law's awake, the reference's Around. -/
import Derived.Test.YtohflgpkimnodaaVi4
namespace Go.Proofs.Ytohflgpkimnodaa
open Go.RowKit

set_option maxHeartbeats 800000 in
theorem refAround_any (x y r : Int) (w : World) (hx : -2147483648 ≤ x ∧ x ≤ 2147483647) (hy : -2147483648 ≤ y ∧ y ≤ 2147483647) :
    Calls Try.prog 16 #[.int .i32 x, .int .i32 y, .int .i64 r] w fun e w' => e = .returned (regV (around x y r)) ∧ New w w' := by
  unfold around
  have c0 := fun w => vrefOf_any x w hx
  have c1 := fun w => vrefOf_any y w hy
  clear hx hy
  generalize x / 16384 = X at *
  generalize y / 16384 = Y at *
  obtain ⟨m0, hm0⟩ : ∃ m, min 31 X = m := ⟨_, rfl⟩
  obtain ⟨m1, hm1⟩ : ∃ m, min 31 Y = m := ⟨_, rfl⟩
  obtain ⟨m2, hm2⟩ : ∃ m, min 8 r = m := ⟨_, rfl⟩
  obtain ⟨n0, hn0⟩ : ∃ m, max (-32) m0 = m := ⟨_, rfl⟩
  obtain ⟨n1, hn1⟩ : ∃ m, max (-32) m1 = m := ⟨_, rfl⟩
  obtain ⟨n2, hn2⟩ : ∃ m, max 0 m2 = m := ⟨_, rfl⟩
  rw [show Vi.keep X = n0 by unfold Vi.keep; omega, show Vi.keep Y = n1 by unfold Vi.keep; omega, show min (max r 0) 8 = n2 by omega]
  unfold regV
  dsimp only
  go_enter Try.func16, Try.ntmps16
  go_wp2_with (first | ((with_reducible refine at_wpList ?_); refine wpList_min rfl _ _ _ _ rfl _ _ _ _ _ hm0 rfl rfl ?_) | ((with_reducible refine at_wpList ?_); refine wpList_min rfl _ _ _ _ rfl _ _ _ _ _ hm1 rfl rfl ?_) | ((with_reducible refine at_wpList ?_); refine wpList_min rfl _ _ _ _ rfl _ _ _ _ _ hm2 rfl rfl ?_) | ((with_reducible refine at_wpList ?_); refine wpList_max rfl _ _ _ _ rfl _ _ _ _ _ hn0 rfl rfl ?_) | ((with_reducible refine at_wpList ?_); refine wpList_max rfl _ _ _ _ rfl _ _ _ _ _ hn1 rfl rfl ?_) | ((with_reducible refine at_wpList ?_); refine wpList_max rfl _ _ _ _ rfl _ _ _ _ _ hn2 rfl rfl ?_) | (go_at_call 29; (with_reducible refine (c0 _).mono ?_); rintro e w2 ⟨rfl, rfl⟩; dsimp only) | (go_at_call 29; (with_reducible refine (c1 _).mono ?_); rintro e w2 ⟨rfl, rfl⟩; dsimp only))
  go_returns
  exact ⟨rfl, (Upd.refl _ _).alloc _⟩

theorem eq_reg (a b : Vi.Reg) (w : World) : (Op.equalIn 10000 23 (regV a) (regV b)).run Try.prog w = .ok (a.on == b.on && (a.cx == b.cx && (a.cy == b.cy && a.r == b.r))) w := by
  unfold regV
  rw [run_equalIn_struct w 9999 _ _ _ (by kernel_rfl) (by kernel_rfl)]
  simp [go_sem]
  by_cases h0 : a.on = b.on <;> by_cases h1 : a.cx = b.cx <;> by_cases h2 : a.cy = b.cy <;> by_cases h3 : a.r = b.r <;> simp [*]

theorem around0 : around 0 0 1 = ⟨true, 0, 0, 1⟩ := rfl
theorem around1 : around (-524288) (-524288) 1 = ⟨true, -32, -32, 1⟩ := rfl
theorem cells0 : (Vi.cells ⟨true, 0, 0, 1⟩).length = 9 := by decide
theorem cells1 : (Vi.cells ⟨true, -32, -32, 1⟩).length = 4 := by decide

theorem has0 : Vi.has ⟨true, 0, 0, 1⟩ (-1 / 16384) (16384 / 16384) = true := by decide
theorem has1 : Vi.has ⟨true, 0, 0, 1⟩ (32768 / 16384) (0 / 16384) = false := by decide
/-- a region as it lies in a frame -/
def RV (on : Bool) (cx cy r : Int) : Value := .agg #[.bool on, .int .i64 cx, .int .i64 cy, .int .i64 r]
theorem Cells_lit (on : Bool) (cx cy r : Int) (n : Nat) (w : World) (h : (Vi.cells ⟨on, cx, cy, r⟩).length = n) :
    Calls Try.prog 9 #[.agg #[.bool on, .int .i64 cx, .int .i64 cy, .int .i64 r]] w fun e w' => ∃ v xs, e = .returned v ∧ w'.ownsRow w.heap.size 31 2 v n xs ∧ New w w' :=
  (Cells_any ⟨on, cx, cy, r⟩ w).mono fun e w' ⟨v, he, ho, hn⟩ => ⟨v, _, he, h ▸ ho, hn⟩
theorem Sees_lit (on : Bool) (cx cy r x y : Int) (b : Bool) (w : World) (hx : -2147483648 ≤ x ∧ x ≤ 2147483647) (hy : -2147483648 ≤ y ∧ y ≤ 2147483647) (h : Vi.has ⟨on, cx, cy, r⟩ (x / 16384) (y / 16384) = b) :
    Calls Try.prog 13 #[.agg #[.bool on, .int .i64 cx, .int .i64 cy, .int .i64 r], .int .i32 x, .int .i32 y] w fun e w' => e = .returned (.bool b) ∧ New w w' := h ▸ Sees_any ⟨on, cx, cy, r⟩ x y w hx hy


set_option maxHeartbeats 800000 in
theorem awake_any (w : World) :
    Calls Try.prog 8 #[] w fun e w' => e = .returned (.bool true) ∧ New w w' := by
  go_enter Try.func8, Try.ntmps8
  go_wp2_with (first
    | ((go_at_call 15; (with_reducible refine (Around_any _ _ _ _ (by decide) (by decide)).mono ?_); rintro e w3 ⟨rfl, hu3⟩; dsimp only); rw [around1]; unfold regV; dsimp only; have hrd3 := hrd2.new hu3)
    | ((go_at_call 15; (with_reducible refine (Around_any _ _ _ _ (by decide) (by decide)).mono ?_); rintro e w1 ⟨rfl, hu1⟩; dsimp only); rw [around0]; unfold regV; dsimp only)
    | ((go_at_call 9; (with_reducible refine (Cells_lit _ _ _ _ _ _ cells1).mono ?_); rintro e w4 ⟨v1, p1, rfl, ho1, hu4⟩; dsimp only); obtain ⟨A0, c0, rfl, _⟩ := own_rd ho1; have hrd4 := hrd3.new hu4; obtain ⟨E0, E1, E2, E3⟩ := four_cells hrd4)
    | ((go_at_call 9; (with_reducible refine (Cells_lit _ _ _ _ _ _ cells0).mono ?_); rintro e w2 ⟨v0, p0, rfl, ho0, hu2⟩; dsimp only); obtain ⟨A0, c0, rfl, _⟩ := own_rd ho0; have hrd2 := (rd_new w1 [.bool true, .int .i64 0, .int .i64 0, .int .i64 1] 23).new hu2; obtain ⟨D0, D1, D2, D3⟩ := four_cells hrd2)
    | ((go_at_call 13; (with_reducible refine (Sees_lit _ _ _ _ _ _ _ _ (by decide) (by decide) has1).mono ?_); rintro e w6 ⟨rfl, hu6⟩; dsimp only); have hrd6 := hrd5.new hu6)
    | ((go_at_call 13; (with_reducible refine (Sees_lit _ _ _ _ _ _ _ _ (by decide) (by decide) has0).mono ?_); rintro e w5 ⟨rfl, hu5⟩; dsimp only); have hrd5 := hrd4.new hu5; obtain ⟨E0, E1, E2, E3⟩ := four_cells hrd5))
  go_ret
  exact ⟨rfl, hu1.trans ((((Upd.refl _ _).alloc _).trans hu2).trans ((hu3.trans hu4).trans (hu5.trans hu6)))⟩
end Go.Proofs.Ytohflgpkimnodaa
