/- The law ViewAround: walked. -/
import Derived.Test.YtohflgpkimnodaaVi5
namespace Go.Proofs.Ytohflgpkimnodaa
open Go.RowKit

theorem around_ok (x y r : Int) : Vi.ok (around x y r) = true := by
  unfold Vi.ok around Vi.keep
  apply decide_eq_true
  dsimp only
  omega
theorem around_has (x y r : Int) (h : -524288 ≤ x ∧ x ≤ 524287) (h' : -524288 ≤ y ∧ y ≤ 524287) : Vi.has (around x y r) (x / 16384) (y / 16384) = true := by
  have ho : Vi.opened (around x y r) = true := by unfold Vi.opened; rw [around_ok]; rfl
  unfold Vi.has
  rw [ho]
  simp only [Bool.true_and, Bool.and_eq_true, decide_eq_true_eq]
  unfold around Vi.keep
  dsimp only
  omega
theorem wide_bounds (c r : Int) (hc : -32 ≤ c ∧ c ≤ 31) (hr : 0 ≤ r ∧ r ≤ 8) : r + 1 ≤ (Vi.wide c r : Int) ∧ (Vi.wide c r : Int) ≤ 2 * r + 1 := by
  unfold Vi.wide Vi.keep; omega
theorem around_len (x y r : Int) : ∃ R n : Nat, (around x y r).r = R ∧ R ≤ 8 ∧ (Vi.cells (around x y r)).length = n ∧ (R + 1) * (R + 1) ≤ n ∧ n ≤ (2 * R + 1) * (2 * R + 1) := by
  have ho : Vi.opened (around x y r) = true := by unfold Vi.opened; rw [around_ok]; rfl
  have hb := ok_bounds (around_ok x y r)
  generalize around x y r = g at *
  obtain ⟨R, hR⟩ : ∃ R : Nat, g.r = R := ⟨g.r.toNat, by omega⟩
  have h1 := wide_bounds g.cx g.r hb.1 (by omega)
  have h2 := wide_bounds g.cy g.r hb.2.1 (by omega)
  refine ⟨R, _, hR, by omega, rfl, ?_, ?_⟩
  · unfold Vi.cells; rw [if_pos ho, Vi.cols_length, Vi.iR_length, Vi.iR_length]
    exact Nat.mul_le_mul (by omega) (by omega)
  · unfold Vi.cells; rw [if_pos ho, Vi.cols_length, Vi.iR_length, Vi.iR_length]
    exact Nat.mul_le_mul (by omega) (by omega)

set_option maxHeartbeats 1600000 in
theorem ViewAround_any (x y r : Int) (w : World) (hx : -2147483648 ≤ x ∧ x ≤ 2147483647) (hy : -2147483648 ≤ y ∧ y ≤ 2147483647) :
    Calls Try.prog 4 #[.int .i32 x, .int .i32 y, .int .i64 r] w fun e w' => e = .returned (.bool true) ∧ New w w' := by
  have a1 := fun w => Around_any x y r w hx hy
  have a2 := fun w => refAround_any x y r w hx hy
  have k1 := fun w => Check_any (around x y r) w
  rw [around_ok, if_pos rfl] at k1
  have he := eq_reg (around x y r) (around x y r)
  have s1 := fun w => Sees_any (around x y r) x y w hx hy
  have l1 := fun w => Cells_any (around x y r) w
  have hs := around_has x y r
  obtain ⟨R, n, hR, hR8, hn, hn1, hn2⟩ := around_len x y r
  rw [hn] at l1
  generalize pvs (Vi.cells (around x y r)) = ps at l1
  clear hn
  generalize Vi.has (around x y r) (x / 16384) (y / 16384) = b at s1 hs
  have hon : (around x y r).on = true := rfl
  generalize around x y r = g at *
  unfold regV at *
  obtain ⟨on, cx, cy, rr⟩ := g
  dsimp only at *
  subst hR hon
  simp only [beq_self_eq_true, Bool.and_true] at he
  clear hx hy
  go_enter Try.func4, Try.ntmps4
  go_wp2_with (first | (go_at_call 15; (with_reducible refine (a1 _).mono ?_); rintro e w1 ⟨rfl, hu1⟩; dsimp only))
  have hu := hu1.trans ((Upd.refl _ w1).alloc (.cells #[.bool true, .int .i64 cx, .int .i64 cy, .int .i64 R] 23))
  have hr1 := rd_new w1 [.bool true, .int .i64 cx, .int .i64 cy, .int .i64 R] 23
  clear hu1
  generalize w1.alloc (.cells #[.bool true, .int .i64 cx, .int .i64 cy, .int .i64 R] 23) = wA at *
  generalize w1.heap.size = G at *
  obtain ⟨C0, C1, C2, C3⟩ := four_after hr1
  (refine wp_region_calm (by kernel_rfl) (by kernel_rfl) ?_; (repeat (go_big_quiet_step ((first
      | (go_at_call 8; refine Calls.calm (awake_any _))
      | (go_at_call 16; refine Calls.calm (a2 _))
      | (go_at_call 11; refine Calls.calm (k1 _)))))); refine wpQuiet_nil ?_; intro wq hq)
  have hu2 := hu.trans hq
  have hr2 := hr1.new hq
  clear hu hq hr1 a1 a2 k1 he C0 C1 C2 C3
  have hr2d := hr2.new (Upd.refl _ wq).drew
  obtain ⟨C0, C1, C2, C3⟩ := four_after hr2
  obtain ⟨P, hP, hP8, hPn⟩ : ∃ P : Nat, ((R : Int) + 1) * ((R : Int) + 1) = P ∧ P ≤ 81 ∧ P ≤ n := ⟨(R + 1) * (R + 1), by push_cast; rfl, Nat.mul_le_mul (show R + 1 ≤ 9 by omega) (show R + 1 ≤ 9 by omega), hn1⟩
  obtain ⟨M, hM, hM8, hMn⟩ : ∃ M : Nat, (2 * (R : Int) + 1) * (2 * (R : Int) + 1) = M ∧ M ≤ 289 ∧ n ≤ M := ⟨(2 * R + 1) * (2 * R + 1), by push_cast; rfl, Nat.mul_le_mul (show 2 * R + 1 ≤ 17 by omega) (show 2 * R + 1 ≤ 17 by omega), hn2⟩
  have hD1 : decide ((P : Int) ≤ (n : Int)) = true := decide_eq_true (by omega)
  have hD2 : decide ((n : Int) ≤ (M : Int)) = true := decide_eq_true (by omega)
  have hW3 : IntKind.i64.wrap (2 * (R : Int)) = 2 * (R : Int) := by rw [IntKind.wrap_i64]; omega
  have hW4 : IntKind.i64.wrap (2 * (R : Int) + 1) = 2 * (R : Int) + 1 := by rw [IntKind.wrap_i64]; omega
  have hW5 : IntKind.i64.wrap ((R : Int) + 1) = (R : Int) + 1 := by rw [IntKind.wrap_i64]; omega
  have hW1 : IntKind.i64.wrap (((R : Int) + 1) * ((R : Int) + 1)) = P := by rw [hP, IntKind.wrap_i64]; omega
  have hW2 : IntKind.i64.wrap ((2 * (R : Int) + 1) * (2 * (R : Int) + 1)) = M := by rw [hM, IntKind.wrap_i64]; omega
  clear hn1 hn2 hP hM
  by_cases hin : (-524288 ≤ x ∧ x ≤ 524287) ∧ (-524288 ≤ y ∧ y ≤ 524287)
  · obtain rfl := hs hin.1 hin.2
    obtain ⟨⟨i1, i2⟩, i3, i4⟩ := hin
    clear hs
    go_wp2
    rw [show decide (y < 524288) = true from decide_eq_true (by omega)]
    go_region_held3 (fun w' => w'.cell? ⟨G, 0, none⟩ = some (.bool true) ∧ w'.cell? ⟨G, 1, none⟩ = some (.int .i64 cx) ∧ w'.cell? ⟨G, 2, none⟩ = some (.int .i64 cy) ∧ w'.cell? ⟨G, 3, none⟩ = some (.int .i64 R))
      (first | exact four_cells hr2d | exact four_cells (hr2d.new hu3) | exact four_cells (hr2d.new (hu3.trans hu4)) | exact four_cells (hr2d.new ((hu3.trans hu4).trans hu5)))
      (first | (go_at_call 13; (with_reducible refine (s1 _).mono ?_); rintro e w3 ⟨rfl, hu3⟩; dsimp only) | ((go_at_call 9; (with_reducible refine (l1 _).mono ?_); rintro e w5 ⟨v2, rfl, ho2, hu5⟩; dsimp only); obtain ⟨A2, c2, rfl, hc2, _, hrb, _⟩ := own_rd ho2; have hu45 := hu4.trans hu5) | ((go_at_call 9; (with_reducible refine (l1 _).mono ?_); rintro e w4 ⟨v1, rfl, ho1, hu4⟩; dsimp only); obtain ⟨A1, c1, rfl, hc1, _, hra, _⟩ := own_rd ho1))
    all_goals
      go_wp2
      go_ret
      exact ⟨rfl, (((hu2.trans ((Upd.refl _ wq).drew)).trans hu3).trans hu4).trans hu5⟩
  · go_wp2
    all_goals
      first
        | (exfalso; omega)
        | ((try rw [show decide (y < 524288) = false from decide_eq_false (by omega)])
           (refine wp_region_calm (by kernel_rfl) (by kernel_rfl) ?_; (repeat (go_big_quiet_step ((fail)))); refine wpQuiet_nil ?_; intro wq hq)
           go_wp2
           go_ret
           exact ⟨rfl, hu2.trans hq⟩)
end Go.Proofs.Ytohflgpkimnodaa
