/- view, and the reference's regions: Around, Sees (reference), Cells. -/
import Derived.Test.YtohflgpkimnodaaVi2
namespace Go.Proofs.Ytohflgpkimnodaa
open Go.RowKit

theorem four_after {w : World} {g : Nat} {a b c d : Value} (h : Rd w (some ⟨g, 0, none⟩) [a, b, c, d]) :
    (∀ x : After w, x.to.cell? ⟨g, 0, none⟩ = some a) ∧ (∀ x : After w, x.to.cell? ⟨g, 1, none⟩ = some b) ∧ (∀ x : After w, x.to.cell? ⟨g, 2, none⟩ = some c) ∧ (∀ x : After w, x.to.cell? ⟨g, 3, none⟩ = some d) :=
  ⟨fun x => (four_cells (h.new x.h)).1, fun x => (four_cells (h.new x.h)).2.1, fun x => (four_cells (h.new x.h)).2.2.1, fun x => (four_cells (h.new x.h)).2.2.2⟩

set_option maxHeartbeats 800000 in
theorem refSees_any (g : Vi.Reg) (x y : Int) (w : World) (hx : -2147483648 ≤ x ∧ x ≤ 2147483647) (hy : -2147483648 ≤ y ∧ y ≤ 2147483647) :
    Calls Try.prog 14 #[regV g, .int .i32 x, .int .i32 y] w fun e w' => e = .returned (.bool (Vi.has g (x / 16384) (y / 16384))) ∧ New w w' := by
  have hc := fun w => Has_any g (x / 16384) (y / 16384) w (by unfold Small; omega) (by unfold Small; omega)
  have hd : New w (w.alloc (.cells #[.bool g.on, .int .i64 g.cx, .int .i64 g.cy, .int .i64 g.r] 23)) := (Upd.refl _ _).alloc _
  have c0 := fun w => vrefOf_any x w hx
  have c1 := fun w => vrefOf_any y w hy
  clear hx hy
  generalize Vi.has g (x / 16384) (y / 16384) = b at *
  generalize x / 16384 = X at *
  generalize y / 16384 = Y at *
  unfold regV at *
  obtain ⟨on, cx, cy, r⟩ := g
  dsimp only at *
  obtain ⟨C0, C1, C2, C3⟩ := four_after (rd_new w [.bool on, .int .i64 cx, .int .i64 cy, .int .i64 r] 23)
  cases b
  all_goals
    go_enter Try.func14, Try.ntmps14
    go_wp2
    (refine wp_region_calm (by kernel_rfl) (by kernel_rfl) ?_; (repeat (go_big_quiet_step ((first
        | (go_at_call 25; refine Calls.calm (hc _))
        | (go_at_call 29; first | with_reducible refine Calls.calm_same (c0 _) | with_reducible refine Calls.calm_same (c1 _)))))); refine wpQuiet_nil ?_; intro wq hq)
    go_wp2
    go_ret
    exact ⟨rfl, hd.trans hq⟩

def around (x y radius : Int) : Vi.Reg := ⟨true, Vi.keep (x / 16384), Vi.keep (y / 16384), min (max radius 0) 8⟩

set_option maxHeartbeats 800000 in
theorem Around_any (x y r : Int) (w : World) (hx : -2147483648 ≤ x ∧ x ≤ 2147483647) (hy : -2147483648 ≤ y ∧ y ≤ 2147483647) :
    Calls Try.prog 15 #[.int .i32 x, .int .i32 y, .int .i64 r] w fun e w' => e = .returned (regV (around x y r)) ∧ New w w' := by
  unfold around
  have c0 := fun w => vOf_any x w hx
  have c1 := fun w => vOf_any y w hy
  clear hx hy
  generalize x / 16384 = X at *
  generalize y / 16384 = Y at *
  have k0 := keep_any X
  have k1 := keep_any Y
  generalize Vi.keep X = KX at *
  generalize Vi.keep Y = KY at *
  obtain ⟨m, hm⟩ : ∃ m, max r 0 = m := ⟨_, rfl⟩
  obtain ⟨n, hn⟩ : ∃ n, min m 8 = n := ⟨_, rfl⟩
  rw [hm, hn]
  unfold regV
  dsimp only
  go_enter Try.func15, Try.ntmps15
  go_wp2_with (first | ((with_reducible refine at_wpList ?_); refine wpList_min rfl _ _ _ _ rfl _ _ _ _ _ hn rfl rfl ?_) | ((with_reducible refine at_wpList ?_); refine wpList_max rfl _ _ _ _ rfl _ _ _ _ _ hm rfl rfl ?_) | (go_at_call 30; (with_reducible refine (k0 _).mono ?_); rintro e w2 ⟨rfl, rfl⟩; dsimp only) | (go_at_call 30; (with_reducible refine (k1 _).mono ?_); rintro e w2 ⟨rfl, rfl⟩; dsimp only) | (go_at_call 28; (with_reducible refine (c0 _).mono ?_); rintro e w2 ⟨rfl, rfl⟩; dsimp only) | (go_at_call 28; (with_reducible refine (c1 _).mono ?_); rintro e w2 ⟨rfl, rfl⟩; dsimp only))
  go_returns
  exact ⟨rfl, (Upd.refl _ _).alloc _⟩
end Go.Proofs.Ytohflgpkimnodaa
