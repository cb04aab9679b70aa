/- view, and the reference's regions: Has, Sees, box, Around. -/
import Derived.Test.YtohflgpkimnodaaVi1
import Derived.Test.YtohflgpkimnodaaCalm
import Derived.Handy
namespace Go.Proofs.Ytohflgpkimnodaa
open Go.RowKit

def Small (c : Int) : Prop := -10000000 ≤ c ∧ c ≤ 10000000
theorem near_s (c t b : Int) (w : World) (h1 : Small c) (h2 : Small t) (h3 : Small b) :
    Calls Try.prog 27 #[.int .i64 c, .int .i64 t, .int .i64 b] w fun e w' => e = .returned (.bool (decide (c - t ≤ b ∧ t - c ≤ b))) ∧ w' = w := near_any c t b w h1 h2 h3
theorem ok_bounds {g : Vi.Reg} (h : Vi.ok g = true) : (-32 ≤ g.cx ∧ g.cx ≤ 31) ∧ (-32 ≤ g.cy ∧ g.cy ≤ 31) ∧ (0 ≤ g.r ∧ g.r ≤ 8) := by
  have := of_decide_eq_true h
  omega

theorem four_cells {w : World} {g : Nat} {a b c d : Value} (h : Rd w (some ⟨g, 0, none⟩) [a, b, c, d]) :
    w.cell? ⟨g, 0, none⟩ = some a ∧ w.cell? ⟨g, 1, none⟩ = some b ∧ w.cell? ⟨g, 2, none⟩ = some c ∧ w.cell? ⟨g, 3, none⟩ = some d := by
  rcases h with h | ⟨b, off, hA, hc⟩
  · cases h
  · simp only [Option.some.injEq, Addr.mk.injEq, and_true] at hA
    obtain ⟨rfl, rfl⟩ := hA
    exact ⟨hc 0 _ rfl, hc 1 _ rfl, hc 2 _ rfl, hc 3 _ rfl⟩

set_option maxHeartbeats 800000 in
theorem vbox_any (g : Vi.Reg) (w : World) (h : Vi.ok g = true) :
    Calls Try.prog 24 #[regV g] w fun e w' => e = .returned (.tuple #[.int .i64 (Vi.keep (g.cx - g.r)), .int .i64 (Vi.keep (g.cy - g.r)), .int .i64 (Vi.keep (g.cx + g.r)), .int .i64 (Vi.keep (g.cy + g.r))]) ∧ New w w' := by
  obtain ⟨⟨a1, a2⟩, ⟨b1, b2⟩, r1, r2⟩ := ok_bounds h
  clear h
  unfold regV
  obtain ⟨on, cx, cy, r⟩ := g
  dsimp only at *
  have hd : New w (w.alloc (.cells #[.bool on, .int .i64 cx, .int .i64 cy, .int .i64 r] 23)) := (Upd.refl _ _).alloc _
  have e1 : IntKind.i64.wrap (cx - r) = cx - r := by rw [IntKind.wrap_i64]; omega
  have e2 : IntKind.i64.wrap (cy - r) = cy - r := by rw [IntKind.wrap_i64]; omega
  have e3 : IntKind.i64.wrap (cx + r) = cx + r := by rw [IntKind.wrap_i64]; omega
  have e4 : IntKind.i64.wrap (cy + r) = cy + r := by rw [IntKind.wrap_i64]; omega
  go_enter Try.func24, Try.ntmps24
  go_wp2
  go_quiet ((go_at_call 30; refine Calls.quiet_of_same (keep_any _ _)))
  go_wp2
  go_returns
  exact ⟨rfl, hd.drewN _⟩

set_option maxHeartbeats 800000 in
theorem Has_any (g : Vi.Reg) (x y : Int) (w : World) (hx : Small x) (hy : Small y) :
    Calls Try.prog 25 #[regV g, .int .i64 x, .int .i64 y] w fun e w' => e = .returned (.bool (Vi.has g x y)) ∧ New w w' := by
  have hc := refCheck_any g
  have hd : New w (w.alloc (.cells #[.bool g.on, .int .i64 g.cx, .int .i64 g.cy, .int .i64 g.r] 23)) := (Upd.refl _ _).alloc _
  obtain ⟨x1, x2⟩ := hx
  obtain ⟨y1, y2⟩ := hy
  by_cases ho : Vi.opened g = true
  · obtain ⟨h1, h2⟩ : g.on = true ∧ Vi.ok g = true := by unfold Vi.opened at ho; simpa using ho
    obtain ⟨⟨a1, a2⟩, ⟨b1, b2⟩, r1, r2⟩ := ok_bounds h2
    rw [h2] at hc
    unfold Vi.has
    rw [ho]
    clear ho h2
    unfold regV at *
    obtain ⟨on, cx, cy, r⟩ := g
    dsimp only at *
    subst h1
    have e1 : IntKind.i64.wrap (x - cx) = x - cx := by rw [IntKind.wrap_i64]; omega
    have e2 : IntKind.i64.wrap (y - cy) = y - cy := by rw [IntKind.wrap_i64]; omega
    have e3 : IntKind.i64.wrap (-r) = -r := by rw [IntKind.wrap_i64]; omega
    go_enter Try.func25, Try.ntmps25
    go_wp2_with (first | (go_at_call 12; (with_reducible refine (hc _).mono ?_); rintro e w2 ⟨rfl, hu⟩; dsimp only))
    obtain ⟨hc0, hc1, hc2, hc3⟩ := four_cells ((rd_new w [.bool true, .int .i64 cx, .int .i64 cy, .int .i64 r] 23).new hu)
    go_quiet (fail)
    go_wp2
    all_goals
      go_ret
      refine ⟨?_, (hd.trans hu).drewN _⟩
      change Ending.returned (Value.bool _) = _
      refine congrArg (fun z => Ending.returned (Value.bool z)) (Bool.eq_iff_iff.2 ?_)
      simp only [Bool.and_eq_true, Bool.decide_and, decide_eq_true_eq, Bool.false_eq_true, false_iff, true_iff, true_and]
      omega
  · have hh : Vi.has g x y = false := by unfold Vi.has; rw [Bool.not_eq_true] at ho; rw [ho]; rfl
    rw [hh]
    clear hh
    unfold Vi.opened at ho
    generalize hok : Vi.ok g = b at *
    clear hok
    unfold regV at *
    obtain ⟨on, cx, cy, r⟩ := g
    dsimp only at *
    have ho' : on = false ∨ (on = true ∧ b = false) := by revert ho; cases on <;> cases b <;> simp
    clear ho
    rcases ho' with rfl | ⟨rfl, rfl⟩
    · go_enter Try.func25, Try.ntmps25
      go_wp2
      go_ret
      exact ⟨rfl, hd⟩
    · go_enter Try.func25, Try.ntmps25
      go_wp2_with (first | (go_at_call 12; (with_reducible refine (hc _).mono ?_); rintro e w2 ⟨rfl, hu⟩; dsimp only))
      go_ret
      exact ⟨rfl, hd.trans hu⟩

set_option maxHeartbeats 800000 in
theorem Sees_any (g : Vi.Reg) (x y : Int) (w : World) (hx : -2147483648 ≤ x ∧ x ≤ 2147483647) (hy : -2147483648 ≤ y ∧ y ≤ 2147483647) :
    Calls Try.prog 13 #[regV g, .int .i32 x, .int .i32 y] w fun e w' => e = .returned (.bool (Vi.has g (x / 16384) (y / 16384))) ∧ New w w' := by
  have hc := open_any g
  have hd : New w (w.alloc (.cells #[.bool g.on, .int .i64 g.cx, .int .i64 g.cy, .int .i64 g.r] 23)) := (Upd.refl _ _).alloc _
  have hdd := hd.drew
  have hX : Small (x / 16384) := by unfold Small; omega
  have hY : Small (y / 16384) := by unfold Small; omega
  have HX := Bx.mk hx
  have HY := Bx.mk hy
  clear hx hy
  by_cases ho : Vi.opened g = true
  · obtain ⟨h1, h2⟩ : g.on = true ∧ Vi.ok g = true := by unfold Vi.opened at ho; simpa using ho
    obtain ⟨⟨a1, a2⟩, ⟨b1, b2⟩, r1, r2⟩ := ok_bounds h2
    rw [ho] at hc
    have e : Vi.has g (x / 16384) (y / 16384) = (decide (x / 16384 - g.cx ≤ g.r ∧ g.cx - x / 16384 ≤ g.r) && decide (y / 16384 - g.cy ≤ g.r ∧ g.cy - y / 16384 ≤ g.r)) := by
      unfold Vi.has; rw [ho]; rfl
    have E := Bx.mk e
    have hp : Small g.cx ∧ Small g.cy ∧ Small g.r := by unfold Small; omega
    obtain ⟨p1, p2, p3⟩ := hp
    clear ho h1 h2 e a1 a2 b1 b2 r1 r2
    have G1 := near_s (x / 16384) g.cx g.r
    have G2 := near_s (y / 16384) g.cy g.r
    rw [E.out]
    generalize decide (x / 16384 - g.cx ≤ g.r ∧ g.cx - x / 16384 ≤ g.r) = n1 at *
    generalize decide (y / 16384 - g.cy ≤ g.r ∧ g.cy - y / 16384 ≤ g.r) = n2 at *
    clear E
    have c0 := vOf_any x
    have c1 := vOf_any y
    generalize x / 16384 = X at *
    generalize y / 16384 = Y at *
    unfold regV at *
    obtain ⟨on, cx, cy, r⟩ := g
    dsimp only at *
    have hr4 := (rd_new w [.bool on, .int .i64 cx, .int .i64 cy, .int .i64 r] 23)
    have C0 : ∀ x : After (w.alloc (.cells #[.bool on, .int .i64 cx, .int .i64 cy, .int .i64 r] 23)), x.to.cell? ⟨w.heap.size, 0, none⟩ = some (.bool on) := fun x => (four_cells (hr4.new x.h)).1
    have C1 : ∀ x : After (w.alloc (.cells #[.bool on, .int .i64 cx, .int .i64 cy, .int .i64 r] 23)), x.to.cell? ⟨w.heap.size, 1, none⟩ = some (.int .i64 cx) := fun x => (four_cells (hr4.new x.h)).2.1
    have C2 : ∀ x : After (w.alloc (.cells #[.bool on, .int .i64 cx, .int .i64 cy, .int .i64 r] 23)), x.to.cell? ⟨w.heap.size, 2, none⟩ = some (.int .i64 cy) := fun x => (four_cells (hr4.new x.h)).2.2.1
    have C3 : ∀ x : After (w.alloc (.cells #[.bool on, .int .i64 cx, .int .i64 cy, .int .i64 r] 23)), x.to.cell? ⟨w.heap.size, 3, none⟩ = some (.int .i64 r) := fun x => (four_cells (hr4.new x.h)).2.2.2
    cases n1 <;> cases n2
    all_goals
      go_enter Try.func13, Try.ntmps13
      go_wp2
      (refine wp_region_calm (by kernel_rfl) (by kernel_rfl) ?_; (repeat (go_big_quiet_step ((first
        | (go_at_call 23; refine Calls.calm (hc _))
        | (go_at_call 27; first | with_reducible refine Calls.calm_same (G1 _ hX p1 p3) | with_reducible refine Calls.calm_same (G2 _ hY p2 p3))
        | (go_at_call 28; first | with_reducible refine Calls.calm_same (c0 _ HX.out) | with_reducible refine Calls.calm_same (c1 _ HY.out)))))); refine wpQuiet_nil ?_; intro wq hq)
      go_wp2
      go_ret
      exact ⟨rfl, hd.trans hq⟩
  · have hh : Vi.has g (x / 16384) (y / 16384) = false := by unfold Vi.has; rw [Bool.not_eq_true] at ho; rw [ho]; rfl
    rw [hh]
    rw [Bool.not_eq_true] at ho
    rw [ho] at hc
    clear hh ho hX hY HX HY
    unfold regV at *
    obtain ⟨on, cx, cy, r⟩ := g
    dsimp only at *
    have hr4 := (rd_new w [.bool on, .int .i64 cx, .int .i64 cy, .int .i64 r] 23)
    have C0 : ∀ x : After (w.alloc (.cells #[.bool on, .int .i64 cx, .int .i64 cy, .int .i64 r] 23)), x.to.cell? ⟨w.heap.size, 0, none⟩ = some (.bool on) := fun x => (four_cells (hr4.new x.h)).1
    have C1 : ∀ x : After (w.alloc (.cells #[.bool on, .int .i64 cx, .int .i64 cy, .int .i64 r] 23)), x.to.cell? ⟨w.heap.size, 1, none⟩ = some (.int .i64 cx) := fun x => (four_cells (hr4.new x.h)).2.1
    have C2 : ∀ x : After (w.alloc (.cells #[.bool on, .int .i64 cx, .int .i64 cy, .int .i64 r] 23)), x.to.cell? ⟨w.heap.size, 2, none⟩ = some (.int .i64 cy) := fun x => (four_cells (hr4.new x.h)).2.2.1
    have C3 : ∀ x : After (w.alloc (.cells #[.bool on, .int .i64 cx, .int .i64 cy, .int .i64 r] 23)), x.to.cell? ⟨w.heap.size, 3, none⟩ = some (.int .i64 r) := fun x => (four_cells (hr4.new x.h)).2.2.2
    go_enter Try.func13, Try.ntmps13
    go_wp2
    (refine wp_region_calm (by kernel_rfl) (by kernel_rfl) ?_; (repeat (go_big_quiet_step (((go_at_call 23; refine Calls.calm (hc _)))))); refine wpQuiet_nil ?_; intro wq hq)
    go_wp2
    go_ret
    exact ⟨rfl, hd.trans hq⟩
end Go.Proofs.Ytohflgpkimnodaa
