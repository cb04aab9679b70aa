/- Equal deltas; an empty one: walks. -/
import Derived.Test.YtdnkdmdmekdfkaaDf9
import Derived.Test.YtdnkdmdmekdfkaaDf6
namespace Go.Proofs.Ytdnkdmdmekdfkaa
open Go.RowKit
structure DlR (w : World) (g0 : Option Addr) (g1 g2 : Nat) (c0 : Option Addr) (c1 : Nat) (h0 : Option Addr) (h1 : Nat) (D : Dl) : Prop where
  gone : Go_ w (g0, g1, g2) D.gone
  come : EnL w c0 c1 D.come
  chg : ChL w h0 h1 D.chg
theorem DlR.new {w w' : World} {g0 c0 h0 : Option Addr} {g1 g2 c1 h1 : Nat} {D : Dl} (d : DlR w g0 g1 g2 c0 c1 h0 h1 D) (k : New w w') : DlR w' g0 g1 g2 c0 c1 h0 h1 D := ⟨d.gone.new k, d.come.new k, d.chg.new k⟩
structure SmD (D : Dl) : Prop where
  g : D.gone.length ≤ 1000
  c : D.come.length ≤ 1000
  h : D.chg.length ≤ 1000
  cs : Sm D.come
  hs : SmC D.chg
instance : DecidableEq Dl := fun x y => decidable_of_iff (x.gone = y.gone ∧ x.come = y.come ∧ x.chg = y.chg) (by cases x; cases y; simp)
theorem dl_eq (D E : Dl) : decide (D = E) = (decide (D.gone = E.gone) && (decide (D.come = E.come) && decide (D.chg = E.chg))) := by
  rw [Bool.eq_iff_iff]
  simp only [decide_eq_true_eq, Bool.and_eq_true]
  cases D; cases E; simp
theorem DlN.r {base : Nat} {w : World} {g c h : Value} {D : Dl} (d : DlN base w g c h D) : ∃ g0 g2 c0 c2 h0 h2, g = .slice g0 D.gone.length g2 ∧ c = .slice c0 D.come.length c2 ∧ h = .slice h0 D.chg.length h2 ∧ DlR w g0 D.gone.length g2 c0 D.come.length h0 D.chg.length D := by
  obtain ⟨d1, d2, d3⟩ := d
  obtain ⟨c0, c2, rfl, e2⟩ := d2.enl
  unfold GoN at d1
  obtain ⟨g0, g2, rfl, _, _, r1, _⟩ := own_rd d1
  obtain ⟨hs, ho, ha⟩ := d3.ex
  obtain ⟨h0, h2, rfl, _, _, r3, _⟩ := own_rd ho
  refine ⟨g0, g2, c0, c2, h0, h2, rfl, rfl, rfl, ⟨rfl, fun hA => ?_, r1⟩, e2, rfl, fun hA => ?_, hs, r3, ha.map fun _ _ q => q.co⟩
  · dsimp only at hA ⊢
    by_cases hz : 0 < D.gone.length
    · exact own_none d1 hz hA
    · omega
  · by_cases hz : 0 < D.chg.length
    · exact own_none ho hz hA
    · omega
set_option maxRecDepth 4000 in
set_option maxHeartbeats 8000000 in
theorem same_any (g0 : Option Addr) (g1 g2 : Nat) (c0 : Option Addr) (c1 c2 : Nat) (h0 : Option Addr) (h1 h2 : Nat) (D : Dl) (k0 : Option Addr) (k1 k2 : Nat) (l0 : Option Addr) (l1 l2 : Nat) (m0 : Option Addr) (m1 m2 : Nat) (E : Dl) (w : World) (hx : DlR w g0 g1 g2 c0 c1 h0 h1 D) (hy : DlR w k0 k1 k2 l0 l1 m0 m1 E) (hs : SmD D) :
    Calls Try.prog 32 #[.agg #[.slice g0 g1 g2, .slice c0 c1 c2, .slice h0 h1 h2], .agg #[.slice k0 k1 k2, .slice l0 l1 l2, .slice m0 m1 m2]] w fun e w' => e = .returned (.bool (decide (D = E))) ∧ New w w' := by
  have hc1 := heap_alloc_new w (.cells #[.slice g0 g1 g2, .slice c0 c1 c2, .slice h0 h1 h2] 26)
  have U0 := (Upd.refl Nowhere w).alloc (.cells #[.slice g0 g1 g2, .slice c0 c1 c2, .slice h0 h1 h2] 26)
  have hc2 := heap_alloc_new (w.alloc (.cells #[.slice g0 g1 g2, .slice c0 c1 c2, .slice h0 h1 h2] 26)) (.cells #[.slice k0 k1 k2, .slice l0 l1 l2, .slice m0 m1 m2] 26)
  have U1 := (Upd.refl Nowhere (w.alloc (.cells #[.slice g0 g1 g2, .slice c0 c1 c2, .slice h0 h1 h2] 26))).alloc (.cells #[.slice k0 k1 k2, .slice l0 l1 l2, .slice m0 m1 m2] 26)
  rw [show (w.alloc (.cells #[.slice g0 g1 g2, .slice c0 c1 c2, .slice h0 h1 h2] 26)).heap.size = w.heap.size + 1 by simp] at hc2
  have hc1' := U1.blk hc1 (fun q => q)
  have hU := U0.trans U1
  have HE := Bx.mk (dl_eq D E)
  clear U0 U1 hc1
  go_enter Try.func32, Try.ntmps32
  go_upto_region 1 with (fail)
  generalize (w.alloc (.cells #[.slice g0 g1 g2, .slice c0 c1 c2, .slice h0 h1 h2] 26)).alloc (.cells #[.slice k0 k1 k2, .slice l0 l1 l2, .slice m0 m1 m2] 26) = w1 at *
  generalize w.heap.size + 1 = B1 at *
  generalize hB0 : w.heap.size = B0 at *
  have HC1 := Bx.mk (fun w2 (k : New w1 w2) => EqI_any g0 g1 g2 D.gone k0 k1 k2 E.gone w2 (hx.gone.new (hU.trans k)) (hy.gone.new (hU.trans k)) hs.g)
  have HC2 := Bx.mk (fun w2 (k : New w1 w2) => SnapSame_any c0 c1 c2 D.come l0 l1 l2 E.come w2 (hx.come.new (hU.trans k)) (hy.come.new (hU.trans k)) hs.c (fun x hx => (hs.cs x hx).len))
  have HC3 := Bx.mk (fun w2 (k : New w1 w2) => EqH_any h0 h1 h2 D.chg m0 m1 m2 E.chg w2 (hx.chg.new (hU.trans k)) (hy.chg.new (hU.trans k)) hs.h hs.hs)
  have hN0 : New w1 w1 := Upd.refl _ _
  have HH1 := Bx.mk hc1'
  have HH2 := Bx.mk hc2
  obtain ⟨a0, a1, a2, _⟩ := o3_at hc1'
  obtain ⟨b0, b1, b2, _⟩ := o3_at hc2
  have HB0 := Bx.mk hB0
  clear hc1' hc2 hB0
  generalize decide (D.gone = E.gone) = D1 at *
  generalize decide (D.come = E.come) = D2 at *
  generalize decide (D.chg = E.chg) = D3 at *
  cases D1 with
  | false =>
    rw [Bool.false_and] at HE
    repeat' (first | (go_at_call 55; (with_reducible refine (HC1.out _ hN0).mono ?_); rintro e2 w2 ⟨rfl, hu2⟩; dsimp only) | go_values | go_skip | go_guarded | go_step | go_upon | go_back)
    go_returns
    exact ⟨by rw [HE.out]; rfl, hU.trans hu2⟩
  | true =>
    rw [Bool.true_and] at HE
    cases D2 with
    | false =>
      rw [Bool.false_and] at HE
      repeat' (first | (first
        | (go_at_call 55; (with_reducible refine (HC1.out _ hN0).mono ?_); rintro e2 w2 ⟨rfl, hu2⟩; obtain ⟨_, a1', a2', _⟩ := o3_at (hu2.blk HH1.out (fun q => q)); obtain ⟨_, b1', b2', _⟩ := o3_at (hu2.blk HH2.out (fun q => q)); dsimp only)
        | (go_at_call 56; (with_reducible refine (HC2.out _ hu2).mono ?_); rintro e3 w3 ⟨rfl, hu3⟩; dsimp only)) | go_values | go_skip | go_guarded | go_step | go_upon | go_back)
      go_returns
      exact ⟨by rw [HE.out]; rfl, (hU.trans hu2).trans hu3⟩
    | true =>
      rw [Bool.true_and] at HE
      repeat' (first | (first
        | (go_at_call 55; (with_reducible refine (HC1.out _ hN0).mono ?_); rintro e2 w2 ⟨rfl, hu2⟩; obtain ⟨_, a1', a2', _⟩ := o3_at (hu2.blk HH1.out (fun q => q)); obtain ⟨_, b1', b2', _⟩ := o3_at (hu2.blk HH2.out (fun q => q)); dsimp only)
        | (go_at_call 56; (with_reducible refine (HC2.out _ hu2).mono ?_); rintro e3 w3 ⟨rfl, hu3⟩; have hu3' := hu2.trans hu3; obtain ⟨_, _, a2'', _⟩ := o3_at (hu3'.blk HH1.out (fun q => q)); obtain ⟨_, _, b2'', _⟩ := o3_at (hu3'.blk HH2.out (fun q => q)); dsimp only)
        | (go_at_call 57; (with_reducible refine (HC3.out _ hu3').mono ?_); rintro e4 w4 ⟨rfl, hu4⟩; dsimp only)) | go_values | go_skip | go_guarded | go_step | go_upon | go_back)
      go_returns
      exact ⟨by rw [HE.out]; rfl, (hU.trans hu3').trans hu4⟩
set_option maxRecDepth 4000 in
set_option maxHeartbeats 8000000 in
theorem Empty_any (g0 : Option Addr) (g1 g2 : Nat) (c0 : Option Addr) (c1 c2 : Nat) (h0 : Option Addr) (h1 h2 : Nat) (w : World) :
    Calls Try.prog 20 #[.agg #[.slice g0 g1 g2, .slice c0 c1 c2, .slice h0 h1 h2]] w fun e w' => e = .returned (.bool (decide (g1 = 0 ∧ c1 = 0 ∧ h1 = 0))) ∧ New w w' := by
  have hU := (Upd.refl Nowhere w).alloc (.cells #[.slice g0 g1 g2, .slice c0 c1 c2, .slice h0 h1 h2] 26)
  obtain ⟨z0, z1, z2, zf⟩ := o3_at (heap_alloc_new w (.cells #[.slice g0 g1 g2, .slice c0 c1 c2, .slice h0 h1 h2] 26))
  by_cases e1 : g1 = 0
  · have d1 : ((g1 : Int) == 0) = true := by simp [e1]
    have D1 := Bx.mk e1
    by_cases e2 : c1 = 0
    · have d2 : ((c1 : Int) == 0) = true := by simp [e2]
      have D2 := Bx.mk e2
      clear e1 e2
      go_enter Try.func20, Try.ntmps20
      repeat' (first | fail | go_values | go_skip | go_guarded | go_step | go_upon | go_back)
      go_returns
      refine ⟨?_, hU⟩
      exact congrArg (fun z => Ending.returned (Value.bool z)) (Bool.eq_iff_iff.2 (by simp only [decide_eq_true_eq, beq_iff_eq]; have := D1.out; have := D2.out; omega))
    · have d2 : ((c1 : Int) == 0) = false := by simp [e2]
      have D2 := Bx.mk e2
      clear e1 e2
      go_enter Try.func20, Try.ntmps20
      repeat' (first | fail | go_values | go_skip | go_guarded | go_step | go_upon | go_back)
      go_returns
      refine ⟨?_, hU⟩
      rw [decide_eq_false (fun h => D2.out h.2.1)]; rfl
  · have d1 : ((g1 : Int) == 0) = false := by simp [e1]
    have D1 := Bx.mk e1
    clear e1
    go_enter Try.func20, Try.ntmps20
    repeat' (first | fail | go_values | go_skip | go_guarded | go_step | go_upon | go_back)
    go_returns
    refine ⟨?_, hU⟩
    rw [decide_eq_false (fun h => D1.out h.1)]; rfl
end Go.Proofs.Ytdnkdmdmekdfkaa
