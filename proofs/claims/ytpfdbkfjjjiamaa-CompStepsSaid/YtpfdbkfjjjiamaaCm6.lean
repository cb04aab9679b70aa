/- Components: SizeStep, life, awake, Changed. -/
import Derived.Test.YtpfdbkfjjjiamaaCm5
namespace Go.Proofs.Ytpfdbkfjjjiamaa
open Go.RowKit

/-- two components boxed: where they lie -/
theorem two_boxes (w : World) (k k' : Nat) (a b c a' b' c' : Int) :
    let w2 := (w.alloc (.cells #[.int .u8 k, .int .i32 a, .int .i32 b, .int .i32 c] 24)).alloc (.cells #[.int .u8 k', .int .i32 a', .int .i32 b', .int .i32 c'] 24)
    New w w2 ∧ Rd w2 (some ⟨w.heap.size, 0, none⟩) [.int .u8 k, .int .i32 a, .int .i32 b, .int .i32 c] ∧ Rd w2 (some ⟨w.heap.size + 1, 0, none⟩) [.int .u8 k', .int .i32 a', .int .i32 b', .int .i32 c'] := by
  intro w2
  have hB1 := rd_new w [.int .u8 k, .int .i32 a, .int .i32 b, .int .i32 c] 24
  have hNN : New (w.alloc (.cells #[.int .u8 k, .int .i32 a, .int .i32 b, .int .i32 c] 24)) w2 := (Upd.refl _ _).alloc _
  have hR2 := rd_new (w.alloc (.cells #[.int .u8 k, .int .i32 a, .int .i32 b, .int .i32 c] 24)) [.int .u8 k', .int .i32 a', .int .i32 b', .int .i32 c'] 24
  rw [show (w.alloc (.cells #[.int .u8 k, .int .i32 a, .int .i32 b, .int .i32 c] 24)).heap.size = w.heap.size + 1 by simp] at hR2
  exact ⟨((Upd.refl _ _).alloc _).alloc _, hB1.new hNN, hR2⟩
set_option maxHeartbeats 1000000 in
theorem SizeStep_any (k k' : Nat) (a b c a' b' c' : Int) (w : World) (hk : k < 256) (hk' : k' < 256) :
    Calls Try.prog 12 #[.agg #[.int .u8 k, .int .i32 a, .int .i32 b, .int .i32 c], .agg #[.int .u8 k', .int .i32 a', .int .i32 b', .int .i32 c']] w fun e w' => e = .returned (.int .i64 (sizeS k [a, b, c] k' [a', b', c'])) ∧ New w w' := by
  have C1 := Bx.mk (fun w => pair_any k k' a b c a' b' c' w hk hk')
  obtain ⟨hN0, r1, r2⟩ := two_boxes w k k' a b c a' b' c'
  have R1 := Bx.mk r1
  have R2 := Bx.mk r2
  clear r1 r2
  by_cases hg : pairE k [a, b, c] k' [a', b', c'] = 0
  · obtain ⟨g1, g2, rfl⟩ := pair_ok hg
    have HE := Bx.mk (show sizeS k [a, b, c] k [a', b', c'] = psize (stepTo k [a, b, c] [a', b', c'] (flds k).length) from if_pos hg)
    have CW := Bx.mk (fun w => step_any k a b c a' b' c' w hk g1 g2)
    have h3 := flds_len k
    have hle := stepTo_le k [a, b, c] [a', b', c'] (flds k).length
    have CZ := Bx.mk (fun A cq w hx => size_any A (stepTo k [a, b, c] [a', b', c'] (flds k).length).length cq (stepTo k [a, b, c] [a', b', c'] (flds k).length) w rfl (by omega) hx (stepTo_64 _ _ _ _))
    rw [HE.out]
    rw [hg] at C1
    generalize stepTo k [a, b, c] [a', b', c'] (flds k).length = L at *
    clear hg g1 g2 hle
    generalize hll : L.length = ll at *
    clear hll
    go_enter Try.func12, Try.ntmps12
    obtain ⟨c0, c1, c2, c3⟩ := four_cells R1.out
    obtain ⟨d0, d1, d2, d3⟩ := four_cells R2.out
    repeat' (first | (first
      | (go_at_call 33; go_loud ((with_reducible refine (C1.out _).mono ?_); rintro e w1 ⟨rfl, hu1⟩; (obtain ⟨e0, e1, e2, e3⟩ := four_cells (R1.out.new hu1)); (obtain ⟨f0, f1, f2, f3⟩ := four_cells (R2.out.new hu1)); dsimp only))
      | (go_at_call 35; go_loud ((with_reducible refine (CW.out _).mono ?_); rintro e w2 ⟨v2, rfl, ho2, hu2⟩; (obtain ⟨A2, c2', rfl, _, _, hr2, _⟩ := own_rd ho2); dsimp only))
      | (go_at_call 34; go_loud ((with_reducible refine (CZ.out _ _ _ hr2).mono ?_); rintro e w3 ⟨rfl, hu3⟩; dsimp only))) | go_values | go_skip | go_guarded | go_step | go_upon | go_back)
    go_ret
    exact ⟨rfl, ((hN0.trans hu1).trans hu2).trans hu3⟩
  · have HE := Bx.mk (show sizeS k [a, b, c] k' [a', b', c'] = 0 from if_neg hg)
    rw [HE.out]
    generalize pairE k [a, b, c] k' [a', b', c'] = e1 at *
    go_enter Try.func12, Try.ntmps12
    obtain ⟨c0, c1, c2, c3⟩ := four_cells R1.out
    obtain ⟨d0, d1, d2, d3⟩ := four_cells R2.out
    repeat' (first | (first
      | (go_at_call 33; go_loud ((with_reducible refine (C1.out _).mono ?_); rintro e w1 ⟨rfl, hu1⟩; dsimp only))) | go_values | go_skip | go_guarded | go_step | go_upon | go_back)
    go_ret
    exact ⟨rfl, hN0.trans hu1⟩
theorem set4 {w : World} {B : Nat} {a b c d : Value} (h : w.heap[B]? = some (.cells #[a, b, c, d] 24 (0, 0))) (x y z u : Value) : ((((w.setCell ⟨B, 0, none⟩ x).setCell ⟨B, 1, none⟩ y).setCell ⟨B, 2, none⟩ z).setCell ⟨B, 3, none⟩ u).heap[B]? = some (.cells #[x, y, z, u] 24 (0, 0)) :=
  heap_setCell_same _ B 3 _ _ u (heap_setCell_same _ B 2 _ _ z (heap_setCell_same _ B 1 _ _ y (heap_setCell_same _ B 0 _ _ x h)))
theorem new4 {w w1 : World} (hu : New w w1) {B : Nat} (hB : w.heap.size ≤ B) (x y z u : Value) : New w ((((w1.setCell ⟨B, 0, none⟩ x).setCell ⟨B, 1, none⟩ y).setCell ⟨B, 2, none⟩ z).setCell ⟨B, 3, none⟩ u) :=
  (((hu.setCell (p := ⟨B, 0, none⟩) (.inr hB) _).setCell (p := ⟨B, 1, none⟩) (.inr hB) _).setCell (p := ⟨B, 2, none⟩) (.inr hB) _).setCell (p := ⟨B, 3, none⟩) (.inr hB) _
theorem life_any (n : Int) (w : World) : Calls Try.prog 31 #[.int .i32 n] w fun e w' => e = .returned (.agg #[.int .u8 2, .int .i32 n, .int .i32 0, .int .i32 0]) ∧ New w w' := by
  go_enter Try.func31, Try.ntmps31
  go_wp2
  refine bodyPost_ret (results_cell_row Try.results31 _ _ w.heap.size 24 _ (0, 0) _ rfl (heap_alloc_new w _) Try.underlying24 rfl (by kernel_rfl)) rfl ?_
  exact ⟨rfl, (Upd.refl _ w).alloc _⟩
set_option maxHeartbeats 1000000 in
theorem cmAwake_any (w : World) : Calls Try.prog 8 #[] w fun e w' => e = .returned (.bool true) ∧ New w w' := by
  have S1 : ∀ w, Calls Try.prog 13 #[.agg #[.int .u8 2, .int .i32 5, .int .i32 0, .int .i32 0]] w fun e w' => e = .returned (.int .i64 12) ∧ New w w' := fun w => by
    have := Size_any 2 5 0 0 w (by decide)
    rwa [show sizeC 2 [5, 0, 0] = 12 by decide +kernel] at this
  have S2 : ∀ w, Calls Try.prog 12 #[.agg #[.int .u8 2, .int .i32 6, .int .i32 0, .int .i32 0], .agg #[.int .u8 2, .int .i32 5, .int .i32 0, .int .i32 0]] w fun e w' => e = .returned (.int .i64 6) ∧ New w w' := fun w => by
    have := SizeStep_any 2 2 6 0 0 5 0 0 w (by decide) (by decide)
    rwa [show sizeS 2 [6, 0, 0] 2 [5, 0, 0] = 6 by decide +kernel] at this
  have S3 : ∀ w, Calls Try.prog 12 #[.agg #[.int .u8 2, .int .i32 5, .int .i32 0, .int .i32 0], .agg #[.int .u8 2, .int .i32 5, .int .i32 0, .int .i32 0]] w fun e w' => e = .returned (.int .i64 1) ∧ New w w' := fun w => by
    have := SizeStep_any 2 2 5 0 0 5 0 0 w (by decide) (by decide)
    rwa [show sizeS 2 [5, 0, 0] 2 [5, 0, 0] = 1 by decide +kernel] at this
  have S4 : ∀ w, Calls Try.prog 12 #[.agg #[.int .u8 2, .int .i32 500, .int .i32 0, .int .i32 0], .agg #[.int .u8 2, .int .i32 5, .int .i32 0, .int .i32 0]] w fun e w' => e = .returned (.int .i64 14) ∧ New w w' := fun w => by
    have := SizeStep_any 2 2 500 0 0 5 0 0 w (by decide) (by decide)
    rwa [show sizeS 2 [500, 0, 0] 2 [5, 0, 0] = 14 by decide +kernel] at this
  have B1 := Bx.mk S1
  have B2 := Bx.mk S2
  have B3 := Bx.mk S3
  have B4 := Bx.mk S4
  clear S1 S2 S3 S4
  have N0 : New w w := Upd.refl _ w
  go_enter Try.func8, Try.ntmps8
  go_wp2_with (first
    | (go_at_call 31; go_loud ((with_reducible refine (life_any _ _).mono ?_); rintro e w1 ⟨rfl, hu1⟩; replace N0 := N0.trans hu1; dsimp only))
    | (go_at_call 13; go_loud ((with_reducible refine (B1.out _).mono ?_); rintro e w1 ⟨rfl, hu1⟩; replace N0 := N0.trans hu1; dsimp only))
    | (go_at_call 12; go_loud ((with_reducible refine (B2.out _).mono ?_); rintro e w1 ⟨rfl, hu1⟩; replace N0 := N0.trans hu1; dsimp only))
    | (go_at_call 12; go_loud ((with_reducible refine (B3.out _).mono ?_); rintro e w1 ⟨rfl, hu1⟩; replace N0 := N0.trans hu1; dsimp only))
    | (go_at_call 12; go_loud ((with_reducible refine (B4.out _).mono ?_); rintro e w1 ⟨rfl, hu1⟩; replace N0 := N0.trans hu1; dsimp only)))
  go_ret
  exact ⟨rfl, N0⟩
end Go.Proofs.Ytpfdbkfjjjiamaa
