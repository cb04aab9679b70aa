/- Components: pair, Size, SizeStep, Changed, awake. -/
import Derived.Test.YtpfdbkfjjjiamaaCm4
namespace Go.Proofs.Ytpfdbkfjjjiamaa
open Go.RowKit

theorem wholeTo_64 (k : Nat) (F : List Int) (j : Nat) : ∀ q ∈ wholeTo k F j, q.2 ≤ 64 := by
  intro q hq
  obtain ⟨i, _, rfl⟩ := List.mem_map.1 hq
  exact wid_le _ _
theorem stepTo_64 (k : Nat) (W F : List Int) (j : Nat) : ∀ q ∈ stepTo k W F j, q.2 ≤ 64 := by
  intro q hq
  obtain ⟨i, _, hq⟩ := List.mem_flatMap.1 hq
  unfold stepP at hq
  split at hq
  · simp at hq; subst hq; decide
  · split at hq
    · simp at hq; rcases hq with rfl | rfl <;> simp
    · simp at hq; rcases hq with rfl | rfl | rfl
      · decide
      · decide
      · exact wid_le _ _
def sizeC (k : Nat) (F : List Int) : Nat := if chk k F = 0 then psize (wholeTo k F (flds k).length) else 0
def pairE (k : Nat) (W : List Int) (k' : Nat) (F : List Int) : Int := if chk k W ≠ 0 then chk k W else if chk k' F ≠ 0 then chk k' F else if k = k' then 0 else 4
def sizeS (k : Nat) (W : List Int) (k' : Nat) (F : List Int) : Nat := if pairE k W k' F = 0 then psize (stepTo k W F (flds k).length) else 0
theorem pair_ok {k : Nat} {W : List Int} {k' : Nat} {F : List Int} (h : pairE k W k' F = 0) : chk k W = 0 ∧ chk k' F = 0 ∧ k = k' := by
  unfold pairE at h
  split at h
  · exact absurd h ‹_›
  · split at h
    · exact absurd h ‹_›
    · split at h
      · rename_i h1 h2 h3; exact ⟨Decidable.byContradiction h1, Decidable.byContradiction h2, h3⟩
      · cases h

set_option maxHeartbeats 1000000 in
theorem pair_any (k k' : Nat) (a b c a' b' c' : Int) (w : World) (hk : k < 256) (hk' : k' < 256) :
    Calls Try.prog 33 #[.agg #[.int .u8 k, .int .i32 a, .int .i32 b, .int .i32 c], .agg #[.int .u8 k', .int .i32 a', .int .i32 b', .int .i32 c']] w fun e w' => e = .returned (.int .i64 (pairE k [a, b, c] k' [a', b', c'])) ∧ New w w' := by
  have C1 := Bx.mk (fun w => Check_any k a b c w hk)
  have C2 := Bx.mk (fun w => Check_any k' a' b' c' w hk')
  have HE := Bx.mk (show pairE k [a, b, c] k' [a', b', c'] = if chk k [a, b, c] ≠ 0 then chk k [a, b, c] else if chk k' [a', b', c'] ≠ 0 then chk k' [a', b', c'] else if k = k' then 0 else 4 from rfl)
  generalize chk k [a, b, c] = e1 at *
  generalize chk k' [a', b', c'] = e2 at *
  have hB1 := rd_new w [.int .u8 k, .int .i32 a, .int .i32 b, .int .i32 c] 24
  have hNN : New (w.alloc (.cells #[.int .u8 k, .int .i32 a, .int .i32 b, .int .i32 c] 24)) ((w.alloc (.cells #[.int .u8 k, .int .i32 a, .int .i32 b, .int .i32 c] 24)).alloc (.cells #[.int .u8 k', .int .i32 a', .int .i32 b', .int .i32 c'] 24)) := (Upd.refl _ _).alloc _
  have hN0 : New w ((w.alloc (.cells #[.int .u8 k, .int .i32 a, .int .i32 b, .int .i32 c] 24)).alloc (.cells #[.int .u8 k', .int .i32 a', .int .i32 b', .int .i32 c'] 24)) := ((Upd.refl _ _).alloc _).alloc _
  have hR1 := hB1.new hNN
  have hR2 := rd_new (w.alloc (.cells #[.int .u8 k, .int .i32 a, .int .i32 b, .int .i32 c] 24)) [.int .u8 k', .int .i32 a', .int .i32 b', .int .i32 c'] 24
  rw [show (w.alloc (.cells #[.int .u8 k, .int .i32 a, .int .i32 b, .int .i32 c] 24)).heap.size = w.heap.size + 1 by simp] at hR2
  have BR1 := Bx.mk hR1
  have BR2 := Bx.mk hR2
  clear hB1 hNN hR1 hR2
  by_cases h1 : e1 = 0
  · subst h1
    by_cases h2 : e2 = 0
    · subst h2
      by_cases hkk : k = k'
      · have HE2 := Bx.mk (show pairE k [a, b, c] k' [a', b', c'] = 0 by rw [HE.out, if_neg (by simp), if_neg (by simp), if_pos hkk])
        rw [HE2.out]
        subst hkk
        go_enter Try.func33, Try.ntmps33
        obtain ⟨c0, c1, c2, c3⟩ := four_cells BR1.out
        obtain ⟨d0, d1, d2, d3⟩ := four_cells BR2.out
        repeat' (first | (first
          | (have _m := hu1; (go_at_call 36; (with_reducible refine (C2.out _).mono ?_); rintro e w2 ⟨rfl, hu2⟩; (obtain ⟨i0, i1, i2, i3⟩ := four_cells ((BR1.out.new hu1).new hu2)); (obtain ⟨j0, j1, j2, j3⟩ := four_cells ((BR2.out.new hu1).new hu2)); dsimp only))
          | (go_at_call 36; (with_reducible refine (C1.out _).mono ?_); rintro e w1 ⟨rfl, hu1⟩; (obtain ⟨e0, e1, e2, e3⟩ := four_cells (BR1.out.new hu1)); (obtain ⟨f0, f1, f2, f3⟩ := four_cells (BR2.out.new hu1)); dsimp only)) | go_values | go_skip | go_guarded | go_step | go_upon | go_back)
        go_ret
        exact ⟨rfl, (hN0.trans hu1).trans hu2⟩
      · have HE2 := Bx.mk (show pairE k [a, b, c] k' [a', b', c'] = 4 by rw [HE.out, if_neg (by simp), if_neg (by simp), if_neg hkk])
        rw [HE2.out]
        have hne : ¬ (k : Int) = (k' : Int) := by omega
        clear hkk
        go_enter Try.func33, Try.ntmps33
        obtain ⟨c0, c1, c2, c3⟩ := four_cells BR1.out
        obtain ⟨d0, d1, d2, d3⟩ := four_cells BR2.out
        repeat' (first | (first
          | (have _m := hu1; (go_at_call 36; (with_reducible refine (C2.out _).mono ?_); rintro e w2 ⟨rfl, hu2⟩; (obtain ⟨i0, i1, i2, i3⟩ := four_cells ((BR1.out.new hu1).new hu2)); (obtain ⟨j0, j1, j2, j3⟩ := four_cells ((BR2.out.new hu1).new hu2)); dsimp only))
          | (go_at_call 36; (with_reducible refine (C1.out _).mono ?_); rintro e w1 ⟨rfl, hu1⟩; (obtain ⟨e0, e1, e2, e3⟩ := four_cells (BR1.out.new hu1)); (obtain ⟨f0, f1, f2, f3⟩ := four_cells (BR2.out.new hu1)); dsimp only)) | go_values | go_skip | go_guarded | go_step | go_upon | go_back)
        go_ret
        exact ⟨rfl, (hN0.trans hu1).trans hu2⟩
    · have HE2 := Bx.mk (show pairE k [a, b, c] k' [a', b', c'] = e2 by rw [HE.out, if_neg (by simp), if_pos h2])
      rw [HE2.out]
      go_enter Try.func33, Try.ntmps33
      obtain ⟨c0, c1, c2, c3⟩ := four_cells BR1.out
      obtain ⟨d0, d1, d2, d3⟩ := four_cells BR2.out
      repeat' (first | (first
        | (have _m := hu1; (go_at_call 36; (with_reducible refine (C2.out _).mono ?_); rintro e w2 ⟨rfl, hu2⟩; dsimp only))
        | (go_at_call 36; (with_reducible refine (C1.out _).mono ?_); rintro e w1 ⟨rfl, hu1⟩; (obtain ⟨e0, e1, e2, e3⟩ := four_cells (BR1.out.new hu1)); (obtain ⟨f0, f1, f2, f3⟩ := four_cells (BR2.out.new hu1)); dsimp only)) | go_values | go_skip | go_guarded | go_step | go_upon | go_back)
      go_ret
      exact ⟨rfl, (hN0.trans hu1).trans hu2⟩
  · have HE2 := Bx.mk (show pairE k [a, b, c] k' [a', b', c'] = e1 by rw [HE.out, if_pos h1])
    rw [HE2.out]
    go_enter Try.func33, Try.ntmps33
    obtain ⟨c0, c1, c2, c3⟩ := four_cells BR1.out
    repeat' (first | (first
      | (go_at_call 36; (with_reducible refine (C1.out _).mono ?_); rintro e w1 ⟨rfl, hu1⟩; dsimp only)) | go_values | go_skip | go_guarded | go_step | go_upon | go_back)
    go_ret
    exact ⟨rfl, hN0.trans hu1⟩

set_option maxHeartbeats 1000000 in
theorem Size_any (k : Nat) (a b c : Int) (w : World) (hk : k < 256) :
    Calls Try.prog 13 #[.agg #[.int .u8 k, .int .i32 a, .int .i32 b, .int .i32 c]] w fun e w' => e = .returned (.int .i64 (sizeC k [a, b, c])) ∧ New w w' := by
  have C1 := Bx.mk (fun w => Check_any k a b c w hk)
  have BR := Bx.mk (rd_new w [.int .u8 k, .int .i32 a, .int .i32 b, .int .i32 c] 24)
  by_cases hg : chk k [a, b, c] = 0
  · have HE := Bx.mk (show sizeC k [a, b, c] = psize (wholeTo k [a, b, c] (flds k).length) from if_pos hg)
    have CW := Bx.mk (fun w => whole_any k a b c w hk hg)
    have h3 := flds_len k
    have CZ := Bx.mk (fun A c' w hx => size_any A (flds k).length c' (wholeTo k [a, b, c] (flds k).length) w (wholeTo_length _ _ _) (by omega) hx (wholeTo_64 _ _ _))
    rw [HE.out]
    rw [hg] at C1
    generalize wholeTo k [a, b, c] (flds k).length = L at *
    generalize (flds k).length = n at *
    clear hg
    go_enter Try.func13, Try.ntmps13
    obtain ⟨c0, c1, c2, c3⟩ := four_cells BR.out
    repeat' (first | (first
      | (go_at_call 36; (with_reducible refine (C1.out _).mono ?_); rintro e w1 ⟨rfl, hu1⟩; (obtain ⟨e0, e1, e2, e3⟩ := four_cells (BR.out.new hu1)); dsimp only)
      | (go_at_call 37; (with_reducible refine (CW.out _).mono ?_); rintro e w2 ⟨v2, rfl, ho2, hu2⟩; (obtain ⟨A2, c2', rfl, _, _, hr2, _⟩ := own_rd ho2); dsimp only)
      | (go_at_call 34; (with_reducible refine (CZ.out _ _ _ hr2).mono ?_); rintro e w3 ⟨rfl, hu3⟩; dsimp only)) | go_values | go_skip | go_guarded | go_step | go_upon | go_back)
    go_ret
    exact ⟨rfl, ((((Upd.refl _ w).alloc _).trans hu1).trans hu2).trans hu3⟩
  · have HE := Bx.mk (show sizeC k [a, b, c] = 0 from if_neg hg)
    rw [HE.out]
    generalize chk k [a, b, c] = e1 at *
    go_enter Try.func13, Try.ntmps13
    obtain ⟨c0, c1, c2, c3⟩ := four_cells BR.out
    repeat' (first | (first
      | (go_at_call 36; (with_reducible refine (C1.out _).mono ?_); rintro e w1 ⟨rfl, hu1⟩; dsimp only)) | go_values | go_skip | go_guarded | go_step | go_upon | go_back)
    go_ret
    exact ⟨rfl, ((Upd.refl _ w).alloc _).trans hu1⟩
end Go.Proofs.Ytpfdbkfjjjiamaa
