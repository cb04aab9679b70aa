/- CompChanges: walked. -/
import Derived.Test.YtpfdbkfjjjiamaaCm7
namespace Go.Proofs.Ytpfdbkfjjjiamaa
open Go.RowKit
theorem psize_one (q : Nat × Nat) : psize [q] = q.2 := by simp [psize]
theorem stepP_size (k : Nat) (W F : List Int) (i : Nat) (hi : i < (flds k).length) : 1 ≤ psize (stepP k W F i) ∧ psize (stepP k W F i) ≤ (fldP k F i).2 + 3 ∧ (dz W F i = 0 → psize (stepP k W F i) = 1) := by
  have h3 := wid3 k i hi
  have e : (fldP k F i).2 = wid (rngLo k i) (rngHi k i) := rfl
  unfold stepP
  by_cases h0 : dz W F i = 0
  · rw [if_pos h0]; simp only [psize, List.map_cons, List.map_nil, List.sum_cons, List.sum_nil]; omega
  · rw [if_neg h0]
    by_cases h16 : dz W F i ≤ 16
    · rw [if_pos h16]; simp only [psize, List.map_cons, List.map_nil, List.sum_cons, List.sum_nil]; omega
    · rw [if_neg h16]; simp only [psize, List.map_cons, List.map_nil, List.sum_cons, List.sum_nil]; omega
theorem sizes_to (k : Nat) (W F : List Int) (j : Nat) (hj : j ≤ (flds k).length) : j ≤ psize (stepTo k W F j) ∧ psize (stepTo k W F j) ≤ psize (wholeTo k F j) + 3 * j ∧ ((∀ i, i < j → dz W F i = 0) → psize (stepTo k W F j) = j) := by
  induction j with
  | zero => simp [stepTo, psize]
  | succ j ih =>
    obtain ⟨i1, i2, i3⟩ := ih (by omega)
    obtain ⟨s1, s2, s3⟩ := stepP_size k W F j (by omega)
    rw [stepTo_succ, psize_append, wholeTo_succ, psize_append, psize_one]
    refine ⟨by omega, by omega, fun h => ?_⟩
    have := i3 fun i hi => h i (by omega)
    have := s3 (h j (by omega))
    omega
theorem dz_same (W F : List Int) (i : Nat) (h : W.getD i 0 = F.getD i 0) : dz W F i = 0 := by
  unfold dz zig
  rw [h, Int.sub_self]
  rfl
theorem chg_zero {a b c a' b' c' : Int} (h : chg [a, b, c] [a', b', c'] = 0) : a = a' ∧ b = b' ∧ c = c' := by
  unfold chg chgTo at h
  simp only [List.getD_cons_zero, List.getD_cons_succ, decide_eq_true_eq] at h
  refine ⟨Decidable.byContradiction fun q => ?_, Decidable.byContradiction fun q => ?_, Decidable.byContradiction fun q => ?_⟩
  · rw [if_pos (show 0 < 3 ∧ a ≠ a' from ⟨by omega, q⟩)] at h; omega
  · rw [if_pos (show 1 < 3 ∧ b ≠ b' from ⟨by omega, q⟩)] at h; omega
  · rw [if_pos (show 2 < 3 ∧ c ≠ c' from ⟨by omega, q⟩)] at h; omega
/-- the sizes, where both are components of one kind -/
theorem sizes_law (k : Nat) (a b c a' b' c' : Int) (h1 : chk k [a, b, c] = 0) (h2 : chk k [a', b', c'] = 0) :
    (chg [a, b, c] [a', b', c'] = 0 → sizeS k [a, b, c] k [a', b', c'] = (flds k).length) ∧ sizeS k [a, b, c] k [a', b', c'] ≤ sizeC k [a', b', c'] + 3 * (flds k).length ∧ (flds k).length ≤ sizeS k [a', b', c'] k [a, b, c] := by
  have p1 : pairE k [a, b, c] k [a', b', c'] = 0 := by rw [pairE, if_neg (by simpa using h1), if_neg (by simpa using h2), if_pos rfl]
  have p2 : pairE k [a', b', c'] k [a, b, c] = 0 := by rw [pairE, if_neg (by simpa using h2), if_neg (by simpa using h1), if_pos rfl]
  rw [sizeS, if_pos p1, sizeS, if_pos p2, sizeC, if_pos h2]
  obtain ⟨_, s2, s3⟩ := sizes_to k [a, b, c] [a', b', c'] (flds k).length (Nat.le_refl _)
  obtain ⟨t1, _, _⟩ := sizes_to k [a', b', c'] [a, b, c] (flds k).length (Nat.le_refl _)
  refine ⟨fun h => s3 fun i _ => ?_, s2, t1⟩
  obtain ⟨rfl, rfl, rfl⟩ := chg_zero h
  exact dz_same _ _ _ rfl
theorem sizeC_le (k : Nat) (F : List Int) : sizeC k F ≤ 300 := by
  unfold sizeC
  split
  · have h3 := flds_len k
    have : ∀ j, psize (wholeTo k F j) ≤ 64 * j := by
      intro j
      induction j with
      | zero => simp [wholeTo, psize]
      | succ j ih =>
        have := wholeTo_64 k F (j + 1) (fldP k F j) (by rw [wholeTo_succ]; simp)
        rw [wholeTo_succ, psize_append, psize_one]; omega
    have := this (flds k).length
    omega
  · omega
set_option maxRecDepth 20000 in
set_option maxHeartbeats 8000000 in
theorem CompChanges_any (k k' : Nat) (a b c a' b' c' : Int) (w : World) (hk : k < 256) (hk' : k' < 256) :
    Calls Try.prog 3 #[.agg #[.int .u8 k, .int .i32 a, .int .i32 b, .int .i32 c], .agg #[.int .u8 k', .int .i32 a', .int .i32 b', .int .i32 c']] w fun e w' => e = .returned (.bool true) ∧ New w w' := by
  obtain ⟨hN0, r1, r2⟩ := two_boxes w k k' a b c a' b' c'
  have R1 := Bx.mk r1
  have R2 := Bx.mk r2
  clear r1 r2
  have BC := Bx.mk (fun w => Changed_any k k' a b c a' b' c' w)
  obtain ⟨x, hx⟩ : ∃ x, decide (a ≠ a') = x := ⟨_, rfl⟩
  obtain ⟨y, hy⟩ : ∃ y, decide (b ≠ b') = y := ⟨_, rfl⟩
  obtain ⟨z, hz⟩ : ∃ z, decide (c ≠ c') = z := ⟨_, rfl⟩
  have fx : (a == a') = !x := by rw [← hx]; by_cases q : a = a' <;> simp [q]
  have fy : (b == b') = !y := by rw [← hy]; by_cases q : b = b' <;> simp [q]
  have fz : (c == c') = !z := by rw [← hz]; by_cases q : c = c' <;> simp [q]
  have hm : chg [a, b, c] [a', b', c'] = chgTo x y z 3 := by unfold chg; simp only [List.getD_cons_zero, List.getD_cons_succ, hx, hy, hz]
  have HM := Bx.mk hm
  clear hx hy hz
  rw [hm] at BC
  clear hm
  obtain ⟨m, hm⟩ : ∃ m, chgTo x y z 3 = m := ⟨_, rfl⟩
  have hm8 : m < 8 := by rw [← hm]; exact chgTo_lt x y z 3
  rw [hm] at BC
  have HX := Bx.mk hm
  clear hm
  go_enter Try.func3, Try.ntmps3
  repeat' (first | fail | go_values | go_skip | go_guarded | go_step | go_upon | go_back)
  generalize (w.alloc (.cells #[.int .u8 k, .int .i32 a, .int .i32 b, .int .i32 c] 24)).alloc (.cells #[.int .u8 k', .int .i32 a', .int .i32 b', .int .i32 c'] 24) = wz at *
  repeat' (first | (first
    | (go_at_call 8; go_loud ((with_reducible refine (cmAwake_any _).mono ?_); rintro e w1 ⟨rfl, hu1⟩; (obtain ⟨c0, c1, c2, c3⟩ := four_cells (R1.out.new hu1)); (obtain ⟨d0, d1, d2, d3⟩ := four_cells (R2.out.new hu1)); dsimp only))
    | (go_at_call 9; go_loud ((with_reducible refine (BC.out _).mono ?_); rintro e w2 ⟨rfl, hu2⟩; dsimp only))) | go_values | go_skip | go_guarded | go_step | go_upon | go_back)
  have hN2 : New wz w2 := hu1.trans hu2
  have hm7 : ¬ (7 : Int) < (m : Int) := by omega
  have hm7' : (m : Int) ≤ 7 := by omega
  clear c0 c1 c2 c3 d0 d1 d2 d3
  go_loopw [13] (fun i wr => ∃ j : Nat, j ≤ 3 ∧ i = .int .i64 j ∧ New wz wr) (fun i _ => 3 - (intOf i).toNat)
  case atStart => exact ⟨0, by omega, rfl, hN2⟩
  case round =>
    obtain ⟨j, hj, rfl, hN⟩ := hrel
    obtain ⟨c0, c1, c2, c3⟩ := four_cells (R1.out.new hN)
    obtain ⟨d0, d1, d2, d3⟩ := four_cells (R2.out.new hN)
    have h4 : j = 3 ∨ j = 0 ∨ j = 1 ∨ j = 2 := by omega
    rcases h4 with rfl | h4
    · have E1 := Bx.mk (fun w => refCheck_any k a b c w hk)
      have E2 := Bx.mk (fun w => refCheck_any k' a' b' c' w hk')
      clear fx fy fz
      by_cases g1 : chk k [a, b, c] = 0
      · by_cases g2 : chk k' [a', b', c'] = 0
        · by_cases hkk : k = k'
          · subst hkk
            rw [g1] at E1
            rw [g2] at E2
            have EC := Bx.mk (fun w => refCount_any k w hk)
            have SL := sizes_law k a b c a' b' c' g1 g2
            have hcl := sizeC_le k [a', b', c']
            have hfl := flds_len k
            have S1 := Bx.mk (fun w => SizeStep_any k k a b c a' b' c' w hk hk)
            have S2 := Bx.mk (fun w => SizeStep_any k k a' b' c' a b c w hk hk)
            have S3 := Bx.mk (fun w => Size_any k a' b' c' w hk)
            rw [HM.out, HX.out] at SL
            obtain ⟨n, hn⟩ : ∃ n, (flds k).length = n := ⟨_, rfl⟩
            obtain ⟨p, hp⟩ : ∃ p, sizeS k [a, b, c] k [a', b', c'] = p := ⟨_, rfl⟩
            obtain ⟨q, hq⟩ : ∃ q, sizeS k [a', b', c'] k [a, b, c] = q := ⟨_, rfl⟩
            obtain ⟨s, hs⟩ : ∃ s, sizeC k [a', b', c'] = s := ⟨_, rfl⟩
            rw [hn, hp, hq, hs] at SL
            rw [hp] at S1
            rw [hq] at S2
            rw [hs] at S3 hcl
            rw [hn] at EC hfl
            clear g1 g2 hn hp hq hs HM HX
            repeat' (first | (first
              | (have _m := hu3; (go_at_call 10; go_loud ((with_reducible refine (E2.out _).mono ?_); rintro e w4 ⟨rfl, hu4⟩; have hN4 := hN3.trans hu4; (obtain ⟨e40, e41, e42, e43⟩ := four_cells (R1.out.new hN4)); (obtain ⟨f40, f41, f42, f43⟩ := four_cells (R2.out.new hN4)); dsimp only)))
              | (go_at_call 10; go_loud ((with_reducible refine (E1.out _).mono ?_); rintro e w3 ⟨rfl, hu3⟩; have hN3 := hN.trans hu3; (obtain ⟨e0, e1, e2, e3⟩ := four_cells (R1.out.new hN3)); (obtain ⟨f0, f1, f2, f3⟩ := four_cells (R2.out.new hN3)); dsimp only))
              | (go_at_call 11; go_loud ((with_reducible refine (EC.out _).mono ?_); rintro e w5 ⟨rfl, hu5⟩; have hN5 := hN4.trans hu5; dsimp only))) | go_values | go_skip | go_guarded | go_step | go_upon | go_back)
            clear c0 c1 c2 c3 d0 d1 d2 d3 e0 e1 e2 e3 f0 f1 f2 f3 e40 e41 e42 e43 f40 f41 f42 f43
            obtain ⟨sl1, sl2, sl3⟩ := SL
            obtain ⟨fa0, fa1, fa2, fa3⟩ := four_after (R1.out.new hN5)
            obtain ⟨fb0, fb1, fb2, fb3⟩ := four_after (R2.out.new hN5)
            have hw1 : IntKind.i64.wrap (3 * (n : Int)) = 3 * (n : Int) := by rw [IntKind.wrap_i64]; omega
            have hw2 : IntKind.i64.wrap ((s : Int) + 3 * (n : Int)) = (s : Int) + 3 * (n : Int) := by rw [IntKind.wrap_i64]; omega
            have hle1 : (p : Int) ≤ (s : Int) + 3 * (n : Int) := by omega
            have hle2 : (n : Int) ≤ (q : Int) := by omega
            by_cases hm0 : m = 0
            · obtain rfl := sl1 hm0
              subst hm0
              clear sl1 sl2 sl3
              (refine wp_region_calm (by kernel_rfl) (by kernel_rfl) ?_; (repeat (go_big_quiet_step ((first | (go_at_call 12; with_reducible refine Calls.calm (S1.out _)) | (go_at_call 12; with_reducible refine Calls.calm (S2.out _)) | (go_at_call 13; with_reducible refine Calls.calm (S3.out _)))))); refine wpQuiet_nil ?_; intro wq hq)
              go_wp2
              go_ret
              exact ⟨rfl, (hN0.trans hN5).trans hq⟩
            · have hm0i : ¬ (m : Int) = 0 := by omega
              have hmb : ((m : Int) == 0) = false := by simpa using hm0i
              have hmn : ((m : Int) != 0) = true := by simpa using hm0i
              have hmd : decide (¬ (m : Int) = 0) = true := by simpa using hm0i
              have hmq : decide ((m : Int) = 0) = false := by simpa using hm0i
              clear sl1 sl2 sl3
              (refine wp_region_calm (by kernel_rfl) (by kernel_rfl) ?_; (repeat (go_big_quiet_step ((first | (go_at_call 12; with_reducible refine Calls.calm (S1.out _)) | (go_at_call 12; with_reducible refine Calls.calm (S2.out _)) | (go_at_call 13; with_reducible refine Calls.calm (S3.out _)))))); refine wpQuiet_nil ?_; intro wq hq)
              go_wp2
              go_ret
              exact ⟨rfl, (hN0.trans hN5).trans hq⟩
          · have hne : ¬ (k : Int) = (k' : Int) := by omega
            rw [g1] at E1
            rw [g2] at E2
            clear g1 g2 hkk
            repeat' (first | (first
              | (have _m := hu3; (go_at_call 10; go_loud ((with_reducible refine (E2.out _).mono ?_); rintro e w4 ⟨rfl, hu4⟩; have hN4 := hN3.trans hu4; (obtain ⟨e40, e41, e42, e43⟩ := four_cells (R1.out.new hN4)); (obtain ⟨f40, f41, f42, f43⟩ := four_cells (R2.out.new hN4)); dsimp only)))
              | (go_at_call 10; go_loud ((with_reducible refine (E1.out _).mono ?_); rintro e w3 ⟨rfl, hu3⟩; have hN3 := hN.trans hu3; (obtain ⟨e0, e1, e2, e3⟩ := four_cells (R1.out.new hN3)); (obtain ⟨f0, f1, f2, f3⟩ := four_cells (R2.out.new hN3)); dsimp only))) | go_values | go_skip | go_guarded | go_step | go_upon | go_back)
            go_ret
            exact ⟨rfl, hN0.trans hN4⟩
        · rw [g1] at E1
          have g2i : (chk k' [a', b', c'] == 0) = false := by simpa using g2
          generalize chk k' [a', b', c'] = e2 at *
          clear g1
          repeat' (first | (first
            | (have _m := hu3; (go_at_call 10; go_loud ((with_reducible refine (E2.out _).mono ?_); rintro e w4 ⟨rfl, hu4⟩; have hN4 := hN3.trans hu4; dsimp only)))
            | (go_at_call 10; go_loud ((with_reducible refine (E1.out _).mono ?_); rintro e w3 ⟨rfl, hu3⟩; have hN3 := hN.trans hu3; (obtain ⟨e0, e1, e2, e3⟩ := four_cells (R1.out.new hN3)); (obtain ⟨f0, f1, f2, f3⟩ := four_cells (R2.out.new hN3)); dsimp only))) | go_values | go_skip | go_guarded | go_step | go_upon | go_back)
          go_ret
          exact ⟨rfl, hN0.trans hN4⟩
      · have g1i : (chk k [a, b, c] == 0) = false := by simpa using g1
        generalize chk k [a, b, c] = e1 at *
        repeat' (first | (first
          | (go_at_call 10; go_loud ((with_reducible refine (E1.out _).mono ?_); rintro e w3 ⟨rfl, hu3⟩; have hN3 := hN.trans hu3; dsimp only))) | go_values | go_skip | go_guarded | go_step | go_upon | go_back)
        go_ret
        exact ⟨rfl, hN0.trans hN3⟩
    · have hm := HX.out
      clear BC HM hm7 hm7' hm8 HX
      have b0 : bits .and .u8 0 1 = 0 := rfl
      have b1 : bits .and .u8 1 1 = 1 := rfl
      have b2 : bits .and .u8 2 1 = 0 := rfl
      have b3 : bits .and .u8 3 1 = 1 := rfl
      have b4 : bits .and .u8 4 1 = 0 := rfl
      have b5 : bits .and .u8 5 1 = 1 := rfl
      have b6 : bits .and .u8 6 1 = 0 := rfl
      have b7 : bits .and .u8 7 1 = 1 := rfl
      rcases h4 with rfl | rfl | rfl
      all_goals
        cases x <;> cases y <;> cases z
        all_goals
          simp only [Bool.not_true, Bool.not_false] at fx fy fz
          have nx := congrArg not fx
          have ny := congrArg not fy
          have nz := congrArg not fz
          simp only [Bool.not_true, Bool.not_false] at nx ny nz
          change (a != a') = _ at nx
          change (b != b') = _ at ny
          change (c != c') = _ at nz
          simp [chgTo] at hm
          subst hm
          go_wp2
          go_quiet (fail)
          go_wp2
          go_roundw
          case rel => first | exact ⟨1, by omega, rfl, hN.drewN _⟩ | exact ⟨2, by omega, rfl, hN.drewN _⟩ | exact ⟨3, by omega, rfl, hN.drewN _⟩
          case measure => simp [intOf]
end Go.Proofs.Ytpfdbkfjjjiamaa
