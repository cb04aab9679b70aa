/- The reference's Step of a component: walked. -/
import Derived.Test.YtpfdbkfjjjiamaaCmP4
import Derived.Test.YtpfdbkfjjjiamaaNm2
import Derived.StillTailTactics
namespace Go.Proofs.Ytpfdbkfjjjiamaa
open Go.RowKit
theorem bools_snoc (M : List Bool) (b : Bool) : bools M ++ [.bool b] = bools (M ++ [b]) := by simp [bools]
set_option maxRecDepth 20000 in
set_option maxHeartbeats 8000000 in
theorem refCmStep_any (k k' : Nat) (a b c a' b' c' : Int) (w : World) (hk : k < 256) (hk' : k' < 256) :
    Calls Try.prog 30 #[.agg #[.int .u8 k, .int .i32 a, .int .i32 b, .int .i32 c], .agg #[.int .u8 k', .int .i32 a', .int .i32 b', .int .i32 c']] w fun e w' => ∃ v', e = .returned (.tuple #[v', .int .i64 (pairE k [a, b, c] k' [a', b', c'])]) ∧ w'.ownsRow w.heap.size 4 1 v' (ownS k [a, b, c] k' [a', b', c']).length (bools (ownS k [a, b, c] k' [a', b', c'])) ∧ New w w' := by
  have C1 := Bx.mk (fun w => refCheck_any k a b c w hk)
  have C2 := Bx.mk (fun w => refCheck_any k' a' b' c' w hk')
  obtain ⟨hN0, r1, r2⟩ := two_boxes w k k' a b c a' b' c'
  have R1 := Bx.mk r1
  have R2 := Bx.mk r2
  clear r1 r2
  by_cases hg : pairE k [a, b, c] k' [a', b', c'] = 0
  · obtain ⟨g1, g2, rfl⟩ := pair_ok hg
    have HE := Bx.mk (show ownS k [a, b, c] k [a', b', c'] = bitsP (stepTo k [a, b, c] [a', b', c'] (flds k).length) from if_pos hg)
    obtain ⟨_, q1, _⟩ := chk_good k a b c g1
    obtain ⟨_, q2, _⟩ := chk_good k a' b' c' g2
    have hfl := flds_len k
    have HC := Bx.mk (fun w => refCount_any k w hk)
    have CB := Bx.mk (fun (i : Nat) (hi : i < (flds k).length) => And.intro (rng_bd k i hi) (And.intro (q1 i hi) (q2 i hi)))
    have CRg := Bx.mk (fun (i : Nat) w => refRange_any k (i : Int) w hk)
    have CI := Bx.mk (fun (i : Nat) (hi : i < (flds k).length) w => refIn_any ([a', b', c'].getD i 0) (rngLo k i) (rngHi k i) w (by have := q2 i hi; have := rng_bd k i hi; omega) (by have := q2 i hi; have := rng_bd k i hi; omega) (by have := rng_bd k i hi; omega) (by have := rng_bd k i hi; omega) (by have := rng_bd k i hi; omega) (by have := rng_bd k i hi; omega))
    have CZ := Bx.mk (fun (i : Nat) (hi : i < (flds k).length) w => refZig_any ([a', b', c'].getD i 0 - [a, b, c].getD i 0) w (by have := q1 i hi; have := q2 i hi; have := rng_bd k i hi; omega) (by have := q1 i hi; have := q2 i hi; have := rng_bd k i hi; omega))
    have CD := Bx.mk (fun (i : Nat) => dz_eq [a, b, c] [a', b', c'] i)
    have CF := Bx.mk (fun (i : Nat) (hi : i < (flds k).length) => show bitsP [fldP k [a', b', c'] i] = inL ([a', b', c'].getD i 0) (rngLo k i) (rngHi k i) by rw [bitsP_cons, inL_in _ _ _ (q2 i hi).1 (q2 i hi).2]; simp [bitsP, fldP])
    have CL := Bx.mk (fun (i : Nat) => show bitsP (stepTo k [a, b, c] [a', b', c'] (i + 1)) = bitsP (stepTo k [a, b, c] [a', b', c'] i) ++ bitsP (stepP k [a, b, c] [a', b', c'] i) by rw [stepTo_succ, bitsP_append])
    have CS := Bx.mk (fun (i : Nat) => show stepP k [a, b, c] [a', b', c'] i = if dz [a, b, c] [a', b', c'] i = 0 then [(0, 1)] else if dz [a, b, c] [a', b', c'] i ≤ 16 then [(1, 1), (1, 1), (dz [a, b, c] [a', b', c'] i - 1, 4)] else [(1, 1), (0, 1), fldP k [a', b', c'] i] from rfl)
    have C0 := Bx.mk (show bitsP (stepTo k [a, b, c] [a', b', c'] 0) = [] from rfl)
    have C6 := Bx.mk (fun (i : Nat) => show (bitsP (stepTo k [a, b, c] [a', b', c'] i)).length ≤ 200 * i by rw [bitsP_length]; have := psize_le9 (stepTo k [a, b, c] [a', b', c'] i) (stepTo_64 _ _ _ _); have := stepTo_le k [a, b, c] [a', b', c'] i; omega)
    have C7 := Bx.mk (fun (i : Nat) => inL_le ([a', b', c'].getD i 0) (rngLo k i) (rngHi k i))
    rw [HE.out]
    rw [hg] at ⊢
    rw [g1] at C1
    rw [g2] at C2
    generalize (flds k).length = n at *
    clear hg g1 g2 q1 q2 HE
    go_enter Try.func30, Try.ntmps30
    obtain ⟨c0, c1, c2, c3⟩ := four_cells R1.out
    obtain ⟨d0, d1, d2, d3⟩ := four_cells R2.out
    repeat' (first | (first
      | (have _m := hu1; (go_at_call 10; go_loud ((with_reducible refine (C2.out _).mono ?_); rintro e w2 ⟨rfl, hu2⟩; (obtain ⟨e0, e1, e2, e3⟩ := four_cells ((R1.out.new hu1).new hu2)); (obtain ⟨f0, f1, f2, f3⟩ := four_cells ((R2.out.new hu1).new hu2)); dsimp only)))
      | (go_at_call 10; go_loud ((with_reducible refine (C1.out _).mono ?_); rintro e w1 ⟨rfl, hu1⟩; (obtain ⟨e0, e1, e2, e3⟩ := four_cells (R1.out.new hu1)); (obtain ⟨f0, f1, f2, f3⟩ := four_cells (R2.out.new hu1)); dsimp only))
      | (go_at_call 11; go_loud ((with_reducible refine (HC.out _).mono ?_); rintro e w3 ⟨rfl, hu3⟩; dsimp only))) | go_values | go_skip | go_guarded | go_step | go_upon | go_back)
    have hN3 := ((hN0.trans hu1).trans hu2).trans hu3
    have S1 := Bx.mk (((R1.out.new hu1).new hu2).new hu3)
    have S2 := Bx.mk (((R2.out.new hu1).new hu2).new hu3)
    clear c0 c1 c2 c3 d0 d1 d2 d3 hu1 hu2 hu3 C1 C2 HC R1 R2
    try clear e0 e1 e2 e3 f0 f1 f2 f3
    go_loopw [8, 34] (fun s i wr => ∃ j : Nat, j ≤ n ∧ i = .int .i64 j ∧ wr.ownsRow w3.heap.size 4 1 s (bitsP (stepTo k [a, b, c] [a', b', c'] j)).length (bools (bitsP (stepTo k [a, b, c] [a', b', c'] j))) ∧ New w3 wr) (fun _ i _ => n - (intOf i).toNat)
    case atStart => exact ⟨0, Nat.zero_le _, rfl, by rw [C0.out]; exact World.ownsRow_nil _ _ _ _, Upd.refl _ _⟩
    case round =>
      obtain ⟨j, hj, rfl, ho, hNr⟩ := hrel
      have T2 := S2.out.new hNr
      have T1 := S1.out.new hNr
      have X2 := (four_cells T2).1
      by_cases hlt : j < n
      · have hji : (j : Int) < (n : Int) := by omega
        obtain ⟨hb, hb1, hb2⟩ := CB.out j hlt
        have hcl := CL.out j
        rw [CS.out j] at hcl
        have hcf := CF.out j hlt
        have hcd := CD.out j
        have h6 := C6.out j
        have h7 := C7.out j
        have hci := Bx.mk (CI.out j hlt)
        have hcr := Bx.mk (CRg.out j)
        have hcz := Bx.mk (CZ.out j hlt)
        have x1 := comp_cell3 T1 j (by omega)
        have x2 := comp_cell3 T2 j (by omega)
        have w1' : IntKind.i64.wrap ([a', b', c'].getD j 0) = [a', b', c'].getD j 0 := by rw [IntKind.wrap_i64]; omega
        have w2' : IntKind.i64.wrap (rngLo k j) = rngLo k j := by rw [IntKind.wrap_i64]; omega
        have w3' : IntKind.i64.wrap (rngHi k j) = rngHi k j := by rw [IntKind.wrap_i64]; omega
        have w4' : IntKind.i64.wrap ([a, b, c].getD j 0) = [a, b, c].getD j 0 := by rw [IntKind.wrap_i64]; omega
        have w5' : IntKind.i64.wrap ([a', b', c'].getD j 0 - [a, b, c].getD j 0) = [a', b', c'].getD j 0 - [a, b, c].getD j 0 := by rw [IntKind.wrap_i64]; omega
        generalize inL ([a', b', c'].getD j 0) (rngLo k j) (rngHi k j) = I at *
        generalize [a, b, c].getD j 0 = f at *
        generalize hf' : [a', b', c'].getD j 0 = f' at *
        have HF := Bx.mk hf'
        clear hf'
        generalize rngLo k (j : Int) = lo at *
        generalize rngHi k (j : Int) = hh at *
        generalize rngE k (j : Int) = re at *
        rw [← hcd] at hcz
        generalize dz [a, b, c] [a', b', c'] j = z at *
        have HCF := Bx.mk hcf
        have hzb : z ≤ 5000000 := by unfold zig at hcd; split at hcd <;> omega
        clear hb hb1 hb2 hcf hcd
        generalize bitsP (stepTo k [a, b, c] [a', b', c'] j) = M at *
        obtain ⟨m, hm⟩ : ∃ m, M.length = m := ⟨_, rfl⟩
        obtain ⟨p, hp⟩ : ∃ p, I.length = p := ⟨_, rfl⟩
        rw [hm] at ho h6
        rw [hp] at hci h7
        have HM := Bx.mk hm
        have HP := Bx.mk hp
        have hj3 : (j : Int) < 3 := by omega
        have X1 := Bx.mk T2
        clear hm hp T1 T2
        have hm6 : m ≤ 600 := by omega
        by_cases hz0 : z = 0
        · subst hz0
          have BT := Bx.mk (show bitsP (stepTo k [a, b, c] [a', b', c'] (j + 1)) = M ++ [false] by rw [hcl, if_pos rfl]; rfl)
          clear hcl
          repeat' (first | fail | go_values | go_skip | go_guarded | go_step | go_upon | go_back)
          refine wp_region_still_lit (by kernel_rfl) (by kernel_rfl) ?_
          repeat still_step
          still_call (hcz.out _)
          repeat still_step
          refine wpStill_nil ?_
          change Exit.then _ _ _ _ wr.drew
          have ho1 := (own_new ho ((Upd.refl Nowhere wr).drew)).alloc (.cells #[.bool false] 4)
          have hs1 := (Src.ofSlice (P := Try.prog) (size := 1) _ Try.underlying34 _ 1 1 _ rfl (cells_new wr.drew [.bool false] 4) (by intro u hu; simp at hu; rcases hu with rfl; rfl))
          have hNd : New w3 (wr.drew.alloc (.cells #[.bool false] 4)) := (hNr.drew).alloc _
          generalize wr.drew = wd at *
          repeat' (first | (at_builtin; go_loud (refine wpList_appN _ rfl _ _ 34 34 rfl _ 4 (.bool false) 1 1 Try.underlying34 infob rfl _ _ _ ho1 rfl _ _ _ hs1 rfl _ hNd ?c1 ?c2 ?_; (case c1 => unfold maxLen; omega); (case c2 => omega); intro v5 w5 ho5 hu5 hk5 hv5)) | go_values | go_skip | go_guarded | go_step | go_upon | go_back)
          go_roundw
          case rel => exact ⟨j + 1, by omega, by go_num, by rw [BT.out, List.length_append, HM.out, ← bools_snoc]; exact ho5, hu5⟩
          case measure => simp [intOf]; omega
        · have hz0i : ¬ (z : Int) = 0 := by omega
          have hzp : (0 : Int) < (z : Int) := by omega
          have hzN' : 0 < z := by omega
          have hzNB := Bx.mk hzN'
          clear hzN'
          rw [if_neg hz0] at hcl
          by_cases hz16 : z ≤ 16
          · rw [if_pos hz16] at hcl
            obtain ⟨y, hy⟩ : ∃ y, z = y + 1 := ⟨z - 1, by omega⟩
            have BT := Bx.mk (show bitsP (stepTo k [a, b, c] [a', b', c'] (j + 1)) = ((M ++ [true]) ++ [true]) ++ Bi.numBits y 4 by rw [hcl, bitsP_cons, bitsP_cons, bitsP_cons, show z - 1 = y by omega]; simp [bitsP]; rfl)
            have hzi : (z : Int) ≤ 16 := by omega
            have hz16N := Bx.mk hz16
            have wy : IntKind.u64.wrap ((z : Int) - 1) = (y : Int) := by rw [IntKind.wrap_u64]; omega
            have HPE := Bx.mk (show Bi.putErr ((M ++ [true]) ++ [true]) y 4 = 0 from numErr ((M ++ [true]) ++ [true]) y 4 (by decide) (by omega) (by simp; have := HM.out; omega))
            have HPR := Bx.mk (show Bi.putRes ((M ++ [true]) ++ [true]) y 4 = ((M ++ [true]) ++ [true]) ++ Bi.numBits y 4 from numRes ((M ++ [true]) ++ [true]) y 4 (by decide) (by omega) (by simp; have := HM.out; omega))
            have HPL := Bx.mk (show ((M ++ [true]) ++ [true]).length = m + 1 + 1 by simp; have := HM.out; omega)
            have CP := Bx.mk (show ∀ (u : Value) (wu : World), wu.ownsRow w3.heap.size 4 1 u (m + 1 + 1) (bools ((M ++ [true]) ++ [true])) → w3.heap.size ≤ wu.heap.size → Calls Try.prog 46 #[u, .int .u64 y, .int .i64 4] wu fun e w' => ∃ v', e = .returned (.tuple #[v', .int .i64 0]) ∧ w'.ownsRow w3.heap.size 4 1 v' (((M ++ [true]) ++ [true]) ++ Bi.numBits y 4).length (bools (((M ++ [true]) ++ [true]) ++ Bi.numBits y 4)) ∧ New wu w' from fun u wu hou hsz => by
              have h := refPut_w u ((M ++ [true]) ++ [true]) (m + 1 + 1) y 4 wu (by omega) (by omega) (by omega) HPL.out (by omega) (own_lower hou (Nat.zero_le _))
              rw [HPE.out, HPR.out] at h
              exact h.mono fun e w' ⟨v', h1, h2, h3, h4⟩ => ⟨v', h1, own_raise h2 (fun b hb => (h4 b hb).elim (fun q => own_ge hou b q) (fun q => Nat.le_trans hsz q)), h3⟩)
            clear hcl hz0 hz16 hy hzb
            repeat' (first | fail | go_values | go_skip | go_guarded | go_step | go_upon | go_back)
            refine wp_region_still_lit (by kernel_rfl) (by kernel_rfl) ?_
            repeat still_step
            still_call (hcz.out _)
            repeat still_step
            refine wpStill_nil ?_
            change Exit.then _ _ _ _ wr.drew
            have ho1 := (own_new ho ((Upd.refl Nowhere wr).drew)).alloc (.cells #[.bool (decide (0 < z))] 4)
            have hs1 := (Src.ofSlice (P := Try.prog) (size := 1) _ Try.underlying34 _ 1 1 _ rfl (cells_new wr.drew [.bool (decide (0 < z))] 4) (by intro u hu; simp at hu; rcases hu with rfl; rfl))
            have hNd : New w3 (wr.drew.alloc (.cells #[.bool (decide (0 < z))] 4)) := (hNr.drew).alloc _
            generalize wr.drew = wd at *
            repeat' (first | (first
              | (have _m := ho6; (go_at_call 46; go_loud ((with_reducible refine (CP.out _ _ ho6 hu6.size).mono ?_); rintro e w7 ⟨v7, rfl, ho8, hu7⟩; dsimp only)))
              | (have _m := ho5; (at_builtin; go_loud (refine wpList_appN _ rfl _ _ 34 34 rfl _ 4 (.bool false) 1 1 Try.underlying34 infob rfl _ _ _ ho2 rfl _ _ _ hs2 rfl _ hN2 ?c1 ?c2 ?_; (case c1 => unfold maxLen; omega); (case c2 => omega); intro v6 w6 ho6 hu6 hk6 hv6)); rw [bools_snoc] at ho6)
              | ((at_builtin; go_loud (refine wpList_appN _ rfl _ _ 34 34 rfl _ 4 (.bool false) 1 1 Try.underlying34 infob rfl _ _ _ ho1 rfl _ _ _ hs1 rfl _ hNd ?c1 ?c2 ?_; (case c1 => unfold maxLen; omega); (case c2 => omega); intro v5 w5 ho5 hu5 hk5 hv5)); rw [show decide (0 < z) = true from decide_eq_true hzNB.out, bools_snoc] at ho5; have ho2 := ho5.alloc (.cells #[.bool true] 4); have hs2 := (Src.ofSlice (P := Try.prog) (size := 1) _ Try.underlying34 _ 1 1 _ rfl (cells_new w5 [.bool true] 4) (by intro u hu; simp at hu; rcases hu with rfl; rfl)); have hN2 := hu5.alloc (.cells #[.bool true] 4))) | go_values | go_skip | go_guarded | go_step | go_upon | go_back)
            go_roundw
            case rel => exact ⟨j + 1, by omega, by go_num, by rw [BT.out]; exact ho8, hu6.trans hu7⟩
            case measure => simp [intOf]; omega
          · rw [if_neg hz16] at hcl
            have BT := Bx.mk (show bitsP (stepTo k [a, b, c] [a', b', c'] (j + 1)) = ((M ++ [true]) ++ [false]) ++ I by rw [hcl, bitsP_cons, bitsP_cons, HCF.out]; simp; rfl)
            have hzi : ¬ (z : Int) ≤ 16 := by omega
            have hz16N := Bx.mk hz16
            clear hcl hz0 hz16 hzb
            repeat' (first | fail | go_values | go_skip | go_guarded | go_step | go_upon | go_back)
            refine wp_region_still_lit (by kernel_rfl) (by kernel_rfl) ?_
            repeat still_step
            still_call (hcz.out _)
            repeat still_step
            refine wpStill_nil ?_
            change Exit.then _ _ _ _ wr.drew
            have ho1 := (own_new ho ((Upd.refl Nowhere wr).drew)).alloc (.cells #[.bool (decide (0 < z))] 4)
            have hs1 := (Src.ofSlice (P := Try.prog) (size := 1) _ Try.underlying34 _ 1 1 _ rfl (cells_new wr.drew [.bool (decide (0 < z))] 4) (by intro u hu; simp at hu; rcases hu with rfl; rfl))
            have hNd : New w3 (wr.drew.alloc (.cells #[.bool (decide (0 < z))] 4)) := (hNr.drew).alloc _
            have hDr : New w3 wr.drew := hNr.drew
            generalize wr.drew = wd at *
            repeat' (first | (first
              | (have _m := hu10; (at_builtin; go_loud (refine wpList_appN _ rfl _ _ 34 34 rfl _ 4 (.bool false) 1 1 Try.underlying34 infob rfl _ _ _ ho10 rfl _ _ _ hs10 rfl _ hN10 ?c1 ?c2 ?_; (case c1 => unfold maxLen; omega); (case c2 => omega); intro v11 w11 ho11 hu11 hk11 hv11)))
              | (go_at_call 47; go_loud ((with_reducible refine (hci.out _).mono ?_); rintro e w10 ⟨vx, rfl, hox, hu10⟩; have hN10 := (hu6.trans hu9).trans hu10; have ho10 := own_new (own_new ho6 hu9) hu10; have hs10 := own_src (P := Try.prog) (tx := 34) Try.underlying34 hox (bools_one I); dsimp only))
              | (go_at_call 32; go_loud ((with_reducible refine (hcr.out _).mono ?_); rintro e w9 ⟨rfl, hu9⟩; (have y9 := comp_cell3 (S2.out.new (hu6.trans hu9)) j (by omega)); rw [HF.out] at y9; dsimp only))
              | (have _m := ho5; (at_builtin; go_loud (refine wpList_appN _ rfl _ _ 34 34 rfl _ 4 (.bool false) 1 1 Try.underlying34 infob rfl _ _ _ ho2 rfl _ _ _ hs2 rfl _ hN2 ?c1 ?c2 ?_; (case c1 => unfold maxLen; omega); (case c2 => omega); intro v6 w6 ho6 hu6 hk6 hv6)); rw [bools_snoc] at ho6; have y8 := (four_cells (S2.out.new hu6)).1)
              | ((at_builtin; go_loud (refine wpList_appN _ rfl _ _ 34 34 rfl _ 4 (.bool false) 1 1 Try.underlying34 infob rfl _ _ _ ho1 rfl _ _ _ hs1 rfl _ hNd ?c1 ?c2 ?_; (case c1 => unfold maxLen; omega); (case c2 => omega); intro v5 w5 ho5 hu5 hk5 hv5)); rw [show decide (0 < z) = true from decide_eq_true hzNB.out, bools_snoc] at ho5; have ho2 := ho5.alloc (.cells #[.bool false] 4); have hs2 := (Src.ofSlice (P := Try.prog) (size := 1) _ Try.underlying34 _ 1 1 _ rfl (cells_new w5 [.bool false] 4) (by intro u hu; simp at hu; rcases hu with rfl; rfl)); have hN2 := hu5.alloc (.cells #[.bool false] 4))) | go_values | go_skip | go_guarded | go_step | go_upon | go_back)
            go_roundw
            case rel => exact ⟨j + 1, by omega, by go_num, by rw [BT.out, List.length_append, HP.out, bools_append, List.length_append, List.length_append, HM.out]; exact ho11, hu11⟩
            case measure => simp [intOf]; omega
      · obtain rfl : j = n := by omega
        repeat' (first | fail | go_values | go_skip | go_guarded | go_step | go_upon | go_back)
        go_returns
        exact ⟨_, rfl, own_lower ho hN3.size, hN3.trans hNr⟩
  · have HE := Bx.mk (show ownS k [a, b, c] k' [a', b', c'] = [] from if_neg hg)
    rw [HE.out]
    clear HE
    by_cases g1 : chk k [a, b, c] = 0
    · by_cases g2 : chk k' [a', b', c'] = 0
      · have hkk : k ≠ k' := fun q => hg (by rw [pairE, if_neg (by simp [g1]), if_neg (by simp [g2]), if_pos q])
        have HR := Bx.mk (show pairE k [a, b, c] k' [a', b', c'] = 4 by rw [pairE, if_neg (by simp [g1]), if_neg (by simp [g2]), if_neg hkk])
        rw [HR.out]
        rw [g1] at C1
        rw [g2] at C2
        have hki : ¬ (k : Int) = (k' : Int) := by omega
        clear hg g1 g2 hkk
        go_enter Try.func30, Try.ntmps30
        obtain ⟨c0, c1, c2, c3⟩ := four_cells R1.out
        obtain ⟨d0, d1, d2, d3⟩ := four_cells R2.out
        repeat' (first | (first
          | (have _m := hu1; (go_at_call 10; go_loud ((with_reducible refine (C2.out _).mono ?_); rintro e w2 ⟨rfl, hu2⟩; (obtain ⟨e0, e1, e2, e3⟩ := four_cells ((R1.out.new hu1).new hu2)); (obtain ⟨f0, f1, f2, f3⟩ := four_cells ((R2.out.new hu1).new hu2)); dsimp only)))
          | (go_at_call 10; go_loud ((with_reducible refine (C1.out _).mono ?_); rintro e w1 ⟨rfl, hu1⟩; (obtain ⟨e0, e1, e2, e3⟩ := four_cells (R1.out.new hu1)); (obtain ⟨f0, f1, f2, f3⟩ := four_cells (R2.out.new hu1)); dsimp only))) | go_values | go_skip | go_guarded | go_step | go_upon | go_back)
        go_returns
        exact ⟨_, rfl, World.ownsRow_nil _ _ _ _, (hN0.trans hu1).trans hu2⟩
      · have HR := Bx.mk (show pairE k [a, b, c] k' [a', b', c'] = chk k' [a', b', c'] by rw [pairE, if_neg (by simp [g1]), if_pos g2])
        rw [HR.out]
        have g2i : (chk k' [a', b', c'] == 0) = false := by simpa using g2
        rw [g1] at C1
        generalize chk k' [a', b', c'] = E2 at *
        clear hg g1 HR
        go_enter Try.func30, Try.ntmps30
        obtain ⟨c0, c1, c2, c3⟩ := four_cells R1.out
        obtain ⟨d0, d1, d2, d3⟩ := four_cells R2.out
        repeat' (first | (first
          | (have _m := hu1; (go_at_call 10; go_loud ((with_reducible refine (C2.out _).mono ?_); rintro e w2 ⟨rfl, hu2⟩; dsimp only)))
          | (go_at_call 10; go_loud ((with_reducible refine (C1.out _).mono ?_); rintro e w1 ⟨rfl, hu1⟩; (obtain ⟨e0, e1, e2, e3⟩ := four_cells (R1.out.new hu1)); (obtain ⟨f0, f1, f2, f3⟩ := four_cells (R2.out.new hu1)); dsimp only))) | go_values | go_skip | go_guarded | go_step | go_upon | go_back)
        go_returns
        exact ⟨_, rfl, World.ownsRow_nil _ _ _ _, (hN0.trans hu1).trans hu2⟩
    · have HR := Bx.mk (show pairE k [a, b, c] k' [a', b', c'] = chk k [a, b, c] by rw [pairE, if_pos g1])
      rw [HR.out]
      have g1i : (chk k [a, b, c] == 0) = false := by simpa using g1
      generalize chk k [a, b, c] = E1 at *
      clear hg HR
      go_enter Try.func30, Try.ntmps30
      obtain ⟨c0, c1, c2, c3⟩ := four_cells R1.out
      repeat' (first | (first
        | (go_at_call 10; go_loud ((with_reducible refine (C1.out _).mono ?_); rintro e w1 ⟨rfl, hu1⟩; dsimp only))) | go_values | go_skip | go_guarded | go_step | go_upon | go_back)
      go_returns
      exact ⟨_, rfl, World.ownsRow_nil _ _ _ _, hN0.trans hu1⟩
end Go.Proofs.Ytpfdbkfjjjiamaa
