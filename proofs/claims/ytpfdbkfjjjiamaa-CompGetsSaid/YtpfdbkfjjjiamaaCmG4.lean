/- The reference's Get of a component: walked. -/
import Derived.Test.YtpfdbkfjjjiamaaCmG3
namespace Go.Proofs.Ytpfdbkfjjjiamaa
open Go.RowKit
theorem rd_ne_comp {w : World} {A : Option Addr} {R : List Bool} {C : Nat} {k a b c : Int} {T : Nat} {fz : Nat × Nat} (h : Rd w A (bools R)) (hC : w.heap[C]? = some (.cells #[.int .u8 k, .int .i32 a, .int .i32 b, .int .i32 c] T fz)) : ∀ x, A = some x → bools R ≠ [] → x.block ≠ C := by
  intro x hx hne e
  rcases h with h | ⟨b', off, hA, hc⟩
  · exact hne h
  · obtain rfl := Option.some.inj (hx.symm.trans hA)
    cases R with
    | nil => exact hne rfl
    | cons y ys =>
      have h0 := hc 0 (.bool y) rfl
      have e' : b' = C := e
      rw [Nat.add_zero, World.cell?, e', hC] at h0
      match off, h0 with
      | 0, h0 => simp at h0
      | 1, h0 => simp at h0
      | 2, h0 => simp at h0
      | 3, h0 => simp at h0
      | n + 4, h0 => simp at h0
theorem giRest_len (R : List Bool) (lo hi : Int) : (giRest R lo hi).length ≤ R.length := by
  unfold giRest Bi.getRest
  split
  · split
    · rw [List.length_drop]; omega
    · exact Nat.le_refl _
  · exact Nat.le_refl _
set_option maxRecDepth 20000 in
set_option maxHeartbeats 8000000 in
theorem refCmGet_any (A : Option Addr) (nl c : Nat) (R : List Bool) (k : Nat) (w : World) (hl : R.length = nl) (hm : nl ≤ 100000000) (hA : RestAt R A c w) (hk : k < 256) :
    Calls Try.prog 17 #[.slice A nl c, .int .u8 k] w fun e w' => ∃ A' c', e = .returned (.tuple #[compV (gK k R) (gF k R), .slice A' (gR k R).length c', .int .i64 (gE k R)]) ∧ New w w' := by
  have HC := Bx.mk (fun w => refCount_any k w hk)
  have HL := Bx.mk hl
  have HA := Bx.mk hA
  have hz0 : New w (w.alloc (.cells #[.int .u8 0, .int .i32 0, .int .i32 0, .int .i32 0] 24)) := (Upd.refl _ w).alloc _
  have HZ0 := Bx.mk hz0
  have HZ1 := Bx.mk (heap_alloc_new w (.cells #[.int .u8 0, .int .i32 0, .int .i32 0, .int .i32 0] 24))
  clear hA hz0
  by_cases hn : (flds k).length = 0
  · have e1 : gE k R = 1 := if_pos hn
    have e2 : gK k R = 0 := if_pos hn
    have e3 : gF k R = [0, 0, 0] := if_pos hn
    have e4 : gR k R = R := if_pos hn
    rw [hn] at HC
    rw [e1, e2, e3, e4, hl]
    clear e1 e2 e3 e4 hm hl
    go_enter Try.func17, Try.ntmps17
    repeat' (first | (go_at_call 11; go_loud ((with_reducible refine (HC.out _).mono ?_); rintro e w1 ⟨rfl, hu1⟩; have q1 := hu1.blk HZ1.out (fun q => q); (obtain ⟨t0, t1, t2, t3⟩ := four_cells (rd_of_blkG (cs := [.int .u8 0, .int .i32 0, .int .i32 0, .int .i32 0]) q1)); have tf := frz_of_blkG q1; clear q1; dsimp only)) | go_values | go_skip | go_guarded | go_step | go_upon | go_back)
    have q1 := hu1.blk HZ1.out (fun q => q)
    refine bodyPost_ret (compRes3 Try.results17 _ _ w.heap.size _ (0, 0) rfl (set4 q1 _ _ _ _) rfl) rfl ?_
    exact ⟨A, c, rfl, new4 (HZ0.out.trans hu1) (Nat.le_refl _) _ _ _ _⟩
  · have e1 : gE k R = (gRes k R).1 := if_neg hn
    have e2 : gK k R = cgK k (gRes k R) := if_neg hn
    have e3 : gF k R = cgF (gRes k R) := if_neg hn
    have e4 : gR k R = cgR R (gRes k R) := if_neg hn
    rw [e1, e2, e3, e4]
    have hfl := flds_len k
    have CRg := Bx.mk (fun (i : Nat) w => refRange_any k (i : Int) w hk)
    have CRb := Bx.mk (fun (i : Nat) (hi : i < (flds k).length) => rng_bd k i hi)
    have CRl := Bx.mk (fun (i : Nat) (hi : i < (flds k).length) => rng_le k i hi)
    obtain ⟨n, hnn⟩ : ∃ n, (flds k).length = n := ⟨_, rfl⟩
    obtain ⟨RES, hres⟩ : ∃ RES, gRes k R = RES := ⟨_, rfl⟩
    have HRES := Bx.mk (show cgRun (cgE k) (cgV k) (cgS k) n 0 [0, 0, 0] R = RES by rw [← hnn]; exact hres)
    rw [hres]
    rw [hnn] at HC CRb CRl hfl hn
    have hnb : (n : Int) ≠ 0 := by omega
    have hnb2 : ((n : Int) == 0) = false := by simpa using hnb
    have HN0 := Bx.mk hn
    clear e1 e2 e3 e4 hnn hres hn hl
    go_enter Try.func17, Try.ntmps17
    repeat' (first | (first
      | (have _m := hu1; (go_at_call 11; go_loud ((with_reducible refine (HC.out _).mono ?_); rintro e w2 ⟨rfl, hu2⟩; dsimp only)))
      | (go_at_call 11; go_loud ((with_reducible refine (HC.out _).mono ?_); rintro e w1 ⟨rfl, hu1⟩; dsimp only))) | go_values | go_skip | go_guarded | go_step | go_upon | go_back)
    obtain ⟨C, hC⟩ : ∃ C, w1.heap.size = C := ⟨_, rfl⟩
    have HCC := Bx.mk hC
    have hBC : w.heap.size < C := by
      have h1 := hu1.size
      simp at h1
      omega
    have hal := (Upd.refl Nowhere w1).alloc (.cells #[.int .u8 k, .int .i32 0, .int .i32 0, .int .i32 0] 24)
    have O1 := Bx.mk (hu2.blk (alloc_at hC (.cells #[.int .u8 k, .int .i32 0, .int .i32 0, .int .i32 0] 24)) (fun q => q))
    have O2 := Bx.mk (hu2.blk (hal.blk (hu1.blk HZ1.out (fun q => q)) (fun q => q)) (fun q => q))
    have hN2 := ((HZ0.out.trans hu1).trans hal).trans hu2
    have HA2 := Bx.mk (HA.out.upd hN2)
    rw [hC]
    clear hal hu1 hu2 hC
    have hCB : C ≠ w.heap.size := by omega
    generalize hB : w.heap.size = B at *
    have HSB := Bx.mk hB
    have HBC := Bx.mk hBC
    have HCB := Bx.mk hCB
    clear hB hBC hCB
    go_loopw [8, 26] (fun s i wr => ∃ (j : Nat) (F0 F1 F2 : Int) (A' : Option Addr) (c' : Nat) (R' : List Bool) (m : Nat), j ≤ n ∧ i = .int .i64 j ∧ s = .slice A' m c' ∧ Bx (R'.length = m) ∧ m ≤ nl ∧ Bx (RestAt R' A' c' wr) ∧ Bx (cgRun (cgE k) (cgV k) (cgS k) (n - j) j [F0, F1, F2] R' = RES) ∧
        Bx (wr.heap[C]? = some (.cells #[.int .u8 k, .int .i32 F0, .int .i32 F1, .int .i32 F2] 24 (0, 0))) ∧ Bx (wr.heap[B]? = some (.cells #[.int .u8 0, .int .i32 0, .int .i32 0, .int .i32 0] 24 (0, 0))) ∧ New w wr) (fun _ i _ => n - (intOf i).toNat)
    case atStart => exact ⟨0, 0, 0, 0, A, c, R, nl, Nat.zero_le _, rfl, rfl, HL, Nat.le_refl _, HA2, HRES, O1, O2, hN2⟩
    case round =>
      clear O1 O2 hN2 HA2
      obtain ⟨j, F0, F1, F2, A', c', R', m, hj, rfl, rfl, HM, hmn, hRA, HQ, O1, O2, hN⟩ := hrel
      by_cases hlt : j < n
      · have hji : (j : Int) < (n : Int) := by omega
        have hQ := HQ.out
        rw [show n - j = (n - (j + 1)) + 1 by omega, cgRun_succ] at hQ
        have hb := CRb.out j hlt
        have hvb := giV_bd R' (rngLo k j) (rngHi k j) (CRl.out j hlt) (by omega) (by omega)
        have hgl := giRest_len R' (rngLo k j) (rngHi k j)
        rw [HM.out] at hgl
        have CI := Bx.mk (fun {w' : World} (hu : New wr w') => refGetIn_f A' m c' R' (rngLo k j) (rngHi k j) w' HM.out (by omega) (hRA.out.upd hu) (by omega) (by omega) (by omega) (by omega))
        have CR := Bx.mk (CRg.out j)
        unfold cgE cgV cgS at hQ
        have w1' : IntKind.i64.wrap (rngLo k j) = rngLo k j := by rw [IntKind.wrap_i64]; omega
        have w2' : IntKind.i64.wrap (rngHi k j) = rngHi k j := by rw [IntKind.wrap_i64]; omega
        have w3' : IntKind.i32.wrap (giV R' (rngLo k j) (rngHi k j)) = giV R' (rngLo k j) (rngHi k j) := by rw [IntKind.wrap_i32]; omega
        generalize giV R' (rngLo k j) (rngHi k j) = V at *
        generalize giE R' (rngLo k j) (rngHi k j) = E at *
        generalize giRest R' (rngLo k j) (rngHi k j) = R2 at *
        generalize rngLo k (j : Int) = lo at *
        generalize rngHi k (j : Int) = hh at *
        generalize rngE k (j : Int) = re at *
        obtain ⟨m2, hm2⟩ : ∃ m2, R2.length = m2 := ⟨_, rfl⟩
        rw [hm2] at CI hgl
        have HM2 := Bx.mk hm2
        have HQ2 := Bx.mk hQ
        clear hb hvb hQ HQ hm2
        by_cases hE0 : E = 0
        · subst hE0
          have HQ3 := Bx.mk (HQ2.out.symm.trans (if_pos rfl))
          obtain ⟨J, hJ⟩ : ∃ J : Int, (j : Int) = J := ⟨_, rfl⟩
          rw [hJ] at CR
          have hj3 : j = 0 ∨ j = 1 ∨ j = 2 := by omega
          rcases hj3 with rfl | rfl | rfl
          all_goals
            first
              | ((have eJ : J = 0 := (by omega)); subst eJ)
              | ((have eJ : J = 1 := (by omega)); subst eJ)
              | ((have eJ : J = 2 := (by omega)); subst eJ)
            clear hJ
            repeat' (first | (first
              | (go_at_call 32; go_loud ((with_reducible refine (CR.out _).mono ?_); rintro e w3 ⟨rfl, hu3⟩; dsimp only))
              | (go_at_call 39; go_loud ((with_reducible refine (CI.out hu3).mono ?_); rintro e w4 ⟨A4, c4, rfl, hr4, hu4⟩; have hN4 := (hN.trans hu3).trans hu4; have q1 := Bx.mk ((hu3.trans hu4).blk O1.out (fun q => q)); have q2 := Bx.mk ((hu3.trans hu4).blk O2.out (fun q => q)); (obtain ⟨y0, y1, y2, y3⟩ := four_cells (rd_of_blkG (cs := [.int .u8 k, .int .i32 F0, .int .i32 F1, .int .i32 F2]) q1.out)); have qf := frz_of_blkG q1.out; dsimp only))) | go_values | go_skip | go_guarded | go_step | go_upon | go_back)
            go_roundw
            case rel =>
              refine ⟨_, _, _, _, A4, c4, R2, m2, ?_, ?_, rfl, HM2, ?_, ⟨⟨hr4.1, hr4.2.1, hr4.2.2.1, hr4.2.2.2.upd (Upd.set1 w4 _ _) (fun a ha hne q => ?_)⟩⟩, ⟨HQ3.out.symm⟩, ⟨heap_setCell_same w4 C _ _ _ _ q1.out⟩, ⟨(Upd.set1 w4 _ _).blk q2.out (fun q => HCB.out (show B = C from q).symm)⟩, hN4.setCell (.inr (by rw [HSB.out]; exact Nat.le_of_lt HBC.out)) _⟩
              · omega
              · go_num
              · omega
              · exact rd_ne_comp hr4.2.2.2 q1.out a ha hne q
            case measure => simp [intOf]; omega
        · have HQ3 := Bx.mk (HQ2.out.symm.trans (if_neg hE0))
          have hEb : (E == 0) = false := by simpa using hE0
          obtain ⟨hK, hF, hRr, hE1⟩ : cgK k RES = 0 ∧ cgF RES = [0, 0, 0] ∧ cgR R RES = R ∧ RES.1 = E := by
            rw [HQ3.out]; exact ⟨if_neg hE0, if_neg hE0, if_neg hE0, rfl⟩
          repeat' (first | (first
            | (go_at_call 32; go_loud ((with_reducible refine (CR.out _).mono ?_); rintro e w3 ⟨rfl, hu3⟩; dsimp only))
            | (go_at_call 39; go_loud ((with_reducible refine (CI.out hu3).mono ?_); rintro e w4 ⟨A4, c4, rfl, hr4, hu4⟩; have hN4 := (hN.trans hu3).trans hu4; have q2 := (hu3.trans hu4).blk O2.out (fun q => q); (obtain ⟨y0, y1, y2, y3⟩ := four_cells (rd_of_blkG (cs := [.int .u8 0, .int .i32 0, .int .i32 0, .int .i32 0]) q2)); have qf := frz_of_blkG q2; have Q2 := Bx.mk q2; clear q2; dsimp only))) | go_values | go_skip | go_guarded | go_step | go_upon | go_back)
          refine bodyPost_ret (compRes3 Try.results17 _ _ B _ (0, 0) rfl (set4 Q2.out _ _ _ _) rfl) rfl ?_
          exact ⟨A, c, by rw [hK, hF, hRr, hE1, HL.out]; rfl, new4 hN4 (by rw [HSB.out]; exact Nat.le_refl _) _ _ _ _⟩
      · obtain rfl : j = n := by omega
        have hQ := HQ.out
        rw [show j - j = 0 by omega] at hQ
        obtain ⟨hK, hF, hRr, hE1⟩ : cgK k RES = k ∧ cgF RES = [F0, F1, F2] ∧ cgR R RES = R' ∧ RES.1 = 0 := by
          rw [← hQ]; exact ⟨rfl, rfl, rfl, rfl⟩
        obtain ⟨y0, y1, y2, y3⟩ := four_cells (rd_of_blkG (cs := [.int .u8 0, .int .i32 0, .int .i32 0, .int .i32 0]) O2.out)
        have qf := frz_of_blkG O2.out
        obtain ⟨z0, z1, z2, z3⟩ := four_cells (rd_of_blkG (cs := [.int .u8 k, .int .i32 F0, .int .i32 F1, .int .i32 F2]) O1.out)
        clear hQ HQ
        repeat' (first | fail | go_values | go_skip | go_guarded | go_step | go_upon | go_back)
        refine bodyPost_ret (compRes3 Try.results17 _ _ B _ (0, 0) rfl (set4 O2.out _ _ _ _) rfl) rfl ?_
        exact ⟨A', c', by rw [hK, hF, hRr, hE1, HM.out]; rfl, new4 hN (by rw [HSB.out]; exact Nat.le_refl _) _ _ _ _⟩
end Go.Proofs.Ytpfdbkfjjjiamaa
