/- back, over the closure of comp.Get$1: walked. -/
import Derived.Test.YtpfdbkfjjjiamaaCmPure
import Derived.Test.YtpfdbkfjjjiamaaCmL2
namespace Go.Proofs.Ytpfdbkfjjjiamaa
open Go.RowKit
theorem rd_of_blkG {w : World} {B : Nat} {cs : List Value} {T : Nat} {fz : Nat × Nat} (h : w.heap[B]? = some (.cells cs.toArray T fz)) : Rd w (some ⟨B, 0, none⟩) cs :=
  .inr ⟨B, 0, rfl, fun i u hi => by rw [World.cell?, h]; simpa using hi⟩
theorem frz_of_blkG {w : World} {B : Nat} {cs : Array Value} {T : Nat} (h : w.heap[B]? = some (.cells cs T (0, 0))) : ∀ o, w.frozen? ⟨B, o, none⟩ = false := fun o => by simp [World.frozen?, h]
theorem and_twoG {w : World} {B : Nat} {a b : Value} {T : Nat} {fz : Nat × Nat} (h : w.heap[B]? = some (.cells #[a, b] T fz)) : w.cell? ⟨B, 0, none⟩ = some a ∧ w.cell? ⟨B, 1, none⟩ = some b := ⟨by rw [World.cell?, h]; rfl, by rw [World.cell?, h]; rfl⟩
set_option maxRecDepth 20000 in
set_option maxHeartbeats 8000000 in
theorem backG {w : World} {g a : Nat} {v : Value} {P : List (BitVec 8)} (h : IsR w g v P a) (R : List Bool) (hR : (Bi.bitsOf P).drop a = R) (ha : a ≤ 8 * P.length) (B1 B2 : Nat) (k : Nat) (hk : k < 256) (f0 f1 f2 : Int) (sE sV : Nat → List Bool → Int) (sR : Nat → List Bool → List Bool)
    (hone : ∀ (w' : World) (a' : Nat) (R' : List Bool) (i : Nat), Upd (fun b => b = g) w w' → IsR w' g v P a' → (Bi.bitsOf P).drop a' = R' → a' ≤ 8 * P.length → i < (flds k).length →
      Calls Try.prog 42 #[.int .i64 i, .pointer (some ⟨B1, 0, none⟩), .pointer (some ⟨B2, 0, none⟩)] w' fun e w'' => e = .returned (.tuple #[.int .i32 (sV i R'), .int .i64 (sE i R')]) ∧ ∃ a'', IsR w'' g v P a'' ∧ (sE i R' = 0 → (Bi.bitsOf P).drop a'' = sR i R') ∧ a'' ≤ 8 * P.length ∧ Upd (fun b => b = g) w' w'') :
    Calls Try.prog 41 #[.pointer (some ⟨g, 0, none⟩), .agg #[.int .u8 k, .int .i32 f0, .int .i32 f1, .int .i32 f2], .func (Fn.func 42) #[] #[.pointer (some ⟨B1, 0, none⟩), .pointer (some ⟨B2, 0, none⟩)]] w fun e w' =>
      e = .returned (.tuple #[compV (cgK k (cgRun sE sV sR (flds k).length 0 [f0, f1, f2] R)) (cgF (cgRun sE sV sR (flds k).length 0 [f0, f1, f2] R)), .int .i64 (cgRun sE sV sR (flds k).length 0 [f0, f1, f2] R).1]) ∧
      ∃ a', IsR w' g v P a' ∧ (Bi.bitsOf P).drop a' = cgR R (cgRun sE sV sR (flds k).length 0 [f0, f1, f2] R) ∧ a' ≤ 8 * P.length ∧ Upd (fun b => b = g) w w' := by
  obtain ⟨RES, hres⟩ : ∃ RES, cgRun sE sV sR (flds k).length 0 [f0, f1, f2] R = RES := ⟨_, rfl⟩
  have HRES := Bx.mk hres
  rw [hres]
  have HC := Bx.mk (fun w => Count_any k w hk)
  have hfl := flds_len k
  have HONE := Bx.mk hone
  have BR := Bx.mk hR
  have BA := Bx.mk ha
  clear hone hres hR ha
  obtain ⟨n, hn⟩ : ∃ n, (flds k).length = n := ⟨_, rfl⟩
  rw [hn] at HC HONE hfl HRES
  clear hn
  have hN1 : New w (w.alloc (.cells #[.int .u8 k, .int .i32 f0, .int .i32 f1, .int .i32 f2] 24)) := (Upd.refl _ w).alloc _
  have hN2 : New w ((w.alloc (.cells #[.int .u8 k, .int .i32 f0, .int .i32 f1, .int .i32 f2] 24)).alloc (.cells #[.int .u8 0, .int .i32 0, .int .i32 0, .int .i32 0] 24)) := hN1.alloc _
  have h2 := h.new hN2
  have g0 := h2.c0
  have g1 := h2.c1
  have hgl : g < w.heap.size := (Array.getElem?_eq_some_iff.1 h.obj).1
  obtain ⟨A, c, rfl, _⟩ := own_rd h.row
  obtain ⟨hN0, r1, r2⟩ := two_boxes w k 0 f0 f1 f2 0 0 0
  have hB1 : ((w.alloc (.cells #[.int .u8 k, .int .i32 f0, .int .i32 f1, .int .i32 f2] 24)).alloc (.cells #[.int .u8 0, .int .i32 0, .int .i32 0, .int .i32 0] 24)).heap[w.heap.size]? = some (.cells #[.int .u8 k, .int .i32 f0, .int .i32 f1, .int .i32 f2] 24 (0, 0)) := ((Upd.refl Nowhere _).alloc _).blk (heap_alloc_new w _) (fun q => q)
  have hB2 : ((w.alloc (.cells #[.int .u8 k, .int .i32 f0, .int .i32 f1, .int .i32 f2] 24)).alloc (.cells #[.int .u8 0, .int .i32 0, .int .i32 0, .int .i32 0] 24)).heap[w.heap.size + 1]? = some (.cells #[.int .u8 0, .int .i32 0, .int .i32 0, .int .i32 0] 24 (0, 0)) := alloc_at (by simp) _
  have hk0 := (four_cells r1).1
  have H2 := Bx.mk h2
  have HB1 := Bx.mk hB1
  have HB2 := Bx.mk hB2
  have HN2 := Bx.mk hN2
  have hsz2 : ((w.alloc (.cells #[.int .u8 k, .int .i32 f0, .int .i32 f1, .int .i32 f2] 24)).alloc (.cells #[.int .u8 0, .int .i32 0, .int .i32 0, .int .i32 0] 24)).heap.size = w.heap.size + 1 + 1 := by simp
  have HSZ := Bx.mk hsz2
  clear r1 r2 hN0 hN1 hN2 h2 hB1 hB2 hsz2
  go_enter Try.func41, Try.ntmps41
  repeat' (first | (go_at_call 40; go_loud ((with_reducible refine (HC.out _).mono ?_); rintro e w1 ⟨rfl, hu1⟩; dsimp only)) | go_values | go_skip | go_guarded | go_step | go_upon | go_back)
  have hAl := (Upd.refl Nowhere ((w.alloc (.cells #[.int .u8 k, .int .i32 f0, .int .i32 f1, .int .i32 f2] 24)).alloc (.cells #[.int .u8 0, .int .i32 0, .int .i32 0, .int .i32 0] 24))).alloc (.cells #[.slice A P.length c, .int .i64 a] 73)
  have hB3 := alloc_at HSZ.out (.cells #[.slice A P.length c, .int .i64 a] 73)
  have hI1 := Bx.mk ((H2.out.new hAl).new hu1)
  have hO1 := Bx.mk (hu1.blk (hAl.blk HB1.out (fun q => q)) (fun q => q))
  have hO2 := Bx.mk (hu1.blk (hAl.blk HB2.out (fun q => q)) (fun q => q))
  have hO3 := Bx.mk (hu1.blk hB3 (fun q => q))
  have hU1 : Upd (fun b => b = g) w w1 := New.upd ((HN2.out.trans hAl).trans hu1)
  clear hAl hB3 hu1 HB1 HB2 HSZ HN2 H2 g0 g1 hk0
  have hg1 : w.heap.size ≠ g := by omega
  have hg2 : w.heap.size + 1 ≠ g := by omega
  have hg3 : w.heap.size + 1 + 1 ≠ g := by omega
  generalize hB : w.heap.size = B at *
  have HSB := Bx.mk hB
  clear hB
  go_loopw [18] (fun i wr => ∃ (j : Nat) (F0 F1 F2 : Int) (a' : Nat) (R' : List Bool), j ≤ n ∧ i = .int .i64 j ∧ Bx (cgRun sE sV sR (n - j) j [F0, F1, F2] R' = RES) ∧ Bx (IsR wr g (.slice A P.length c) P a') ∧ Bx ((Bi.bitsOf P).drop a' = R') ∧ Bx (a' ≤ 8 * P.length) ∧
      Bx (wr.heap[B]? = some (.cells #[.int .u8 k, .int .i32 F0, .int .i32 F1, .int .i32 F2] 24 (0, 0))) ∧ Bx (wr.heap[B + 1]? = some (.cells #[.int .u8 0, .int .i32 0, .int .i32 0, .int .i32 0] 24 (0, 0))) ∧ Bx (wr.heap[B + 1 + 1]? = some (.cells #[.slice A P.length c, .int .i64 a] 73 (0, 0))) ∧ Upd (fun b => b = g) w wr) (fun i _ => n - (intOf i).toNat)
  case atStart => exact ⟨0, f0, f1, f2, a, R, Nat.zero_le _, rfl, HRES, hI1, BR, BA, hO1, hO2, hO3, hU1⟩
  case round =>
    clear hO1 hO2 hO3 hU1 hI1
    obtain ⟨j, F0, F1, F2, a', R', hj, rfl, HQ, hI, hRR, haa, O1, O2, O3, hU⟩ := hrel
    obtain ⟨x0, x1, x2, x3⟩ := four_cells (rd_of_blkG (cs := [.int .u8 k, .int .i32 F0, .int .i32 F1, .int .i32 F2]) O1.out)
    by_cases hlt : j < n
    · have hji : (j : Int) < (n : Int) := by omega
      have hQ := HQ.out
      rw [show n - j = (n - (j + 1)) + 1 by omega, cgRun_succ] at hQ
      have CO := Bx.mk (HONE.out wr a' R' j hU hI.out hRR.out haa.out hlt)
      obtain ⟨E, hE⟩ : ∃ E, sE j R' = E := ⟨_, rfl⟩
      obtain ⟨V, hV⟩ : ∃ V, sV j R' = V := ⟨_, rfl⟩
      obtain ⟨R2, hR2⟩ : ∃ R2, sR j R' = R2 := ⟨_, rfl⟩
      rw [hE, hV, hR2] at CO
      rw [hE, hV, hR2] at hQ
      have HQ2 := Bx.mk hQ
      clear hE hV hR2 hQ HQ
      by_cases hE0 : E = 0
      · subst hE0
        have HQ3 := Bx.mk (HQ2.out.symm.trans (if_pos rfl))
        obtain ⟨J, hJ⟩ : ∃ J : Int, (j : Int) = J := ⟨_, rfl⟩
        rw [hJ] at CO
        have hj3 : j = 0 ∨ j = 1 ∨ j = 2 := by omega
        rcases hj3 with rfl | rfl | rfl
        all_goals
          first
            | ((have eJ : J = 0 := (by omega)); subst eJ)
            | ((have eJ : J = 1 := (by omega)); subst eJ)
            | ((have eJ : J = 2 := (by omega)); subst eJ)
          clear hJ
          repeat' (first | (go_at_call 42; go_loud ((with_reducible refine (CO.out).mono ?_); rintro e w2 ⟨rfl, a2, hI2, hR2, ha2, hU2⟩; have q1 := hU2.blk O1.out hg1; have q2 := Bx.mk (hU2.blk O2.out hg2); have q3 := Bx.mk (hU2.blk O3.out hg3); have Q1 := Bx.mk q1; have qf := frz_of_blkG q1; (obtain ⟨y0, y1, y2, y3⟩ := four_cells (rd_of_blkG (cs := [.int .u8 k, .int .i32 F0, .int .i32 F1, .int .i32 F2]) q1)); clear q1; dsimp only)) | go_values | go_skip | go_guarded | go_step | go_upon | go_back)
          go_roundw
          case rel =>
            refine ⟨_, _, _, _, a2, R2, ?_, ?_, ⟨HQ3.out.symm⟩, ⟨hI2.upd (Upd.set1 w2 _ _) (fun q => hg1 q.symm) (fun b hb q => own_obj_ne hI2.row Q1.out (by decide) (by rw [← show b = B from q]; exact hb))⟩, ⟨hR2 rfl⟩, ⟨ha2⟩, ⟨heap_setCell_same w2 B _ _ _ _ Q1.out⟩, ⟨(Upd.set1 w2 _ _).blk q2.out (fun q => by have : B + 1 = B := q; omega)⟩, ⟨(Upd.set1 w2 _ _).blk q3.out (fun q => by have : B + 1 + 1 = B := q; omega)⟩, (hU.trans hU2).setCell (.inr (by rw [HSB.out]; exact Nat.le_refl _)) _⟩
            · omega
            · go_num
          case measure => simp [intOf]; omega
      · have HQ3 := Bx.mk (HQ2.out.symm.trans (if_neg hE0))
        have hEb : (E == 0) = false := by simpa using hE0
        repeat' (first | (go_at_call 42; go_loud ((with_reducible refine (CO.out).mono ?_); rintro e w2 ⟨rfl, a2, hI2, hR2, ha2, hU2⟩; have q2 := hU2.blk O2.out hg2; have q3 := hU2.blk O3.out hg3; have k0 := hI2.c0; have k1 := hI2.c1; have kf := hI2.fz; (obtain ⟨z0, z1⟩ := and_twoG q3); (obtain ⟨t0, t1, t2, t3⟩ := four_cells (rd_of_blkG (cs := [.int .u8 0, .int .i32 0, .int .i32 0, .int .i32 0]) q2)); have tf := frz_of_blkG q2; dsimp only)) | go_values | go_skip | go_guarded | go_step | go_upon | go_back)
        obtain ⟨hK, hF, hRr, hE1⟩ : cgK k RES = 0 ∧ cgF RES = [0, 0, 0] ∧ cgR R RES = R ∧ RES.1 = E := by
          rw [HQ3.out]; exact ⟨if_neg hE0, if_neg hE0, if_neg hE0, rfl⟩
        have hI3 := hI2.back (a := a)
        have hU3 : Upd (fun b => b = g) w _ := ((hU.trans hU2).setCell (p := ⟨g, 0, none⟩) (.inl rfl) (.slice A P.length c)).setCell (p := ⟨g, 1, none⟩) (.inl rfl) (.int .i64 a)
        have hq : ((w2.setCell ⟨g, 0, none⟩ (.slice A P.length c)).setCell ⟨g, 1, none⟩ (.int .i64 a)).heap[B + 1]? = _ := (Upd.set1 _ ⟨g, 1, none⟩ _).blk ((Upd.set1 _ ⟨g, 0, none⟩ _).blk q2 hg2) hg2
        generalize (w2.setCell ⟨g, 0, none⟩ (.slice A P.length c)).setCell ⟨g, 1, none⟩ (.int .i64 a) = w3 at *
        refine bodyPost_ret (compRes Try.results41 _ _ (B + 1) _ (0, 0) rfl (set4 hq _ _ _ _) rfl) rfl ?_
        have hX := new4' (w := w3) (B := B + 1) (.int .u8 0) (.int .i32 0) (.int .i32 0) (.int .i32 0)
        refine ⟨by rw [hK, hF, hE1]; rfl, a, hI3.upd hX (fun q => hg2 q.symm) (fun b hb q => own_obj_ne hI3.row hq (by decide) (by rw [← show b = B + 1 from q]; exact hb)), by rw [hRr]; exact BR.out, BA.out, hU3.then hX (fun b q => .inr (by rw [HSB.out]; have : b = B + 1 := q; omega))⟩
    · obtain rfl : j = n := by omega
      have hQ := HQ.out
      rw [show j - j = 0 by omega] at hQ
      obtain ⟨hK, hF, hRr, hE1⟩ : cgK k RES = k ∧ cgF RES = [F0, F1, F2] ∧ cgR R RES = R' ∧ RES.1 = 0 := by
        rw [← hQ]; exact ⟨rfl, rfl, rfl, rfl⟩
      obtain ⟨t0, t1, t2, t3⟩ := four_cells (rd_of_blkG (cs := [.int .u8 0, .int .i32 0, .int .i32 0, .int .i32 0]) O2.out)
      have tf := frz_of_blkG O2.out
      clear hQ HQ
      repeat' (first | fail | go_values | go_skip | go_guarded | go_step | go_upon | go_back)
      refine bodyPost_ret (compRes Try.results41 _ _ (B + 1) _ (0, 0) rfl (set4 O2.out _ _ _ _) rfl) rfl ?_
      have hX := new4' (w := wr) (B := B + 1) (.int .u8 k) (.int .i32 F0) (.int .i32 F1) (.int .i32 F2)
      refine ⟨by rw [hK, hF, hE1]; rfl, a', hI.out.upd hX (fun q => hg2 q.symm) (fun b hb q => own_obj_ne hI.out.row O2.out (by decide) (by rw [← show b = B + 1 from q]; exact hb)), by rw [hRr]; exact hRR.out, haa.out, hU.then hX (fun b q => .inr (by rw [HSB.out]; have : b = B + 1 := q; omega))⟩
end Go.Proofs.Ytpfdbkfjjjiamaa
