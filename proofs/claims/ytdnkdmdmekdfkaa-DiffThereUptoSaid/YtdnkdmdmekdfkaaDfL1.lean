/- DiffThere: the walk. -/
import Derived.Test.YtdnkdmdmekdfkaaDf19
import Derived.Test.YtdnkdmdmekdfkaaDf24
namespace Go.Proofs.Ytdnkdmdmekdfkaa
open Go.RowKit
set_option maxRecDepth 20000 in
set_option maxHeartbeats 16000000 in
theorem diffThere_any (A1 : Option Addr) (n1 p1 : Nat) (L1 : List Et) (A2 : Option Addr) (n2 p2 : Nat) (L2 : List Et) (w : World) (h1 : EnL w A1 n1 L1) (h2 : EnL w A2 n2 L2) (b1 : Bd L1) (b2 : Bd L2) (s1 : n1 + sumL L1 ≤ 1000000000) (s2 : n2 + sumL L2 ≤ 1000000000) :
    Calls Try.prog 6 #[.slice A1 n1 p1, .slice A2 n2 p2] w fun e w' => e = .returned (.bool true) ∧ New w w' := by
  have H1 := Bx.mk h1
  have H2 := Bx.mk h2
  have HF1 := Bx.mk (fun (w' : World) (k : New w w') => Few_any A1 n1 p1 L1 w' (h1.new k) s1)
  have HF2 := Bx.mk (fun (w' : World) (k : New w w') => Few_any A2 n2 p2 L2 w' (h2.new k) s2)
  have B1 := Bx.mk b1
  have B2 := Bx.mk b2
  clear h1 h2 b1 b2 s1 s2
  go_enter Try.func6, Try.ntmps6
  cases hf1 : few L1 with
  | false =>
    rw [hf1] at HF1
    clear hf1
    repeat' (first | (first
      | (go_at_call 8; (with_reducible refine (awake19_any _).mono ?_); rintro e1 w1 ⟨rfl, hu1⟩; dsimp only)
      | (go_at_call 9; (with_reducible refine (HF1.out _ hu1).mono ?_); rintro e2 w2 ⟨rfl, hu2⟩; dsimp only)) | go_values | go_skip | go_guarded | go_step | go_upon | go_back)
    go_returns
    exact ⟨rfl, hu1.trans hu2⟩
  | true =>
    cases hf2 : few L2 with
    | false =>
      rw [hf1] at HF1
      rw [hf2] at HF2
      clear hf1 hf2
      repeat' (first | (first
        | (go_at_call 8; (with_reducible refine (awake19_any _).mono ?_); rintro e1 w1 ⟨rfl, hu1⟩; dsimp only)
        | (have _m := hu2; (go_at_call 9; (with_reducible refine (HF2.out _ (hu1.trans hu2)).mono ?_); rintro e3 w3 ⟨rfl, hu3⟩; dsimp only))
        | (go_at_call 9; (with_reducible refine (HF1.out _ hu1).mono ?_); rintro e2 w2 ⟨rfl, hu2⟩; dsimp only)) | go_values | go_skip | go_guarded | go_step | go_upon | go_back)
      go_returns
      exact ⟨rfl, (hu1.trans hu2).trans hu3⟩
    | true =>
      have hsm1 := few_sm B1.out hf1
      have hsm2 := few_sm B2.out hf2
      have HY1 := Bx.mk hf1
      have HY2 := Bx.mk hf2
      have HS1 := Bx.mk hsm1
      have HS2 := Bx.mk hsm2
      rw [hf1] at HF1
      rw [hf2] at HF2
      have T1 := Bx.mk (fun (w' : World) (k : New w w') => Twins_ok (c := p1) (H1.out.new k) hsm1.2 hsm1.1)
      have T2 := Bx.mk (fun (w' : World) (k : New w w') => Twins_ok (c := p2) (H2.out.new k) hsm2.2 hsm2.1)
      have CD := Bx.mk (fun {A : Option Addr} {n p : Nat} {A' : Option Addr} {n' p' : Nat} {wz : World} (q1 : EnL wz A n L1) (q2 : EnL wz A' n' L2) => Diff_any A n p L1 A' n' p' L2 wz q1 q2 (by have := q1.len; omega) (by have := q2.len; omega) hsm1.1 hsm2.1)
      have CR := Bx.mk (fun {A : Option Addr} {n p : Nat} {A' : Option Addr} {n' p' : Nat} {wz : World} (q1 : EnL wz A n L1) (q2 : EnL wz A' n' L2) => refDiff_any A n p L1 A' n' p' L2 wz q1 q2 (by have := q1.len; omega) (by have := q2.len; omega) hsm1.1 hsm2.1)
      clear hf1 hf2 hsm1 hsm2
      go_upto_region 7 with (first
        | (go_at_call 8; (with_reducible refine (awake19_any _).mono ?_); rintro e1 w1 ⟨rfl, hu1⟩; dsimp only)
        | (have _m := hu2; (go_at_call 9; (with_reducible refine (HF2.out _ (hu1.trans hu2)).mono ?_); rintro e3 w3 ⟨rfl, hu3⟩; have hu123 := (hu1.trans hu2).trans hu3; dsimp only))
        | (go_at_call 9; (with_reducible refine (HF1.out _ hu1).mono ?_); rintro e2 w2 ⟨rfl, hu2⟩; dsimp only)
        | (go_at_call 11; (with_reducible refine (T1.out _ hu123).mono ?_); rintro e4 w4 ⟨⟨x0, x1, x2, rfl, hx⟩, k4⟩; dsimp only)
        | (go_at_call 11; (with_reducible refine (T2.out _ (hu123.trans k4)).mono ?_); rintro e5 w5 ⟨⟨y0, y1, y2, rfl, hy⟩, k5⟩; dsimp only)
        | (go_at_call 18; (with_reducible refine (CD.out (hx.new k5) hy).mono ?_); rintro e6 w6 ⟨⟨gg, cc, hh, rfl, hdn⟩, k6⟩; obtain ⟨g0, g2, c0, c2, d0, d2, rfl, rfl, rfl, hdr⟩ := hdn.r; dsimp only))
      have hX := newA w6 (.cells #[.slice g0 (diffD L1 L2).gone.length g2, .slice c0 (diffD L1 L2).come.length c2, .slice d0 (diffD L1 L2).chg.length d2] 26)
      have hob := heap_alloc_new w6 (.cells #[.slice g0 (diffD L1 L2).gone.length g2, .slice c0 (diffD L1 L2).come.length c2, .slice d0 (diffD L1 L2).chg.length d2] 26)
      have HN := Bx.mk ((((hu123.trans k4).trans k5).trans k6).trans hX)
      have HDR := Bx.mk (hdr.new hX)
      have HOB := Bx.mk hob
      have HXA := Bx.mk ((hx.new k5).new (k6.trans hX))
      have HYA := Bx.mk (hy.new (k6.trans hX))
      clear hdn hdr hx hy hu1 hu2 hu3 hu123 k4 k5 k6 hX hob
      generalize w6.alloc (.cells #[.slice g0 (diffD L1 L2).gone.length g2, .slice c0 (diffD L1 L2).come.length c2, .slice d0 (diffD L1 L2).chg.length d2] 26) = wA at *
      generalize w6.heap.size = PD at *
      go_upto_region 8 with (first
        | (go_at_call 19; (with_reducible refine (CR.out (H1.out.new HN.out) (H2.out.new HN.out)).mono ?_); rintro e7 w7 ⟨⟨rg, rc, rh, rfl, hrn⟩, k7⟩; obtain ⟨q0, q2, r0, r2, f0, f2, rfl, rfl, rfl, hrr⟩ := hrn.r; dsimp only))
      have hX := newA w7 (.cells #[.slice q0 (diffD L1 L2).gone.length q2, .slice r0 (diffD L1 L2).come.length r2, .slice f0 (diffD L1 L2).chg.length f2] 26)
      have hob := heap_alloc_new w7 (.cells #[.slice q0 (diffD L1 L2).gone.length q2, .slice r0 (diffD L1 L2).come.length r2, .slice f0 (diffD L1 L2).chg.length f2] 26)
      have hN2 := k7.trans hX
      have HN2 := Bx.mk (HN.out.trans hN2)
      have HDS := Bx.mk (HDR.out.new hN2)
      have HRS := Bx.mk (hrr.new hX)
      have HOB1 := Bx.mk (hN2.blk HOB.out (fun q => q))
      have HOB2 := Bx.mk hob
      have HXB := Bx.mk (HXA.out.new hN2)
      have HYB := Bx.mk (HYA.out.new hN2)
      clear hrn hrr k7 hX hob hN2 HN HDR HOB HXA HYA
      generalize w7.alloc (.cells #[.slice q0 (diffD L1 L2).gone.length q2, .slice r0 (diffD L1 L2).come.length r2, .slice f0 (diffD L1 L2).chg.length f2] 26) = wB at *
      generalize w7.heap.size = PR at *
      have HSD := Bx.mk (show SmD (diffD L1 L2) by
        unfold diffD
        split
        · exact mrg_smD (a := L1) (b := L2) (by have := HS1.out.2; omega) (by have := HS2.out.2; omega) HS2.out.1
        · exact ⟨by simp, by simp, by simp, (fun x h => by cases h), (fun x h => by cases h)⟩)
      have CS := Bx.mk (refSame_any g0 _ g2 c0 _ c2 d0 _ d2 (diffD L1 L2) q0 _ q2 r0 _ r2 f0 _ f2 (diffD L1 L2) _ HDS.out HRS.out HSD.out)
      rw [decide_eq_true rfl] at CS
      have CE1 := Bx.mk (fun (w' : World) (k : New wB w') => SameEnts_any x0 x1 x2 L1 A1 n1 p1 L1 w' (HXB.out.new k) (H1.out.new (HN2.out.trans k)) (by have := HS1.out.2; omega) (fun x hx => (HS1.out.1 x hx).len))
      have CE2 := Bx.mk (fun (w' : World) (k : New wB w') => SameEnts_any y0 y1 y2 L2 A2 n2 p2 L2 w' (HYB.out.new k) (H2.out.new (HN2.out.trans k)) (by have := HS2.out.2; omega) (fun x hx => (HS2.out.1 x hx).len))
      rw [decide_eq_true rfl] at CE1
      rw [decide_eq_true rfl] at CE2
      obtain ⟨z0, z1, z2, _⟩ := o3_at HOB1.out
      obtain ⟨b0, b1, b2, _⟩ := o3_at HOB2.out
      by_cases hE : diffE L1 L2 = 0
      · have hfr : frm 0 L1 = 0 ∧ frm 0 L2 = 0 := by
          unfold diffE at hE
          by_cases q : frm 0 L1 = 0
          · rw [if_neg (by simp [q])] at hE; exact ⟨q, hE⟩
          · rw [if_pos q] at hE; exact absurd hE q
        have O1 := Bx.mk (few_ok B1.out HY1.out hfr.1)
        have O2 := Bx.mk (few_ok B2.out HY2.out hfr.2)
        have HDD := Bx.mk (diffE_ok hfr.1 hfr.2).2
        have hE0 := hE
        rw [hE0]
        clear hE hfr
        have hee : ((0 : Int) != 0) = false := rfl
        go_upto_region 12 with (first
          | (go_at_call 16; (with_reducible refine (CS.out).mono ?_); rintro e8 w8 ⟨rfl, k8⟩; dsimp only)
          | (have _m := k9; (go_at_call 15; (with_reducible refine (CE2.out _ (k8.trans k9)).mono ?_); rintro ea wa ⟨rfl, ka⟩; dsimp only))
          | (go_at_call 15; (with_reducible refine (CE1.out _ k8).mono ?_); rintro e9 w9 ⟨rfl, k9⟩; dsimp only))
        have HN3 := Bx.mk (HN2.out.trans ((k8.trans k9).trans ka))
        have HK := Bx.mk ((k8.trans k9).trans ka)
        have HDT := Bx.mk (HDS.out.new HK.out)
        have HXC := Bx.mk (HXB.out.new HK.out)
        have HBO := Bx.mk (HK.out.blk HOB1.out (fun q => q))
        clear k8 k9 ka CS CE1 CE2 HDS HRS HXB HYB z0 z1 z2 b0 b1 b2 hee
        obtain ⟨z0, z1, z2, _⟩ := o3_at HBO.out
        rw [HDD.out] at HDT HBO z0 z1 z2
        have CP := Bx.mk (Patch_ok (p := x2) (c2 := c2) (h2 := d2) HXC.out HDT.out O1.out O2.out rfl)
        rw [HDD.out]
        generalize wa = wC at *
        have CE3 := Bx.mk (fun {A : Option Addr} {n c : Nat} {w' : World} (q : EnL w' A n L2) (k : New wC w') => SameEnts_any A n c L2 A2 n2 p2 L2 w' q (H2.out.new (HN3.out.trans k)) (by have := HS2.out.2; omega) (fun x hx => (HS2.out.1 x hx).len))
        rw [decide_eq_true rfl] at CE3
        have CE4 := Bx.mk (fun (w' : World) (k : New wC w') => SameEnts_any A1 n1 p1 L1 A2 n2 p2 L2 w' (H1.out.new (HN3.out.trans k)) (H2.out.new (HN3.out.trans k)) (by have := HS1.out.2; omega) (fun x hx => (HS1.out.1 x hx).len))
        have HEQ := Bx.mk (show decide ((mrg L1 L2).gone.length = 0 ∧ (mrg L1 L2).come.length = 0 ∧ (mrg L1 L2).chg.length = 0) = decide (L1 = L2) by
          by_cases h : L1 = L2
          · rw [decide_eq_true h, ← h, mrg_self O1.out.wf]; rfl
          · rw [decide_eq_false h, decide_eq_false]
            rintro ⟨q1, q2, q3⟩
            apply h
            refine mrg_nil O1.out.wf O2.out.wf ?_
            cases hm : mrg L1 L2 with
            | mk g c k =>
              rw [hm] at q1 q2 q3
              dsimp only at q1 q2 q3
              obtain rfl := List.eq_nil_of_length_eq_zero q1
              obtain rfl := List.eq_nil_of_length_eq_zero q2
              obtain rfl := List.eq_nil_of_length_eq_zero q3
              rfl)
        have CM := Bx.mk (fun w' => Empty_any g0 (mrg L1 L2).gone.length g2 c0 (mrg L1 L2).come.length c2 d0 (mrg L1 L2).chg.length d2 w')
        rw [HEQ.out] at CM
        clear HDT HEQ HDD
        generalize decide (L1 = L2) = Q at *
        generalize (mrg L1 L2).gone.length = ga at *
        generalize (mrg L1 L2).come.length = gb at *
        generalize (mrg L1 L2).chg.length = gc at *
        go_upto_region 13 with (first
          | (go_at_call 13; (with_reducible refine (CP.out).mono ?_); rintro eb wD ⟨⟨t0, t1, t2, rfl, hT⟩, kb⟩; dsimp only))
        obtain ⟨y0', y1', y2', _⟩ := o3_at (kb.blk HBO.out (fun q => q))
        clear z0 z1 z2
        repeat' (first | (first
          | (go_at_call 20; (with_reducible refine (CM.out _).mono ?_); rintro ed wE ⟨rfl, kd⟩; dsimp only)
          | (have _m := kd; (go_at_call 15; (with_reducible refine (CE4.out _ ((kb.trans kc).trans kd)).mono ?_); rintro ee wF ⟨rfl, ke⟩; dsimp only))
          | (go_at_call 15; (with_reducible refine (CE3.out hT kb).mono ?_); rintro ec wG ⟨rfl, kc⟩; obtain ⟨z0, z1, z2, _⟩ := o3_at ((kb.trans kc).blk HBO.out (fun q => q)); dsimp only)) | go_values | go_skip | go_guarded | go_step | go_upon | go_back)
        go_returns
        exact ⟨by cases Q <;> rfl, HN3.out.trans (((kb.trans kc).trans kd).trans ke)⟩
      · have hEb : (diffE L1 L2 != 0) = true := by rw [bne_iff_ne]; exact hE
        have hEn : (diffE L1 L2 != diffE L1 L2) = false := by simp
        generalize diffE L1 L2 = E at *
        repeat' (first | (first
          | (go_at_call 16; (with_reducible refine (CS.out).mono ?_); rintro e8 w8 ⟨rfl, k8⟩; dsimp only)
          | (have _m := k9; (go_at_call 15; (with_reducible refine (CE2.out _ (k8.trans k9)).mono ?_); rintro ea wa ⟨rfl, ka⟩; dsimp only))
          | (go_at_call 15; (with_reducible refine (CE1.out _ k8).mono ?_); rintro e9 w9 ⟨rfl, k9⟩; dsimp only)) | go_values | go_skip | go_guarded | go_step | go_upon | go_back)
        go_returns
        exact ⟨rfl, HN2.out.trans ((k8.trans k9).trans ka)⟩
end Go.Proofs.Ytdnkdmdmekdfkaa
