/- The reference's Same of deltas: the walk. -/
import Derived.Test.YtdnkdmdmekdfkaaDf10
import Derived.Deep.RegionHeld3
namespace Go.Proofs.Ytdnkdmdmekdfkaa
open Go.RowKit
def At4 (w : World) (B o : Nat) (a b c d : Value) : Prop := w.cell? ⟨B, o, none⟩ = some a ∧ w.cell? ⟨B, o + 1, none⟩ = some b ∧ w.cell? ⟨B, o + 2, none⟩ = some c ∧ w.cell? ⟨B, o + 3, none⟩ = some d
theorem At4.new {w w' : World} {B o : Nat} {a b c d : Value} (h : At4 w B o a b c d) (k : New w w') : At4 w' B o a b c d := ⟨k.cell h.1 (fun q => q), k.cell h.2.1 (fun q => q), k.cell h.2.2.1 (fun q => q), k.cell h.2.2.2 (fun q => q)⟩
theorem c10_new {w w' : World} {p0 p1 p2 p3 p4 p5 p6 p7 p8 p9 : Addr} {x0 x1 x2 x3 x4 x5 x6 x7 x8 x9 : Value} (k : New w w') (h : w.cell? p0 = some x0 ∧ w.cell? p1 = some x1 ∧ w.cell? p2 = some x2 ∧ w.cell? p3 = some x3 ∧ w.cell? p4 = some x4 ∧ w.cell? p5 = some x5 ∧ w.cell? p6 = some x6 ∧ w.cell? p7 = some x7 ∧ w.cell? p8 = some x8 ∧ w.cell? p9 = some x9) :
    w'.cell? p0 = some x0 ∧ w'.cell? p1 = some x1 ∧ w'.cell? p2 = some x2 ∧ w'.cell? p3 = some x3 ∧ w'.cell? p4 = some x4 ∧ w'.cell? p5 = some x5 ∧ w'.cell? p6 = some x6 ∧ w'.cell? p7 = some x7 ∧ w'.cell? p8 = some x8 ∧ w'.cell? p9 = some x9 :=
  ⟨k.cell h.1 (fun q => q), k.cell h.2.1 (fun q => q), k.cell h.2.2.1 (fun q => q), k.cell h.2.2.2.1 (fun q => q), k.cell h.2.2.2.2.1 (fun q => q), k.cell h.2.2.2.2.2.1 (fun q => q), k.cell h.2.2.2.2.2.2.1 (fun q => q), k.cell h.2.2.2.2.2.2.2.1 (fun q => q), k.cell h.2.2.2.2.2.2.2.2.1 (fun q => q), k.cell h.2.2.2.2.2.2.2.2.2 (fun q => q)⟩
set_option maxRecDepth 4000 in
set_option maxHeartbeats 16000000 in
theorem refSame_any (g0 : Option Addr) (g1 g2 : Nat) (c0 : Option Addr) (c1 c2 : Nat) (h0 : Option Addr) (h1 h2 : Nat) (D : Dl) (k0 : Option Addr) (k1 k2 : Nat) (l0 : Option Addr) (l1 l2 : Nat) (m0 : Option Addr) (m1 m2 : Nat) (E : Dl) (w : World) (hx : DlR w g0 g1 g2 c0 c1 h0 h1 D) (hy : DlR w k0 k1 k2 l0 l1 m0 m1 E) (hs : SmD D) :
    Calls Try.prog 16 #[.agg #[.slice g0 g1 g2, .slice c0 c1 c2, .slice h0 h1 h2], .agg #[.slice k0 k1 k2, .slice l0 l1 l2, .slice m0 m1 m2]] w fun e w' => e = .returned (.bool (decide (D = E))) ∧ New w w' := by
  have hc1 := heap_alloc_new w (.cells #[.slice g0 g1 g2, .slice c0 c1 c2, .slice h0 h1 h2] 26)
  have U0 := (Upd.refl Nowhere w).alloc (.cells #[.slice g0 g1 g2, .slice c0 c1 c2, .slice h0 h1 h2] 26)
  have hc2 := heap_alloc_new (w.alloc (.cells #[.slice g0 g1 g2, .slice c0 c1 c2, .slice h0 h1 h2] 26)) (.cells #[.slice k0 k1 k2, .slice l0 l1 l2, .slice m0 m1 m2] 26)
  have U1 := (Upd.refl Nowhere (w.alloc (.cells #[.slice g0 g1 g2, .slice c0 c1 c2, .slice h0 h1 h2] 26))).alloc (.cells #[.slice k0 k1 k2, .slice l0 l1 l2, .slice m0 m1 m2] 26)
  rw [show (w.alloc (.cells #[.slice g0 g1 g2, .slice c0 c1 c2, .slice h0 h1 h2] 26)).heap.size = w.heap.size + 1 by simp] at hc2
  have hc1' := U1.blk hc1 (fun q => q)
  have hU := U0.trans U1
  have HE := Bx.mk (dl_eq D E)
  clear U0 U1 hc1
  go_enter Try.func16, Try.ntmps16
  go_upto_region 1 with (fail)
  generalize (w.alloc (.cells #[.slice g0 g1 g2, .slice c0 c1 c2, .slice h0 h1 h2] 26)).alloc (.cells #[.slice k0 k1 k2, .slice l0 l1 l2, .slice m0 m1 m2] 26) = w1 at *
  generalize w.heap.size + 1 = B1 at *
  generalize hB0 : w.heap.size = B0 at *
  have HC1 := Bx.mk (fun w2 (k : New w1 w2) => SameI_any g0 g1 g2 D.gone k0 k1 k2 E.gone w2 (hx.gone.new (hU.trans k)) (hy.gone.new (hU.trans k)) hs.g)
  have HC2 := Bx.mk (fun w2 (k : New w1 w2) => SameEnts_any c0 c1 c2 D.come l0 l1 l2 E.come w2 (hx.come.new (hU.trans k)) (hy.come.new (hU.trans k)) (Nat.le_trans hs.c (by omega)) (fun x hx => (hs.cs x hx).len))
  have HX3 := Bx.mk (hx.chg.new hU)
  have HY3 := Bx.mk (hy.chg.new hU)
  have hN0 : New w1 w1 := Upd.refl _ _
  have HH1 := Bx.mk hc1'
  have HH2 := Bx.mk hc2
  have HU := Bx.mk hU
  obtain ⟨a0, a1, a2, _⟩ := o3_at hc1'
  obtain ⟨b0, b1, b2, _⟩ := o3_at hc2
  have HB0 := Bx.mk hB0
  have HL1 := Bx.mk hx.chg.len
  have HL2 := Bx.mk hy.chg.len
  clear hc1' hc2 hB0 hx hy hU
  generalize hD1 : decide (D.gone = E.gone) = D1 at *
  generalize hD2 : decide (D.come = E.come) = D2 at *
  clear hD1 hD2
  have hh1 : h1 ≤ 1000 := by rw [← HL1.out]; exact hs.h
  cases D1 with
  | false =>
    rw [Bool.false_and] at HE
    repeat' (first | (go_at_call 37; (with_reducible refine (HC1.out _ hN0).mono ?_); rintro e2 w2 ⟨rfl, hu2⟩; dsimp only) | go_values | go_skip | go_guarded | go_step | go_upon | go_back)
    go_returns
    exact ⟨by rw [HE.out]; rfl, HU.out.trans hu2⟩
  | true =>
    rw [Bool.true_and] at HE
    cases D2 with
    | false =>
      rw [Bool.false_and] at HE
      repeat' (first | (first
        | (go_at_call 37; (with_reducible refine (HC1.out _ hN0).mono ?_); rintro e2 w2 ⟨rfl, hu2⟩; obtain ⟨_, a1', a2', _⟩ := o3_at (hu2.blk HH1.out (fun q => q)); obtain ⟨_, b1', b2', _⟩ := o3_at (hu2.blk HH2.out (fun q => q)); dsimp only)
        | (go_at_call 15; (with_reducible refine (HC2.out _ hu2).mono ?_); rintro e3 w3 ⟨rfl, hu3⟩; dsimp only)) | go_values | go_skip | go_guarded | go_step | go_upon | go_back)
      go_returns
      exact ⟨by rw [HE.out]; rfl, (HU.out.trans hu2).trans hu3⟩
    | true =>
      rw [Bool.true_and] at HE
      by_cases hlen : h1 = m1
      · subst hlen
        go_upto_block 0 with (first
          | (go_at_call 37; (with_reducible refine (HC1.out _ hN0).mono ?_); rintro e2 w2 ⟨rfl, hu2⟩; obtain ⟨_, a1', a2', _⟩ := o3_at (hu2.blk HH1.out (fun q => q)); obtain ⟨_, b1', b2', _⟩ := o3_at (hu2.blk HH2.out (fun q => q)); dsimp only)
          | (go_at_call 15; (with_reducible refine (HC2.out _ hu2).mono ?_); rintro e3 w3 ⟨rfl, hu3⟩; have hu3' := hu2.trans hu3; obtain ⟨_, _, a2'', _⟩ := o3_at (hu3'.blk HH1.out (fun q => q)); obtain ⟨_, _, b2'', _⟩ := o3_at (hu3'.blk HH2.out (fun q => q)); dsimp only))
        have HU3 := Bx.mk hu3'
        clear HC1 HC2 a0 a1 a2 b0 b1 b2 a1' a2' b1' b2' hu2 hu3 hu3' hN0
        repeat' (first | fail | go_values | go_skip | go_guarded | go_step | go_upon | go_back)
        go_loopw [34] (fun i wr => ∃ (j : Nat), j ≤ h1 ∧ i = .int .i64 j ∧ Bx (D.chg.take j = E.chg.take j) ∧ Bx (New w1 wr)) (fun i _ => h1 - (intOf i).toNat)
        case atStart => exact ⟨0, by omega, rfl, ⟨rfl⟩, HU3⟩
        case round =>
          clear a2'' b2''
          obtain ⟨j, hj, rfl, HT, HN⟩ := hrel
          by_cases hlt : j < h1
          · have hji : (j : Int) < (h1 : Int) := by omega
            have hjL : j < D.chg.length := by rw [HL1.out]; exact hlt
            have hjM : j < E.chg.length := by rw [HL2.out]; exact hlt
            obtain ⟨b0, o0, s0, s1, s2, t0, t1, t2, rfl, i0, i1, i2, i3, hc0, hc1⟩ := (HX3.out.new HN.out).el j hjL
            obtain ⟨b1, o1, u0, u1, u2, v0, v1, v2, rfl, j0, j1, j2, j3, hc2, hc3⟩ := (HY3.out.new HN.out).el j hjM
            have HS := Bx.mk (take_succ_eq D.chg E.chg j hjL hjM HT.out)
            have HNE := Bx.mk (ne_of_at D.chg E.chg j hjL hjM)
            have hlq := hs.hs D.chg[j] (List.getElem_mem hjL)
            generalize D.chg[j] = q at *
            generalize E.chg[j] = r at *
            obtain ⟨i1', p1, N1, S1⟩ := q
            obtain ⟨i2', p2, N2, S2⟩ := r
            dsimp only at i0 i1 i2 i3 j0 j1 j2 j3 hc0 hc1 hc2 hc3 hlq
            obtain ⟨_, _, a2, _⟩ := o3_at (HN.out.blk HH1.out (fun q => q))
            obtain ⟨_, _, b2, _⟩ := o3_at (HN.out.blk HH2.out (fun q => q))
            have hd : New wr wr.drew := (Upd.refl Nowhere wr).drew
            go_upto_region 6 with (fail)
            generalize hP : p1.toNat = P at *
            generalize hR : p2.toNat = R at *
            have HP := Bx.mk hP
            have HR := Bx.mk hR
            clear hP hR
            have s0' := c10_new (Upd.refl Nowhere wr) ⟨a2, b2, i0, i1, i2, i3, j0, j1, j2, j3⟩
            go_cut [6, 7] (fun v v' wx => ∃ B6 B7, v = .pointer (some ⟨B6, 0, none⟩) ∧ v' = .pointer (some ⟨B7, 0, none⟩) ∧ Bx (wx.heap[B6]? = some (.cells #[.int .u32 i1', .int .u8 P, .slice s0 s1 s2, .slice t0 t1 t2] 57 (0, 0))) ∧ Bx (wx.heap[B7]? = some (.cells #[.int .u32 i2', .int .u8 R, .slice u0 u1 u2, .slice v0 v1 v2] 57 (0, 0))) ∧ Bx (New wr wx))
            case first =>
              go_region_held3 (fun w' => w'.cell? ⟨B0, 2, none⟩ = some (.slice (some ⟨b0, o0, none⟩) h1 h2) ∧ w'.cell? ⟨B1, 2, none⟩ = some (.slice (some ⟨b1, o1, none⟩) h1 m2) ∧ w'.cell? ⟨b0, o0 + j * 4, none⟩ = some (.int .u32 i1') ∧ w'.cell? ⟨b0, o0 + j * 4 + 1, none⟩ = some (.int .u8 P) ∧ w'.cell? ⟨b0, o0 + j * 4 + 2, none⟩ = some (.slice s0 s1 s2) ∧ w'.cell? ⟨b0, o0 + j * 4 + 3, none⟩ = some (.slice t0 t1 t2) ∧ w'.cell? ⟨b1, o1 + j * 4, none⟩ = some (.int .u32 i2') ∧ w'.cell? ⟨b1, o1 + j * 4 + 1, none⟩ = some (.int .u8 R) ∧ w'.cell? ⟨b1, o1 + j * 4 + 2, none⟩ = some (.slice u0 u1 u2) ∧ w'.cell? ⟨b1, o1 + j * 4 + 3, none⟩ = some (.slice v0 v1 v2))
                (exact c10_new (by repeat' (first | exact Upd.refl _ _ | refine Upd.alloc ?_ _ | refine Upd.setCell ?_ (.inr ?_) _ | refine Upd.drew ?_ | (simp; done) | (simp; omega))) s0')
                (fail)
              · repeat' (first | fail | go_values | go_skip | go_guarded | go_step | go_upon | go_back)
                go_meet
                case rel =>
                  refine ⟨_, _, rfl, rfl, ⟨?_⟩, ⟨?_⟩, ⟨(((Upd.refl Nowhere wr).alloc _).alloc _).drew⟩⟩
                  · exact ((Upd.refl Nowhere (wr.alloc (.cells #[.int .u32 i1', .int .u8 P, .slice s0 s1 s2, .slice t0 t1 t2] 57))).alloc _).drew.blk (heap_alloc_new wr _) (fun q => q)
                  · have := heap_alloc_new (wr.alloc (.cells #[.int .u32 i1', .int .u8 P, .slice s0 s1 s2, .slice t0 t1 t2] 57)) (.cells #[.int .u32 i2', .int .u8 R, .slice u0 u1 u2, .slice v0 v1 v2] 57)
                    rw [show (wr.alloc (.cells #[.int .u32 i1', .int .u8 P, .slice s0 s1 s2, .slice t0 t1 t2] 57)).heap.size = wr.heap.size + 1 by simp] at this
                    exact ((Upd.refl Nowhere _).drew).blk this (fun q => q)
              · repeat' (first | fail | go_values | go_skip | go_guarded | go_step | go_upon | go_back)
                go_meet
                case rel =>
                  refine ⟨_, _, rfl, rfl, ⟨?_⟩, ⟨?_⟩, ⟨(((Upd.refl Nowhere wr).alloc _).alloc _).drew⟩⟩
                  · have := heap_alloc_new (wr.alloc (.cells #[.int .u32 i2', .int .u8 R, .slice u0 u1 u2, .slice v0 v1 v2] 57)) (.cells #[.int .u32 i1', .int .u8 P, .slice s0 s1 s2, .slice t0 t1 t2] 57)
                    rw [show (wr.alloc (.cells #[.int .u32 i2', .int .u8 R, .slice u0 u1 u2, .slice v0 v1 v2] 57)).heap.size = wr.heap.size + 1 by simp] at this
                    exact ((Upd.refl Nowhere _).drew).blk this (fun q => q)
                  · exact ((Upd.refl Nowhere (wr.alloc (.cells #[.int .u32 i2', .int .u8 R, .slice u0 u1 u2, .slice v0 v1 v2] 57))).alloc _).drew.blk (heap_alloc_new wr _) (fun q => q)
            case rest =>
              obtain ⟨B6, B7, rfl, rfl, HB6, HB7, HNx⟩ := hcut
              rename World => wx
              obtain ⟨e0, e1, e2, e3, _⟩ := o4_at HB6.out
              obtain ⟨f0, f1, f2, f3, _⟩ := o4_at HB7.out
              have HCa := Bx.mk (fun w2 (k : New wx w2) => SameC_any s0 s1 s2 N1 u0 u1 u2 N2 w2 (hc0.new (HNx.out.trans k)) (hc2.new (HNx.out.trans k)) hlq.1)
              have HCb := Bx.mk (fun w2 (k : New wx w2) => SameC_any t0 t1 t2 S1 v0 v1 v2 S2 w2 (hc1.new (HNx.out.trans k)) (hc3.new (HNx.out.trans k)) hlq.2)
              have hNN : New wx wx := Upd.refl _ _
              have HQ := Bx.mk (show decide ((⟨i1', p1, N1, S1⟩ : Ch) = ⟨i2', p2, N2, S2⟩) = (decide (i1' = i2') && (decide (P = R) && (decide (N1 = N2) && decide (S1 = S2)))) by
                rw [Bool.eq_iff_iff, ← HP.out, ← HR.out]
                simp only [decide_eq_true_eq, Bool.and_eq_true, Ch.mk.injEq, BitVec.toNat_inj])
              have HFa := Bx.mk (fun (hq : decide ((⟨i1', p1, N1, S1⟩ : Ch) = ⟨i2', p2, N2, S2⟩) = false) => show decide (D = E) = false by rw [HE.out]; exact decide_eq_false (HNE.out (of_decide_eq_false hq)))
              have HTr := Bx.mk (fun (hq : decide ((⟨i1', p1, N1, S1⟩ : Ch) = ⟨i2', p2, N2, S2⟩) = true) => HS.out.2 (of_decide_eq_true hq))
              have HUN := HU.out.trans (HN.out.trans HNx.out)
              generalize decide ((⟨i1', p1, N1, S1⟩ : Ch) = ⟨i2', p2, N2, S2⟩) = QQ at *
              clear HS HNE hc0 hc1 hc2 hc3 hd s0' a2 b2 i0 i1 i2 i3 j0 j1 j2 j3
              generalize decide (S1 = S2) = D4 at *
              generalize decide (N1 = N2) = D3 at *
              by_cases hij : i1' = i2'
              · rw [decide_eq_true hij, Bool.true_and] at HQ
                have hijb : ((i1' : Int) != (i2' : Int)) = false := by rw [bne_eq_false_iff_eq]; omega
                by_cases hpr : P = R
                · rw [decide_eq_true hpr, Bool.true_and] at HQ
                  have hprb : ((P : Int) != (R : Int)) = false := by rw [bne_eq_false_iff_eq]; omega
                  clear hij hpr
                  cases D3 with
                  | false =>
                    have HF := Bx.mk (HFa.out (by rw [HQ.out]; rfl))
                    clear HFa HTr HQ
                    repeat' (first | (go_at_call 38; (with_reducible refine (HCa.out _ hNN).mono ?_); rintro ea wa ⟨rfl, hua⟩; dsimp only) | go_values | go_skip | go_guarded | go_step | go_upon | go_back)
                    go_returns
                    exact ⟨by rw [HF.out]; rfl, HUN.trans hua⟩
                  | true =>
                    rw [Bool.true_and] at HQ
                    cases D4 with
                    | false =>
                      have HF := Bx.mk (HFa.out (by rw [HQ.out]))
                      clear HFa HTr HQ
                      repeat' (first | (first
                        | (have _m := hua; (go_at_call 38; (with_reducible refine (HCb.out _ hua).mono ?_); rintro eb wb ⟨rfl, hub⟩; dsimp only))
                        | (go_at_call 38; (with_reducible refine (HCa.out _ hNN).mono ?_); rintro ea wa ⟨rfl, hua⟩; obtain ⟨_, _, _, e3', _⟩ := o4_at (hua.blk HB6.out (fun q => q)); obtain ⟨_, _, _, f3', _⟩ := o4_at (hua.blk HB7.out (fun q => q)); dsimp only)) | go_values | go_skip | go_guarded | go_step | go_upon | go_back)
                      go_returns
                      exact ⟨by rw [HF.out]; rfl, (HUN.trans hua).trans hub⟩
                    | true =>
                      have HT2 := Bx.mk (HTr.out (by rw [HQ.out]))
                      clear HFa HTr HQ
                      repeat' (first | (first
                        | (have _m := hua; (go_at_call 38; (with_reducible refine (HCb.out _ hua).mono ?_); rintro eb wb ⟨rfl, hub⟩; dsimp only))
                        | (go_at_call 38; (with_reducible refine (HCa.out _ hNN).mono ?_); rintro ea wa ⟨rfl, hua⟩; obtain ⟨_, _, _, e3', _⟩ := o4_at (hua.blk HB6.out (fun q => q)); obtain ⟨_, _, _, f3', _⟩ := o4_at (hua.blk HB7.out (fun q => q)); dsimp only)) | go_values | go_skip | go_guarded | go_step | go_upon | go_back)
                      go_roundw
                      case rel => exact ⟨j + 1, by omega, by go_num, HT2, ⟨((HN.out.trans HNx.out).trans hua).trans hub⟩⟩
                      case measure => simp [intOf]; omega
                · have hprb : ((P : Int) != (R : Int)) = true := by rw [bne_iff_ne]; omega
                  have HF := Bx.mk (HFa.out (by rw [HQ.out, decide_eq_false hpr]; rfl))
                  clear hij hpr HFa HTr HQ
                  repeat' (first | fail | go_values | go_skip | go_guarded | go_step | go_upon | go_back)
                  go_returns
                  exact ⟨by rw [HF.out]; rfl, HUN⟩
              · have hijb : ((i1' : Int) != (i2' : Int)) = true := by rw [bne_iff_ne]; omega
                have HF := Bx.mk (HFa.out (by rw [HQ.out, decide_eq_false hij]; rfl))
                clear hij HFa HTr HQ
                repeat' (first | fail | go_values | go_skip | go_guarded | go_step | go_upon | go_back)
                go_returns
                exact ⟨by rw [HF.out]; rfl, HUN⟩
          · obtain rfl : j = h1 := by omega
            have HEq := Bx.mk (eq_of_take D.chg E.chg j HL1.out HL2.out HT.out)
            rw [decide_eq_true HEq.out] at HE
            repeat' (first | fail | go_values | go_skip | go_guarded | go_step | go_upon | go_back)
            go_returns
            exact ⟨by rw [HE.out]; rfl, HU.out.trans HN.out⟩
      · have hlenI : ¬ (h1 : Int) = (m1 : Int) := by omega
        have hlenb : ((h1 : Int) != (m1 : Int)) = true := by rw [bne_iff_ne]; omega
        have HF := Bx.mk (show decide (D.chg = E.chg) = false from decide_eq_false (fun h => hlen (by rw [← HL1.out, ← HL2.out, h])))
        rw [HF.out] at HE
        repeat' (first | (first
          | (go_at_call 37; (with_reducible refine (HC1.out _ hN0).mono ?_); rintro e2 w2 ⟨rfl, hu2⟩; obtain ⟨_, a1', a2', _⟩ := o3_at (hu2.blk HH1.out (fun q => q)); obtain ⟨_, b1', b2', _⟩ := o3_at (hu2.blk HH2.out (fun q => q)); dsimp only)
          | (go_at_call 15; (with_reducible refine (HC2.out _ hu2).mono ?_); rintro e3 w3 ⟨rfl, hu3⟩; have hu3' := hu2.trans hu3; obtain ⟨_, _, a2'', _⟩ := o3_at (hu3'.blk HH1.out (fun q => q)); obtain ⟨_, _, b2'', _⟩ := o3_at (hu3'.blk HH2.out (fun q => q)); dsimp only)) | go_values | go_skip | go_guarded | go_step | go_upon | go_back)
        go_returns
        exact ⟨by rw [HE.out]; rfl, HU.out.trans hu3'⟩
end Go.Proofs.Ytdnkdmdmekdfkaa
