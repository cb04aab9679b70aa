/- The reference's Same of deltas: the walk. -/
import Derived.Test.YtdnkdmdmekdfkaaDf10
import Derived.Deep.RegionHeld3
import Derived.Test.YtdnkdmdmekdfkaaDf15
import Derived.Test.YtdnkdmdmekdfkaaDfP2
namespace Go.Proofs.Ytdnkdmdmekdfkaa
open Go.RowKit
def At4 (w : World) (B o : Nat) (a b c d : Value) : Prop := w.cell? ⟨B, o, none⟩ = some a ∧ w.cell? ⟨B, o + 1, none⟩ = some b ∧ w.cell? ⟨B, o + 2, none⟩ = some c ∧ w.cell? ⟨B, o + 3, none⟩ = some d
theorem At4.new {w w' : World} {B o : Nat} {a b c d : Value} (h : At4 w B o a b c d) (k : New w w') : At4 w' B o a b c d := ⟨k.cell h.1 (fun q => q), k.cell h.2.1 (fun q => q), k.cell h.2.2.1 (fun q => q), k.cell h.2.2.2 (fun q => q)⟩
theorem c10_new {w w' : World} {p0 p1 p2 p3 p4 p5 p6 p7 p8 p9 : Addr} {x0 x1 x2 x3 x4 x5 x6 x7 x8 x9 : Value} (k : New w w') (h : w.cell? p0 = some x0 ∧ w.cell? p1 = some x1 ∧ w.cell? p2 = some x2 ∧ w.cell? p3 = some x3 ∧ w.cell? p4 = some x4 ∧ w.cell? p5 = some x5 ∧ w.cell? p6 = some x6 ∧ w.cell? p7 = some x7 ∧ w.cell? p8 = some x8 ∧ w.cell? p9 = some x9) :
    w'.cell? p0 = some x0 ∧ w'.cell? p1 = some x1 ∧ w'.cell? p2 = some x2 ∧ w'.cell? p3 = some x3 ∧ w'.cell? p4 = some x4 ∧ w'.cell? p5 = some x5 ∧ w'.cell? p6 = some x6 ∧ w'.cell? p7 = some x7 ∧ w'.cell? p8 = some x8 ∧ w'.cell? p9 = some x9 :=
  ⟨k.cell h.1 (fun q => q), k.cell h.2.1 (fun q => q), k.cell h.2.2.1 (fun q => q), k.cell h.2.2.2.1 (fun q => q), k.cell h.2.2.2.2.1 (fun q => q), k.cell h.2.2.2.2.2.1 (fun q => q), k.cell h.2.2.2.2.2.2.1 (fun q => q), k.cell h.2.2.2.2.2.2.2.1 (fun q => q), k.cell h.2.2.2.2.2.2.2.2.1 (fun q => q), k.cell h.2.2.2.2.2.2.2.2.2 (fun q => q)⟩
set_option maxRecDepth 4000 in
set_option maxHeartbeats 16000000 in
theorem refSame_any (g0 : Option Addr) (g1 g2 : Nat) (c0 : Option Addr) (c1 c2 : Nat) (h0 : Option Addr) (h1 h2 : Nat) (D : Dl) (k0 : Option Addr) (k1 k2 : Nat) (l0 : Option Addr) (l1 l2 : Nat) (m0 : Option Addr) (m1 m2 : Nat) (E : Dl) (w : World) (hx : DlR w g0 g1 g2 c0 c1 h0 h1 D) (hy : DlR w k0 k1 k2 l0 l1 m0 m1 E) (hs : SmD D) :
    Calls Try.prog 16 #[.agg #[.slice g0 g1 g2, .slice c0 c1 c2, .slice h0 h1 h2], .agg #[.slice k0 k1 k2, .slice l0 l1 l2, .slice m0 m1 m2]] w fun e w' => e = .returned (.bool (decide (D = E))) ∧ New w w' := by
  have hc1 := heap_alloc_new w (.cells #[.slice g0 g1 g2, .slice c0 c1 c2, .slice h0 h1 h2] 26)
  have U0 := (Upd.refl Nowhere w).alloc (.cells #[.slice g0 g1 g2, .slice c0 c1 c2, .slice h0 h1 h2] 26)
  have hc2 := heap_alloc_new (w.alloc (.cells #[.slice g0 g1 g2, .slice c0 c1 c2, .slice h0 h1 h2] 26)) (.cells #[.slice k0 k1 k2, .slice l0 l1 l2, .slice m0 m1 m2] 26)
  have U1 := (Upd.refl Nowhere (w.alloc (.cells #[.slice g0 g1 g2, .slice c0 c1 c2, .slice h0 h1 h2] 26))).alloc (.cells #[.slice k0 k1 k2, .slice l0 l1 l2, .slice m0 m1 m2] 26)
  rw [show (w.alloc (.cells #[.slice g0 g1 g2, .slice c0 c1 c2, .slice h0 h1 h2] 26)).heap.size = w.heap.size + 1 by simp] at hc2
  have hc1' := U1.blk hc1 (fun q => q)
  have hU := U0.trans U1
  have HE := Bx.mk (dl_eq D E)
  clear U0 U1 hc1
  go_enter Try.func16, Try.ntmps16
  go_upto_region 1 with (fail)
  generalize (w.alloc (.cells #[.slice g0 g1 g2, .slice c0 c1 c2, .slice h0 h1 h2] 26)).alloc (.cells #[.slice k0 k1 k2, .slice l0 l1 l2, .slice m0 m1 m2] 26) = w1 at *
  generalize w.heap.size + 1 = B1 at *
  generalize hB0 : w.heap.size = B0 at *
  have HC1 := Bx.mk (fun w2 (k : New w1 w2) => SameI_any g0 g1 g2 D.gone k0 k1 k2 E.gone w2 (hx.gone.new (hU.trans k)) (hy.gone.new (hU.trans k)) hs.g)
  have HC2 := Bx.mk (fun w2 (k : New w1 w2) => SameEnts_any c0 c1 c2 D.come l0 l1 l2 E.come w2 (hx.come.new (hU.trans k)) (hy.come.new (hU.trans k)) (Nat.le_trans hs.c (by omega)) (fun x hx => (hs.cs x hx).len))
  have HX3 := Bx.mk (hx.chg.new hU)
  have HY3 := Bx.mk (hy.chg.new hU)
  have hN0 : New w1 w1 := Upd.refl _ _
  have HH1 := Bx.mk hc1'
  have HH2 := Bx.mk hc2
  have HU := Bx.mk hU
  obtain ⟨a0, a1, a2, _⟩ := o3_at hc1'
  obtain ⟨b0, b1, b2, _⟩ := o3_at hc2
  have HB0 := Bx.mk hB0
  have HL1 := Bx.mk hx.chg.len
  have HL2 := Bx.mk hy.chg.len
  clear hc1' hc2 hB0 hx hy hU
  generalize hD1 : decide (D.gone = E.gone) = D1 at *
  generalize hD2 : decide (D.come = E.come) = D2 at *
  clear hD1 hD2
  have hh1 : h1 ≤ 1000 := by rw [← HL1.out]; exact hs.h
  cases D1 with
  | false =>
    rw [Bool.false_and] at HE
    repeat' (first | (go_at_call 37; (with_reducible refine (HC1.out _ hN0).mono ?_); rintro e2 w2 ⟨rfl, hu2⟩; dsimp only) | go_values | go_skip | go_guarded | go_step | go_upon | go_back)
    go_returns
    exact ⟨by rw [HE.out]; rfl, HU.out.trans hu2⟩
  | true =>
    rw [Bool.true_and] at HE
    cases D2 with
    | false =>
      rw [Bool.false_and] at HE
      repeat' (first | (first
        | (go_at_call 37; (with_reducible refine (HC1.out _ hN0).mono ?_); rintro e2 w2 ⟨rfl, hu2⟩; obtain ⟨_, a1', a2', _⟩ := o3_at (hu2.blk HH1.out (fun q => q)); obtain ⟨_, b1', b2', _⟩ := o3_at (hu2.blk HH2.out (fun q => q)); dsimp only)
        | (go_at_call 15; (with_reducible refine (HC2.out _ hu2).mono ?_); rintro e3 w3 ⟨rfl, hu3⟩; dsimp only)) | go_values | go_skip | go_guarded | go_step | go_upon | go_back)
      go_returns
      exact ⟨by rw [HE.out]; rfl, (HU.out.trans hu2).trans hu3⟩
    | true =>
      rw [Bool.true_and] at HE
      by_cases hlen : h1 = m1
      · subst hlen
        go_upto_block 0 with (first
          | (go_at_call 37; (with_reducible refine (HC1.out _ hN0).mono ?_); rintro e2 w2 ⟨rfl, hu2⟩; obtain ⟨_, a1', a2', _⟩ := o3_at (hu2.blk HH1.out (fun q => q)); obtain ⟨_, b1', b2', _⟩ := o3_at (hu2.blk HH2.out (fun q => q)); dsimp only)
          | (go_at_call 15; (with_reducible refine (HC2.out _ hu2).mono ?_); rintro e3 w3 ⟨rfl, hu3⟩; have hu3' := hu2.trans hu3; obtain ⟨_, _, a2'', _⟩ := o3_at (hu3'.blk HH1.out (fun q => q)); obtain ⟨_, _, b2'', _⟩ := o3_at (hu3'.blk HH2.out (fun q => q)); dsimp only))
        have HU3 := Bx.mk hu3'
        clear HC1 HC2 a0 a1 a2 b0 b1 b2 a1' a2' b1' b2' hu2 hu3 hu3' hN0
        repeat' (first | fail | go_values | go_skip | go_guarded | go_step | go_upon | go_back)
        go_loopw [34] (fun i wr => ∃ (j : Nat), j ≤ h1 ∧ i = .int .i64 j ∧ Bx (D.chg.take j = E.chg.take j) ∧ Bx (New w1 wr)) (fun i _ => h1 - (intOf i).toNat)
        case atStart => exact ⟨0, by omega, rfl, ⟨rfl⟩, HU3⟩
        case round =>
          clear a2'' b2''
          obtain ⟨j, hj, rfl, HT, HN⟩ := hrel
          by_cases hlt : j < h1
          · have hji : (j : Int) < (h1 : Int) := by omega
            have hjL : j < D.chg.length := by rw [HL1.out]; exact hlt
            have hjM : j < E.chg.length := by rw [HL2.out]; exact hlt
            obtain ⟨b0, o0, s0, s1, s2, t0, t1, t2, rfl, i0, i1, i2, i3, hc0, hc1⟩ := (HX3.out.new HN.out).el j hjL
            obtain ⟨b1, o1, u0, u1, u2, v0, v1, v2, rfl, j0, j1, j2, j3, hc2, hc3⟩ := (HY3.out.new HN.out).el j hjM
            have HS := Bx.mk (take_succ_eq D.chg E.chg j hjL hjM HT.out)
            have HNE := Bx.mk (ne_of_at D.chg E.chg j hjL hjM)
            have hlq := hs.hs D.chg[j] (List.getElem_mem hjL)
            generalize D.chg[j] = q at *
            generalize E.chg[j] = r at *
            obtain ⟨i1', p1, N1, S1⟩ := q
            obtain ⟨i2', p2, N2, S2⟩ := r
            dsimp only at i0 i1 i2 i3 j0 j1 j2 j3 hc0 hc1 hc2 hc3 hlq
            obtain ⟨_, _, a2, _⟩ := o3_at (HN.out.blk HH1.out (fun q => q))
            obtain ⟨_, _, b2, _⟩ := o3_at (HN.out.blk HH2.out (fun q => q))
            have hd : New wr wr.drew := (Upd.refl Nowhere wr).drew
            go_upto_region 6 with (fail)
            generalize hP : p1.toNat = P at *
            generalize hR : p2.toNat = R at *
            have HP := Bx.mk hP
            have HR := Bx.mk hR
            clear hP hR
            have s0' := c10_new (Upd.refl Nowhere wr) ⟨a2, b2, i0, i1, i2, i3, j0, j1, j2, j3⟩
            go_cut [6, 7] (fun v v' wx => ∃ B6 B7, v = .pointer (some ⟨B6, 0, none⟩) ∧ v' = .pointer (some ⟨B7, 0, none⟩) ∧ Bx (wx.heap[B6]? = some (.cells #[.int .u32 i1', .int .u8 P, .slice s0 s1 s2, .slice t0 t1 t2] 57 (0, 0))) ∧ Bx (wx.heap[B7]? = some (.cells #[.int .u32 i2', .int .u8 R, .slice u0 u1 u2, .slice v0 v1 v2] 57 (0, 0))) ∧ Bx (New wr wx))
            case first =>
              go_region_held3 (fun w' => w'.cell? ⟨B0, 2, none⟩ = some (.slice (some ⟨b0, o0, none⟩) h1 h2) ∧ w'.cell? ⟨B1, 2, none⟩ = some (.slice (some ⟨b1, o1, none⟩) h1 m2) ∧ w'.cell? ⟨b0, o0 + j * 4, none⟩ = some (.int .u32 i1') ∧ w'.cell? ⟨b0, o0 + j * 4 + 1, none⟩ = some (.int .u8 P) ∧ w'.cell? ⟨b0, o0 + j * 4 + 2, none⟩ = some (.slice s0 s1 s2) ∧ w'.cell? ⟨b0, o0 + j * 4 + 3, none⟩ = some (.slice t0 t1 t2) ∧ w'.cell? ⟨b1, o1 + j * 4, none⟩ = some (.int .u32 i2') ∧ w'.cell? ⟨b1, o1 + j * 4 + 1, none⟩ = some (.int .u8 R) ∧ w'.cell? ⟨b1, o1 + j * 4 + 2, none⟩ = some (.slice u0 u1 u2) ∧ w'.cell? ⟨b1, o1 + j * 4 + 3, none⟩ = some (.slice v0 v1 v2))
                (exact c10_new (by repeat' (first | exact Upd.refl _ _ | refine Upd.alloc ?_ _ | refine Upd.setCell ?_ (.inr ?_) _ | refine Upd.drew ?_ | (simp; done) | (simp; omega))) s0')
                (fail)
              · repeat' (first | fail | go_values | go_skip | go_guarded | go_step | go_upon | go_back)
                go_meet
                case rel =>
                  refine ⟨_, _, rfl, rfl, ⟨?_⟩, ⟨?_⟩, ⟨(((Upd.refl Nowhere wr).alloc _).alloc _).drew⟩⟩
                  · exact ((Upd.refl Nowhere (wr.alloc (.cells #[.int .u32 i1', .int .u8 P, .slice s0 s1 s2, .slice t0 t1 t2] 57))).alloc _).drew.blk (heap_alloc_new wr _) (fun q => q)
                  · have := heap_alloc_new (wr.alloc (.cells #[.int .u32 i1', .int .u8 P, .slice s0 s1 s2, .slice t0 t1 t2] 57)) (.cells #[.int .u32 i2', .int .u8 R, .slice u0 u1 u2, .slice v0 v1 v2] 57)
                    rw [show (wr.alloc (.cells #[.int .u32 i1', .int .u8 P, .slice s0 s1 s2, .slice t0 t1 t2] 57)).heap.size = wr.heap.size + 1 by simp] at this
                    exact ((Upd.refl Nowhere _).drew).blk this (fun q => q)
              · repeat' (first | fail | go_values | go_skip | go_guarded | go_step | go_upon | go_back)
                go_meet
                case rel =>
                  refine ⟨_, _, rfl, rfl, ⟨?_⟩, ⟨?_⟩, ⟨(((Upd.refl Nowhere wr).alloc _).alloc _).drew⟩⟩
                  · have := heap_alloc_new (wr.alloc (.cells #[.int .u32 i2', .int .u8 R, .slice u0 u1 u2, .slice v0 v1 v2] 57)) (.cells #[.int .u32 i1', .int .u8 P, .slice s0 s1 s2, .slice t0 t1 t2] 57)
                    rw [show (wr.alloc (.cells #[.int .u32 i2', .int .u8 R, .slice u0 u1 u2, .slice v0 v1 v2] 57)).heap.size = wr.heap.size + 1 by simp] at this
                    exact ((Upd.refl Nowhere _).drew).blk this (fun q => q)
                  · exact ((Upd.refl Nowhere (wr.alloc (.cells #[.int .u32 i2', .int .u8 R, .slice u0 u1 u2, .slice v0 v1 v2] 57))).alloc _).drew.blk (heap_alloc_new wr _) (fun q => q)
            case rest =>
              obtain ⟨B6, B7, rfl, rfl, HB6, HB7, HNx⟩ := hcut
              rename World => wx
              obtain ⟨e0, e1, e2, e3, _⟩ := o4_at HB6.out
              obtain ⟨f0, f1, f2, f3, _⟩ := o4_at HB7.out
              have HCa := Bx.mk (fun w2 (k : New wx w2) => SameC_any s0 s1 s2 N1 u0 u1 u2 N2 w2 (hc0.new (HNx.out.trans k)) (hc2.new (HNx.out.trans k)) hlq.1)
              have HCb := Bx.mk (fun w2 (k : New wx w2) => SameC_any t0 t1 t2 S1 v0 v1 v2 S2 w2 (hc1.new (HNx.out.trans k)) (hc3.new (HNx.out.trans k)) hlq.2)
              have hNN : New wx wx := Upd.refl _ _
              have HQ := Bx.mk (show decide ((⟨i1', p1, N1, S1⟩ : Ch) = ⟨i2', p2, N2, S2⟩) = (decide (i1' = i2') && (decide (P = R) && (decide (N1 = N2) && decide (S1 = S2)))) by
                rw [Bool.eq_iff_iff, ← HP.out, ← HR.out]
                simp only [decide_eq_true_eq, Bool.and_eq_true, Ch.mk.injEq, BitVec.toNat_inj])
              have HFa := Bx.mk (fun (hq : decide ((⟨i1', p1, N1, S1⟩ : Ch) = ⟨i2', p2, N2, S2⟩) = false) => show decide (D = E) = false by rw [HE.out]; exact decide_eq_false (HNE.out (of_decide_eq_false hq)))
              have HTr := Bx.mk (fun (hq : decide ((⟨i1', p1, N1, S1⟩ : Ch) = ⟨i2', p2, N2, S2⟩) = true) => HS.out.2 (of_decide_eq_true hq))
              have HUN := HU.out.trans (HN.out.trans HNx.out)
              generalize decide ((⟨i1', p1, N1, S1⟩ : Ch) = ⟨i2', p2, N2, S2⟩) = QQ at *
              clear HS HNE hc0 hc1 hc2 hc3 hd s0' a2 b2 i0 i1 i2 i3 j0 j1 j2 j3
              generalize decide (S1 = S2) = D4 at *
              generalize decide (N1 = N2) = D3 at *
              by_cases hij : i1' = i2'
              · rw [decide_eq_true hij, Bool.true_and] at HQ
                have hijb : ((i1' : Int) != (i2' : Int)) = false := by rw [bne_eq_false_iff_eq]; omega
                by_cases hpr : P = R
                · rw [decide_eq_true hpr, Bool.true_and] at HQ
                  have hprb : ((P : Int) != (R : Int)) = false := by rw [bne_eq_false_iff_eq]; omega
                  clear hij hpr
                  cases D3 with
                  | false =>
                    have HF := Bx.mk (HFa.out (by rw [HQ.out]; rfl))
                    clear HFa HTr HQ
                    repeat' (first | (go_at_call 38; (with_reducible refine (HCa.out _ hNN).mono ?_); rintro ea wa ⟨rfl, hua⟩; dsimp only) | go_values | go_skip | go_guarded | go_step | go_upon | go_back)
                    go_returns
                    exact ⟨by rw [HF.out]; rfl, HUN.trans hua⟩
                  | true =>
                    rw [Bool.true_and] at HQ
                    cases D4 with
                    | false =>
                      have HF := Bx.mk (HFa.out (by rw [HQ.out]))
                      clear HFa HTr HQ
                      repeat' (first | (first
                        | (have _m := hua; (go_at_call 38; (with_reducible refine (HCb.out _ hua).mono ?_); rintro eb wb ⟨rfl, hub⟩; dsimp only))
                        | (go_at_call 38; (with_reducible refine (HCa.out _ hNN).mono ?_); rintro ea wa ⟨rfl, hua⟩; obtain ⟨_, _, _, e3', _⟩ := o4_at (hua.blk HB6.out (fun q => q)); obtain ⟨_, _, _, f3', _⟩ := o4_at (hua.blk HB7.out (fun q => q)); dsimp only)) | go_values | go_skip | go_guarded | go_step | go_upon | go_back)
                      go_returns
                      exact ⟨by rw [HF.out]; rfl, (HUN.trans hua).trans hub⟩
                    | true =>
                      have HT2 := Bx.mk (HTr.out (by rw [HQ.out]))
                      clear HFa HTr HQ
                      repeat' (first | (first
                        | (have _m := hua; (go_at_call 38; (with_reducible refine (HCb.out _ hua).mono ?_); rintro eb wb ⟨rfl, hub⟩; dsimp only))
                        | (go_at_call 38; (with_reducible refine (HCa.out _ hNN).mono ?_); rintro ea wa ⟨rfl, hua⟩; obtain ⟨_, _, _, e3', _⟩ := o4_at (hua.blk HB6.out (fun q => q)); obtain ⟨_, _, _, f3', _⟩ := o4_at (hua.blk HB7.out (fun q => q)); dsimp only)) | go_values | go_skip | go_guarded | go_step | go_upon | go_back)
                      go_roundw
                      case rel => exact ⟨j + 1, by omega, by go_num, HT2, ⟨((HN.out.trans HNx.out).trans hua).trans hub⟩⟩
                      case measure => simp [intOf]; omega
                · have hprb : ((P : Int) != (R : Int)) = true := by rw [bne_iff_ne]; omega
                  have HF := Bx.mk (HFa.out (by rw [HQ.out, decide_eq_false hpr]; rfl))
                  clear hij hpr HFa HTr HQ
                  repeat' (first | fail | go_values | go_skip | go_guarded | go_step | go_upon | go_back)
                  go_returns
                  exact ⟨by rw [HF.out]; rfl, HUN⟩
              · have hijb : ((i1' : Int) != (i2' : Int)) = true := by rw [bne_iff_ne]; omega
                have HF := Bx.mk (HFa.out (by rw [HQ.out, decide_eq_false hij]; rfl))
                clear hij HFa HTr HQ
                repeat' (first | fail | go_values | go_skip | go_guarded | go_step | go_upon | go_back)
                go_returns
                exact ⟨by rw [HF.out]; rfl, HUN⟩
          · obtain rfl : j = h1 := by omega
            have HEq := Bx.mk (eq_of_take D.chg E.chg j HL1.out HL2.out HT.out)
            rw [decide_eq_true HEq.out] at HE
            repeat' (first | fail | go_values | go_skip | go_guarded | go_step | go_upon | go_back)
            go_returns
            exact ⟨by rw [HE.out]; rfl, HU.out.trans HN.out⟩
      · have hlenI : ¬ (h1 : Int) = (m1 : Int) := by omega
        have hlenb : ((h1 : Int) != (m1 : Int)) = true := by rw [bne_iff_ne]; omega
        have HF := Bx.mk (show decide (D.chg = E.chg) = false from decide_eq_false (fun h => hlen (by rw [← HL1.out, ← HL2.out, h])))
        rw [HF.out] at HE
        repeat' (first | (first
          | (go_at_call 37; (with_reducible refine (HC1.out _ hN0).mono ?_); rintro e2 w2 ⟨rfl, hu2⟩; obtain ⟨_, a1', a2', _⟩ := o3_at (hu2.blk HH1.out (fun q => q)); obtain ⟨_, b1', b2', _⟩ := o3_at (hu2.blk HH2.out (fun q => q)); dsimp only)
          | (go_at_call 15; (with_reducible refine (HC2.out _ hu2).mono ?_); rintro e3 w3 ⟨rfl, hu3⟩; have hu3' := hu2.trans hu3; obtain ⟨_, _, a2'', _⟩ := o3_at (hu3'.blk HH1.out (fun q => q)); obtain ⟨_, _, b2'', _⟩ := o3_at (hu3'.blk HH2.out (fun q => q)); dsimp only)) | go_values | go_skip | go_guarded | go_step | go_upon | go_back)
        go_returns
        exact ⟨by rw [HE.out]; rfl, HU.out.trans hu3'⟩
end Go.Proofs.Ytdnkdmdmekdfkaa
namespace Go.Proofs.Ytdnkdmdmekdfkaa
open Go.RowKit
def aw1 : List Et := [(1024, [⟨2, 5, 0, 0⟩]), (1025, [])]
def aw2 : List Et := [(1025, [⟨4, 0, 0, 0⟩]), (1026, [])]
def awD : Dl := ⟨[1024], [(1026, [])], [⟨1025, 0#8, [⟨4, 0, 0, 0⟩], []⟩]⟩
theorem aw_frm1 : frm 0 aw1 = 0 := by decide
theorem aw_frm2 : frm 0 aw2 = 0 := by decide
theorem aw_mrg : mrg aw1 aw2 = awD := by
  unfold aw1 aw2
  rw [mrg, if_pos (by decide), mrg, if_neg (by decide), if_neg (by decide)]
  rw [if_neg (by decide), mrg, mrg]
  rfl
theorem aw_diffE : diffE aw1 aw2 = 0 := by unfold diffE; rw [if_neg (by rw [aw_frm1]; simp)]; exact aw_frm2
theorem aw_diffD : diffD aw1 aw2 = awD := by unfold diffD; rw [if_pos aw_diffE]; exact aw_mrg
theorem EnL.mk1 {w : World} {b : Nat} {es : List E4} {L : List Et} {n : Nat} (h : w.heap[b]? = some (.cells (ec es).toArray 43 (0, 0))) (hl : es.length = n) (ha : Al (Co w) es L) : EnL w (some ⟨b, 0, none⟩) n L :=
  ⟨by rw [← ha.len]; exact hl, (fun q => by cases q), es, .inr ⟨b, 0, rfl, fun i u hi => by rw [World.cell?, h]; simpa using hi⟩, ha⟩
theorem Co.mk1 {w : World} {b n c : Nat} {l : List C4} (h : w.heap[b]? = some (.cells (ccells l).toArray 46 (0, 0))) (hl : l.length = n) : Co w (some ⟨b, 0, none⟩, n, c) l :=
  ⟨hl, (fun q => by cases q), .inr ⟨b, 0, rfl, fun i u hi => by rw [World.cell?, h]; simpa using hi⟩⟩
theorem Go_.mk1 {w : World} {b n c : Nat} {l : List Nat} (h : w.heap[b]? = some (.cells (u32s l).toArray 40 (0, 0))) (hl : l.length = n) : Go_ w (some ⟨b, 0, none⟩, n, c) l :=
  ⟨hl, (fun q => by cases q), .inr ⟨b, 0, rfl, fun i u hi => by rw [World.cell?, h]; simpa using hi⟩⟩
theorem ChL.mk1 {w : World} {b : Nat} {es : List H4} {L : List Ch} {n : Nat} (h : w.heap[b]? = some (.cells (hc es).toArray 57 (0, 0))) (hl : es.length = n) (ha : Ah (Co w) es L) : ChL w (some ⟨b, 0, none⟩) n L :=
  ⟨by rw [← ha.len]; exact hl, (fun q => by cases q), es, .inr ⟨b, 0, rfl, fun i u hi => by rw [World.cell?, h]; simpa using hi⟩, ha⟩
theorem Sm_aw1 : Sm aw1 := fun x hx => by
  unfold aw1 at hx
  simp at hx
  rcases hx with rfl | rfl
  · exact ⟨by decide, by decide, by decide⟩
  · exact ⟨by decide, by decide, by decide⟩
theorem Sm_aw2 : Sm aw2 := fun x hx => by
  unfold aw2 at hx
  simp at hx
  rcases hx with rfl | rfl
  · exact ⟨by decide, by decide, by decide⟩
  · exact ⟨by decide, by decide, by decide⟩
theorem heapA (w : World) (o : Obj) (B : Nat) (hB : w.heap.size = B) : (w.alloc o).heap[B]? = some o := by rw [← hB]; exact heap_alloc_new w o
theorem newA (w : World) (o : Obj) : New w (w.alloc o) := (Upd.refl _ w).alloc o
theorem Patch_aw (g0 : Option Addr) (g2 : Nat) (c0 : Option Addr) (c2 : Nat) (h0 : Option Addr) (h2 : Nat) (w : World) (hd : DlR w g0 1 g2 c0 0 h0 0 ⟨[1024], [], []⟩) :
    Calls Try.prog 13 #[.slice none 0 0, .agg #[.slice g0 1 g2, .slice c0 0 c2, .slice h0 0 h2]] w fun e w' => e = .returned (.tuple #[.slice none 0 0, .int .i64 4]) ∧ New w w' := by
  refine (Patch_any none 0 0 [] g0 1 g2 c0 0 c2 h0 0 h2 ⟨[1024], [], []⟩ w (EnL.zero w) hd ⟨by simp, (fun x h => by cases h), (fun x h => by cases h), (fun x h => by cases h), by simp, by simp, (fun x h => by cases h), by simp, (fun x h => by cases h)⟩ rfl).mono ?_
  rintro e w' ⟨⟨N, _, h⟩, hu⟩
  rcases h with ⟨t, _, _, _, h4⟩ | ⟨h1, _⟩
  · have := (mrg_small [] N).1
    rw [h4] at this
    simp at this
  · exact ⟨h1, hu⟩
set_option maxRecDepth 4000 in
set_option maxHeartbeats 8000000 in
theorem awake19_any (w : World) : Calls Try.prog 8 #[] w fun e w' => e = .returned (.bool true) ∧ New w w' := by
  obtain ⟨B, hB⟩ : ∃ B, w.heap.size = B := ⟨_, rfl⟩
  have q1 := heapA w (.cells #[.int .u8 4, .int .i32 0, .int .i32 0, .int .i32 0] 46) B hB
  have s1 : (w.alloc (.cells #[.int .u8 4, .int .i32 0, .int .i32 0, .int .i32 0] 46)).heap.size = B + 1 := by simp [hB]
  have n1 := newA w (.cells #[.int .u8 4, .int .i32 0, .int .i32 0, .int .i32 0] 46)
  go_enter Try.func8, Try.ntmps8
  go_upto_region 3 with (fail)
  have HB := Bx.mk hB
  clear hB
  generalize w.alloc (.cells #[.int .u8 4, .int .i32 0, .int .i32 0, .int .i32 0] 46) = w1 at *
  have q2 := heapA w1 (.cells #[.int .u8 2, .int .i32 5, .int .i32 0, .int .i32 0] 46) _ s1
  have s2 : (w1.alloc (.cells #[.int .u8 2, .int .i32 5, .int .i32 0, .int .i32 0] 46)).heap.size = B + 1 + 1 := by simp [s1]
  have n2 := newA w1 (.cells #[.int .u8 2, .int .i32 5, .int .i32 0, .int .i32 0] 46)
  have p1 := n2.blk q1 (fun q => q)
  generalize w1.alloc (.cells #[.int .u8 2, .int .i32 5, .int .i32 0, .int .i32 0] 46) = w2 at *
  have q3 := heapA w2 (.cells #[.int .u32 1024, .slice (some ⟨B + 1, 0, none⟩) 1 1, .int .u32 1025, .slice none 0 0] 43) _ s2
  have s3 : (w2.alloc (.cells #[.int .u32 1024, .slice (some ⟨B + 1, 0, none⟩) 1 1, .int .u32 1025, .slice none 0 0] 43)).heap.size = B + 1 + 1 + 1 := by simp [s2]
  have n3 := newA w2 (.cells #[.int .u32 1024, .slice (some ⟨B + 1, 0, none⟩) 1 1, .int .u32 1025, .slice none 0 0] 43)
  have p1' := n3.blk p1 (fun q => q)
  have p2 := n3.blk q2 (fun q => q)
  generalize w2.alloc (.cells #[.int .u32 1024, .slice (some ⟨B + 1, 0, none⟩) 1 1, .int .u32 1025, .slice none 0 0] 43) = w3 at *
  have q4 := heapA w3 (.cells #[.int .u32 1025, .slice (some ⟨B, 0, none⟩) 1 1, .int .u32 1026, .slice none 0 0] 43) _ s3
  have n4 := newA w3 (.cells #[.int .u32 1025, .slice (some ⟨B, 0, none⟩) 1 1, .int .u32 1026, .slice none 0 0] 43)
  have hco4 : Co (w3.alloc (.cells #[.int .u32 1025, .slice (some ⟨B, 0, none⟩) 1 1, .int .u32 1026, .slice none 0 0] 43)) (some ⟨B, 0, none⟩, 1, 1) [⟨4, 0, 0, 0⟩] := Co.mk1 (n4.blk p1' (fun q => q)) rfl
  have he1 : EnL (w3.alloc (.cells #[.int .u32 1025, .slice (some ⟨B, 0, none⟩) 1 1, .int .u32 1026, .slice none 0 0] 43)) (some ⟨B + 1 + 1, 0, none⟩) 2 aw1 :=
    EnL.mk1 (es := [(1024, some ⟨B + 1, 0, none⟩, 1, 1), (1025, none, 0, 0)]) (n4.blk q3 (fun q => q)) rfl ⟨⟨rfl, Co.mk1 (n4.blk p2 (fun q => q)) rfl⟩, ⟨rfl, Co.zero _ _⟩, trivial⟩
  have he2 : EnL (w3.alloc (.cells #[.int .u32 1025, .slice (some ⟨B, 0, none⟩) 1 1, .int .u32 1026, .slice none 0 0] 43)) (some ⟨B + 1 + 1 + 1, 0, none⟩) 2 aw2 :=
    EnL.mk1 (es := [(1025, some ⟨B, 0, none⟩, 1, 1), (1026, none, 0, 0)]) q4 rfl ⟨⟨rfl, hco4⟩, ⟨rfl, Co.zero _ _⟩, trivial⟩
  have HDI := Bx.mk (Diff_any _ 2 2 aw1 _ 2 2 aw2 _ he1 he2 (by omega) (by omega) Sm_aw1 Sm_aw2)
  rw [aw_diffE, aw_diffD] at HDI
  have hN4 := ((n1.trans n2).trans n3).trans n4
  have HCO := Bx.mk hco4
  have s3' := Bx.mk s3
  clear p1 p2 p1' q1 q2 q3 q4 n1 n2 n3 he1 he2 hco4 s1 s2
  generalize B + 1 + 1 + 1 = B3 at *
  generalize B + 1 + 1 = B2 at *
  generalize B + 1 = B1 at *
  go_upto_region 4 with (first
    | (go_at_call 18; (with_reducible refine (HDI.out).mono ?_); rintro e5 w5 ⟨⟨gg, cc, hh, rfl, hdn⟩, hu5⟩; obtain ⟨a0, a2, b0, b2, f0, f2, rfl, rfl, rfl, hdr⟩ := hdn.r; dsimp only))
  have h5 := heap_alloc_new w5 (.cells #[.slice a0 awD.gone.length a2, .slice b0 awD.come.length b2, .slice f0 awD.chg.length f2] 26)
  have n5 := newA w5 (.cells #[.slice a0 awD.gone.length a2, .slice b0 awD.come.length b2, .slice f0 awD.chg.length f2] 26)
  have HN5 := Bx.mk ((hN4.trans hu5).trans n5)
  have HDR := Bx.mk (hdr.new n5)
  have HC5 := Bx.mk (HCO.out.new (hu5.trans n5))
  clear hdn hdr
  generalize hga : awD.gone.length = ga at *
  generalize hgb : awD.come.length = gb at *
  generalize hgc : awD.chg.length = gc at *
  clear hga hgb hgc
  generalize w5.alloc (.cells #[.slice a0 ga a2, .slice b0 gb b2, .slice f0 gc f2] 26) = w6 at *
  generalize w5.heap.size = B5 at *
  have n6 := newA w6 (.cells #[.int .u32 1024] 40)
  have hgo6 : Go_ (w6.alloc (.cells #[.int .u32 1024] 40)) (some ⟨w6.heap.size, 0, none⟩, 1, 1) [1024] := Go_.mk1 (heap_alloc_new w6 _) rfl
  have HPA := Bx.mk (Patch_aw _ 1 none 0 none 0 _ ⟨hgo6, EnL.zero _, ChL.zero _⟩)
  clear hgo6
  go_upto_region 5 with (first
    | (go_at_call 13; (with_reducible refine (HPA.out).mono ?_); rintro e7 w7 ⟨rfl, hu7⟩; dsimp only))
  have HN7 := Bx.mk ((HN5.out.trans n6).trans hu7)
  have h7 := (n6.trans hu7).blk h5 (fun q => q)
  have HDR7 := Bx.mk (HDR.out.new (n6.trans hu7))
  have HC7 := Bx.mk (HC5.out.new (n6.trans hu7))
  obtain ⟨d0, d1, d2, _⟩ := o3_at h7
  clear n6 hu7 h5 h7 n5
  have n8 := newA w7 (.cells #[.int .u32 1024] 40)
  have q8 := heap_alloc_new w7 (.cells #[.int .u32 1024] 40)
  have s8 : (w7.alloc (.cells #[.int .u32 1024] 40)).heap.size = w7.heap.size + 1 := by simp
  have n9 := newA (w7.alloc (.cells #[.int .u32 1024] 40)) (.cells #[.int .u32 1026, .slice none 0 0] 43)
  have q9 := heapA (w7.alloc (.cells #[.int .u32 1024] 40)) (.cells #[.int .u32 1026, .slice none 0 0] 43) _ s8
  have s9 : ((w7.alloc (.cells #[.int .u32 1024] 40)).alloc (.cells #[.int .u32 1026, .slice none 0 0] 43)).heap.size = w7.heap.size + 1 + 1 := by simp
  have n10 := newA ((w7.alloc (.cells #[.int .u32 1024] 40)).alloc (.cells #[.int .u32 1026, .slice none 0 0] 43)) (.cells #[.int .u32 1025, .int .u8 0, .slice (some ⟨B, 0, none⟩) 1 1, .slice none 0 0] 57)
  have q10 := heapA ((w7.alloc (.cells #[.int .u32 1024] 40)).alloc (.cells #[.int .u32 1026, .slice none 0 0] 43)) (.cells #[.int .u32 1025, .int .u8 0, .slice (some ⟨B, 0, none⟩) 1 1, .slice none 0 0] 57) _ s9
  have hN10 := (n8.trans n9).trans n10
  have HSA := Bx.mk (refSame_any a0 ga a2 b0 gb b2 f0 gc f2 awD (some ⟨w7.heap.size, 0, none⟩) 1 1 (some ⟨w7.heap.size + 1, 0, none⟩) 1 1 (some ⟨w7.heap.size + 1 + 1, 0, none⟩) 1 1 awD _ (HDR7.out.new hN10)
    ⟨Go_.mk1 ((n9.trans n10).blk q8 (fun q => q)) rfl, EnL.mk1 (es := [(1026, none, 0, 0)]) (n10.blk q9 (fun q => q)) rfl ⟨⟨rfl, Co.zero _ _⟩, trivial⟩, ChL.mk1 (es := [(1025, 0, (some ⟨B, 0, none⟩, 1, 1), (none, 0, 0))]) q10 rfl ⟨⟨rfl, rfl, HC7.out.new hN10, Co.zero _ _⟩, trivial⟩⟩
    (by rw [← aw_mrg]; exact mrg_smD (by decide) (by decide) Sm_aw2))
  rw [decide_eq_true rfl] at HSA
  clear n8 n9 n10 q8 q9 q10 s8 s9
  repeat' (first | (go_at_call 16; (with_reducible refine (HSA.out).mono ?_); rintro e11 w11 ⟨rfl, hu11⟩; dsimp only) | go_values | go_skip | go_guarded | go_step | go_upon | go_back)
  go_returns
  exact ⟨rfl, (HN7.out.trans hN10).trans hu11⟩
end Go.Proofs.Ytdnkdmdmekdfkaa
