/- ViewWider: the law, walked. -/
import Derived.Test.YtohflgpkimnodaaVzL1
namespace Go.Proofs.Ytohflgpkimnodaa
open Go.RowKit
/-- of a list the part that is in another one, step by step -/
theorem sub_step (xa xb : List Nat) (p : Nat → Bool) (h : xb.filter p = xa) (j : Nat) (hj : j < xb.length) (k : Nat) (hk : ((xb.take j).filter p).length = k) :
    (p xb[j] = true → k < xa.length ∧ xa.getD k 0 = xb[j] ∧ ((xb.take (j + 1)).filter p).length = k + 1) ∧ (p xb[j] = false → ((xb.take (j + 1)).filter p).length = k ∧ (k < xa.length → xa.getD k 0 ≠ xb[j])) := by
  have e1 : xb.take (j + 1) = xb.take j ++ [xb[j]] := List.take_succ_eq_append_getElem hj
  have e2 : xb = xb.take j ++ xb[j] :: xb.drop (j + 1) := by rw [← List.drop_eq_getElem_cons hj, List.take_append_drop]
  have e3 : xa = (xb.take j).filter p ++ (xb[j] :: xb.drop (j + 1)).filter p := by
    rw [← List.filter_append, ← e2, h]
  constructor
  · intro hp
    rw [List.filter_cons, if_pos hp] at e3
    refine ⟨?_, ?_, ?_⟩
    · rw [e3]; simp; omega
    · rw [e3, List.getD_eq_getElem?_getD, List.getElem?_append_right (by omega), hk, Nat.sub_self]; rfl
    · rw [e1, List.filter_append]; simp [hp, hk]
  · intro hp
    refine ⟨by rw [e1, List.filter_append]; simp [hp, hk], fun hkl q => ?_⟩
    have hm : xa.getD k 0 ∈ xa := by
      rw [List.getD_eq_getElem?_getD, List.getElem?_eq_getElem hkl, Option.getD_some]
      exact List.getElem_mem hkl
    have : p (xa.getD k 0) = true := by
      have hm2 := hm
      rw [← h] at hm2
      have := (List.mem_filter.1 hm2).2
      rw [h] at this
      exact this
    rw [q, hp] at this
    cases this
theorem seen_wider {on : Bool} {cx cy rr R2 : Int} (hok : Vi.ok ⟨on, cx, cy, rr⟩ = true) (h1 : rr ≤ R2) (h2 : R2 ≤ 8) (s : Int × Int) (h : seen ⟨on, cx, cy, rr⟩ s = true) : seen ⟨on, cx, cy, R2⟩ s = true := by
  have hb := ok_bounds hok
  dsimp only at hb
  unfold seen Vi.has Vi.opened at h ⊢
  rw [hok] at h
  have hok2 : Vi.ok ⟨on, cx, cy, R2⟩ = true := by unfold Vi.ok; simp only [decide_eq_true_eq]; omega
  rw [hok2]
  simp only [Bool.and_true, Bool.and_eq_true, decide_eq_true_eq] at h ⊢
  exact ⟨h.1, by omega, by omega⟩
theorem seen_not {r : Vi.Reg} (h : Vi.ok r = false) (L : List SpQ) : selL (seen r) L = [] := by
  unfold selL
  rw [List.filter_eq_nil_iff.2, List.map_nil]
  intro q hq
  unfold seen Vi.has Vi.opened
  rw [h]; simp
theorem sel_filter {M : Nat → Option (Int × Int)} {L : List SpQ} (R : Rel M L) (p p' : Int × Int → Bool) (h : ∀ s, p s = true → p' s = true) : (selL p' L).filter (fun i => decide (i ∈ selL p L)) = selL p L := by
  have h1 : ((selL p' L).filter (fun i => decide (i ∈ selL p L))).Pairwise (· < ·) := (R.sel_srt p').filter _
  have h2 := R.sel_srt p
  have nd : ∀ {x : List Nat}, x.Pairwise (· < ·) → x.Nodup := fun q => q.imp fun {a b} q => Nat.ne_of_lt q
  have hp := (List.perm_ext_iff_of_nodup (nd h1) (nd h2)).2 fun a => by
    rw [List.mem_filter, decide_eq_true_iff]
    constructor
    · exact fun q => q.2
    · intro q
      refine ⟨?_, q⟩
      obtain ⟨s, hs, hps⟩ := (R.mem_sel p a).1 q
      exact (R.mem_sel p' a).2 ⟨s, hs, h s hps⟩
  exact List.Perm.eq_of_pairwise (fun a b _ _ h1 h2 => absurd (Nat.lt_trans h1 h2) (Nat.lt_irrefl _)) h1 h2 hp
set_option maxRecDepth 20000 in
set_option maxHeartbeats 16000000 in
theorem ViewWider_any (A : Option Addr) (n c : Nat) (l : List SpQ) (w : World) (hn : l.length = n) (hsz : n ≤ 9223372036854775807) (hr : Rd w A (spots l)) (hok : ∀ q ∈ l, spOk q) (r : Vi.Reg) (hrI : inI64 r.r) (more : Nat) (hmore : more < 256) :
    Calls Try.prog 6 #[.slice A n c, regV r, .int .u8 more] w fun e w' => e = .returned (.bool true) ∧ New w w' := by
  have CA := Bx.mk (fun w => awake_any w)
  have CN := Bx.mk (fun {w' : World} (u : New w w') => newG w.heap.size w' u.size)
  have HN := Bx.mk hn
  have HR := Bx.mk hr
  have HO := Bx.mk hok
  have HO2 := Bx.mk (fun q hq => (hok q hq).1)
  have AL : New w (w.alloc (.cells (regC r) 23)) := (Upd.refl _ _).alloc _
  have HB0 : (w.alloc (.cells (regC r) 23)).heap[w.heap.size]? = some (.cells (regC r) 23 (0, 0)) := heap_alloc_new _ _
  have BAL := Bx.mk AL
  have BHB := Bx.mk HB0
  clear hn hr hok AL HB0
  unfold regV regC at *
  obtain ⟨on, cx, cy, rr⟩ := r
  dsimp only at *
  have CK := Bx.mk (fun w => show Calls Try.prog 11 #[.agg #[.bool on, .int .i64 cx, .int .i64 cy, .int .i64 rr]] w _ from vCheck_any ⟨on, cx, cy, rr⟩ w)
  go_enter Try.func6, Try.ntmps6
  repeat' (first | (first | (go_at_call 8; (with_reducible refine (CA.out _).mono ?_); rintro e w1 ⟨rfl, U1⟩; dsimp only) | (have _m := U1; (go_at_call 17; (with_reducible refine (CN.out (BAL.out.trans U1)).mono ?_); rintro e w2 ⟨g, rfl, G2, V2, hg⟩; dsimp only))) | go_values | go_skip | go_guarded | go_step | go_upon | go_back)
  have U2 := Bx.mk ((BAL.out.trans U1).trans V2)
  have G2' := Bx.mk G2
  have HB2 := Bx.mk ((U1.trans V2).blk BHB.out (fun q => q))
  clear U1 V2 G2 _m CN CA BAL BHB
  go_loopw [21] (fun iv wr => ∃ (j : Nat), iv = .int .i64 j ∧ j ≤ n ∧ Bx (GR w.heap.size wr g (runS (l.take (min j 60)) M0)) ∧ Bx (wr.heap[w.heap.size]? = some (.cells #[.bool on, .int .i64 cx, .int .i64 cy, .int .i64 rr] 23 (0, 0))) ∧ Bx (New w wr)) (fun iv _ => n - (intOf iv).toNat)
  case atStart => exact ⟨0, rfl, Nat.zero_le _, by simpa [runS] using G2', HB2, U2⟩
  case round =>
    clear G2' U2 HB2
    obtain ⟨j, rfl, hj, HG, HB, HU⟩ := hrel
    by_cases hlt : j < n
    · have hltI : (j : Int) < (n : Int) := by omega
      have hjL : j < l.length := by rw [HN.out]; exact hlt
      obtain ⟨b, o, rfl, e0, e1, e2⟩ := sp_at (HR.out.new HU.out) j hjL
      have hq := HO.out l[j] (List.getElem_mem hjL)
      have B0 := box_at' wr #[.int .u32 l[j].1, .int .i32 l[j].2.1, .int .i32 l[j].2.2] 40 0 _ rfl
      have B1 := box_at' wr #[.int .u32 l[j].1, .int .i32 l[j].2.1, .int .i32 l[j].2.2] 40 1 _ rfl
      have B2 := box_at' wr #[.int .u32 l[j].1, .int .i32 l[j].2.1, .int .i32 l[j].2.2] 40 2 _ rfl
      have AL2 := (Upd.refl Nowhere wr).alloc (.cells #[.int .u32 l[j].1, .int .i32 l[j].2.1, .int .i32 l[j].2.2] 40)
      have BAL2 := Bx.mk AL2
      by_cases h60 : j < 60
      · have h60I : (j : Int) < 60 := by omega
        have HM := Bx.mk (show runS (l.take (min (j + 1) 60)) M0 = putM (runS (l.take (min j 60)) M0) l[j].1 l[j].2.1 l[j].2.2 by rw [take_min_stp l j 60 hjL h60, runS_snoc])
        obtain ⟨RR, hlen⟩ := run60 l HO2.out j
        have G3 := HG.out.new AL2
        generalize runS (l.take (min j 60)) M0 = M at *
        generalize l[j] = q at *
        obtain ⟨i0, x0, y0⟩ := q
        dsimp only at *
        obtain ⟨q1, q2, q3⟩ := hq
        have CP := Bx.mk (putG G3 (RR.few.mono hlen) (by omega) i0 i0 rfl q1 x0 y0 q2 q3 _ rfl)
        obtain ⟨E, hE⟩ : ∃ E, putE i0 x0 y0 = E := ⟨_, rfl⟩
        rw [hE] at CP
        clear hE q1 q2 q3 RR hlen G3 AL2
        repeat' (first | (go_at_call 18; (with_reducible refine (CP.out).mono ?_); rintro e w3 ⟨rfl, V3, G3⟩; dsimp only) | go_values | go_skip | go_guarded | go_step | go_upon | go_back)
        go_roundw
        case rel => exact ⟨j + 1, by go_num, by omega, ⟨by rw [HM.out]; exact G3⟩, ⟨V3.blk (BAL2.out.blk HB.out (fun q => q))⟩, ⟨GUpd.now (HU.out.trans BAL2.out) V3⟩⟩
        case measure => simp [intOf]; omega
      · have h60I : ¬ (j : Int) < 60 := by omega
        have HM := Bx.mk (show l.take (min (j + 1) 60) = l.take (min j 60) by rw [take_min_sam l j 60 (by omega)])
        generalize l[j] = q at *
        obtain ⟨i0, x0, y0⟩ := q
        dsimp only at *
        repeat' (first | fail | go_values | go_skip | go_guarded | go_step | go_upon | go_back)
        go_roundw
        case rel => exact ⟨j + 1, by go_num, by omega, ⟨by rw [HM.out]; exact HG.out.new BAL2.out⟩, ⟨BAL2.out.blk HB.out (fun q => q)⟩, ⟨HU.out.trans BAL2.out⟩⟩
        case measure => simp [intOf]; omega
    · have hltI : ¬ (j : Int) < (n : Int) := by omega
      obtain ⟨RR, hlen⟩ := run60 l HO2.out j
      generalize runS (l.take (min j 60)) M0 = M at *
      generalize runL (l.take (min j 60)) [] = L at *
      have s0 := reg_cells (r := ⟨on, cx, cy, rr⟩) HB.out
      dsimp only at s0
      obtain ⟨c0, c1, c2, c3⟩ := s0
      cases hk : Vi.ok ⟨on, cx, cy, rr⟩ with
      | false =>
        rw [hk] at CK
        have hx := seen_not hk L
        have CV := Bx.mk (fun {w' : World} (h : GR w.heap.size w' g M) => visible_any h RR (by omega) ⟨on, cx, cy, rr⟩ [] hx 0 rfl)
        unfold regV at CV
        dsimp only at CV
        have BHB := Bx.mk HB.out
        clear hx hk RR hlen HR HN HO HO2
        repeat' (first | (first
          | ((go_at_call 11; (with_reducible refine (CK.out _).mono ?_); rintro e w3 ⟨rfl, V3⟩; have s3 := reg_cells (r := ⟨on, cx, cy, rr⟩) (V3.blk BHB.out (fun q => q)); dsimp only at s3; obtain ⟨f0, f1, f2, f3⟩ := s3; dsimp only))
          | (have _m := V3; (go_at_call 21; (with_reducible refine (CV.out (HG.out.new V3)).mono ?_); rintro e w4 ⟨A4, c4, rfl, _, R4, _, V4⟩; dsimp only))) | go_values | go_skip | go_guarded | go_step | go_upon | go_back)
        go_returns
        exact ⟨rfl, (HU.out.trans V3).trans V4⟩
      | true =>
        rw [hk] at CK
        have hb := ok_bounds hk
        dsimp only at hb
        obtain ⟨R2, hR2⟩ : ∃ R2, min (rr + (more : Int)) 8 = R2 := ⟨_, rfl⟩
        have hsub := fun s => seen_wider (R2 := R2) hk (by omega) (by omega) s
        obtain ⟨xa, hxa⟩ : ∃ xs, selL (seen ⟨on, cx, cy, rr⟩) L = xs := ⟨_, rfl⟩
        obtain ⟨xb, hxb⟩ : ∃ xs, selL (seen ⟨on, cx, cy, R2⟩) L = xs := ⟨_, rfl⟩
        have hfil := sel_filter RR _ _ hsub
        rw [hxa, hxb] at hfil
        obtain ⟨na, hna⟩ : ∃ n, xa.length = n := ⟨_, rfl⟩
        obtain ⟨nb, hnb⟩ : ∃ n, xb.length = n := ⟨_, rfl⟩
        have hna60 : na ≤ 60 := by rw [← hna, ← hxa]; exact Nat.le_trans (sel_len _ L) hlen
        have hnb60 : nb ≤ 60 := by rw [← hnb, ← hxb]; exact Nat.le_trans (sel_len _ L) hlen
        have CV1 := Bx.mk (fun {w' : World} (h : GR w.heap.size w' g M) => visible_any h RR (by omega) ⟨on, cx, cy, rr⟩ xa hxa na hna)
        have CV2 := Bx.mk (fun {w' : World} (h : GR w.heap.size w' g M) => visible_any h RR (by omega) ⟨on, cx, cy, R2⟩ xb hxb nb hnb)
        unfold regV at CV1 CV2
        dsimp only at CV1 CV2
        have HF := Bx.mk hfil
        have HNA := Bx.mk hna
        have HNB := Bx.mk hnb
        have HR2 := Bx.mk hR2
        have BHB := Bx.mk HB.out
        have wadd : IntKind.i64.wrap (rr + (more : Int)) = rr + (more : Int) := by rw [IntKind.wrap_i64]; omega
        have wmr : IntKind.i64.wrap (more : Int) = (more : Int) := by rw [IntKind.wrap_i64]; omega
        clear hxa hxb hna hnb hfil hsub hk RR hlen HR HN HO HO2 hb hR2
        repeat' (first | (first
          | ((go_at_call 11; (with_reducible refine (CK.out _).mono ?_); rintro e w3 ⟨rfl, V3⟩; have s3 := reg_cells (r := ⟨on, cx, cy, rr⟩) (V3.blk BHB.out (fun q => q)); dsimp only at s3; obtain ⟨f0, f1, f2, f3⟩ := s3; have g3 := box_at' w3 #[.bool on, .int .i64 cx, .int .i64 cy, .int .i64 rr] 23 3 _ rfl; have h3 := ((Upd.refl Nowhere w3).alloc (.cells #[.bool on, .int .i64 cx, .int .i64 cy, .int .i64 rr] 23)).cell f3 (fun q => q); dsimp only))
          | ((with_reducible refine at_wpList ?_); refine wpList_min rfl _ _ _ _ rfl _ _ _ _ _ HR2.out rfl rfl ?_)) | go_values | go_skip | go_guarded | go_step | go_upon | go_back)
        have hbc : ∀ (w' : World), w'.heap[w3.heap.size]? = some (.cells #[.bool on, .int .i64 cx, .int .i64 cy, .int .i64 R2] 23 (0, 0)) → w'.cell? ⟨w3.heap.size, 0, none⟩ = some (.bool on) ∧ w'.cell? ⟨w3.heap.size, 1, none⟩ = some (.int .i64 cx) ∧ w'.cell? ⟨w3.heap.size, 2, none⟩ = some (.int .i64 cy) ∧ w'.cell? ⟨w3.heap.size, 3, none⟩ = some (.int .i64 R2) := fun w' h => by refine ⟨?_, ?_, ?_, ?_⟩ <;> (rw [World.cell?, h]; rfl)
        have hba : ∀ (w' : World), w'.heap[w.heap.size]? = some (.cells #[.bool on, .int .i64 cx, .int .i64 cy, .int .i64 rr] 23 (0, 0)) → w'.cell? ⟨w.heap.size, 0, none⟩ = some (.bool on) ∧ w'.cell? ⟨w.heap.size, 1, none⟩ = some (.int .i64 cx) ∧ w'.cell? ⟨w.heap.size, 2, none⟩ = some (.int .i64 cy) ∧ w'.cell? ⟨w.heap.size, 3, none⟩ = some (.int .i64 rr) := fun w' h => by refine ⟨?_, ?_, ?_, ?_⟩ <;> (rw [World.cell?, h]; rfl)
        have HBC := Bx.mk hbc
        have HBA := Bx.mk hba
        have AL3 : New w3 (w3.alloc (.cells #[.bool on, .int .i64 cx, .int .i64 cy, .int .i64 R2] 23)) := (Upd.refl _ _).alloc _
        have HX1 : (w3.alloc (.cells #[.bool on, .int .i64 cx, .int .i64 cy, .int .i64 R2] 23)).heap[w3.heap.size]? = some (.cells #[.bool on, .int .i64 cx, .int .i64 cy, .int .i64 R2] 23 (0, 0)) := heap_alloc_new _ _
        have HX0 := AL3.blk (V3.blk BHB.out (fun q => q)) (fun q => q)
        have HG3 := Bx.mk ((HG.out.new V3).new AL3)
        have HU3 := Bx.mk ((HU.out.trans V3).trans AL3)
        clear hbc hba f0 f1 f2 f3 c0 c1 c2 c3 g3 h3 AL3 HG HU BHB HB V3
        generalize w3.alloc (.cells #[.bool on, .int .i64 cx, .int .i64 cy, .int .i64 R2] 23) = wC at *
        generalize w3.heap.size = b3 at *
        have DR : New wC wC.drew := (Upd.refl _ wC).drew
        have HXd1 := Bx.mk (DR.blk HX1 (fun q => q))
        have HXd0 := Bx.mk (DR.blk HX0 (fun q => q))
        have s1 := And.intro (HBA.out _ HXd0.out) (HBC.out _ HXd1.out)
        have HGd := Bx.mk (HG3.out.new DR)
        have BDR := Bx.mk DR
        clear HX1 HX0 DR
        go_region_held3 (fun w' => (w'.cell? ⟨w.heap.size, 0, none⟩ = some (.bool on) ∧ w'.cell? ⟨w.heap.size, 1, none⟩ = some (.int .i64 cx) ∧ w'.cell? ⟨w.heap.size, 2, none⟩ = some (.int .i64 cy) ∧ w'.cell? ⟨w.heap.size, 3, none⟩ = some (.int .i64 rr)) ∧ (w'.cell? ⟨b3, 0, none⟩ = some (.bool on) ∧ w'.cell? ⟨b3, 1, none⟩ = some (.int .i64 cx) ∧ w'.cell? ⟨b3, 2, none⟩ = some (.int .i64 cy) ∧ w'.cell? ⟨b3, 3, none⟩ = some (.int .i64 R2))) (first | exact s1 | exact s2 | exact s3)
          (first
            | ((go_at_call 21; (with_reducible refine (CV1.out HGd.out).mono ?_); rintro e w5 ⟨A5, c5, rfl, h5, R5, _, V5⟩; have s2 := And.intro (HBA.out _ (V5.blk HXd0.out (fun q => q))) (HBC.out _ (V5.blk HXd1.out (fun q => q))); dsimp only))
            | ((go_at_call 21; (with_reducible refine (CV2.out (HGd.out.new V5)).mono ?_); rintro e w6 ⟨A6, c6, rfl, h6, R6, _, V6⟩; have s3 := And.intro (HBA.out _ (V6.blk (V5.blk HXd0.out (fun q => q)) (fun q => q))) (HBC.out _ (V6.blk (V5.blk HXd1.out (fun q => q)) (fun q => q))); dsimp only)))
        all_goals
          have RA := Bx.mk (R5.new V6)
          have RB := Bx.mk R6
          have HU6 := Bx.mk (((HU3.out.trans BDR.out).trans V5).trans V6)
          clear s1 s2 s3 R5 R6 V5 V6 HXd0 HXd1 HGd BDR HG3 HU3 CV1 CV2
          repeat' (first | fail | go_values | go_skip | go_guarded | go_step | go_upon | go_back)
          go_loopw [13, 61] (fun kv iv wr => ∃ (i : Nat), iv = .int .i64 i ∧ i ≤ nb ∧ kv = .int .i64 ((xb.take i).filter (fun i => decide (i ∈ xa))).length ∧ Bx (New w6 wr)) (fun _ iv _ => nb - (intOf iv).toNat)
          case atStart => exact ⟨0, rfl, Nat.zero_le _, rfl, ⟨Upd.refl _ _⟩⟩
          case round =>
            obtain ⟨i, rfl, hi, rfl, HU7⟩ := hrel
            by_cases hil : i < nb
            · have hilI : (i : Int) < (nb : Int) := by omega
              have hix : i < xb.length := by rw [HNB.out]; exact hil
              obtain ⟨k, hkk⟩ : ∃ k, ((xb.take i).filter (fun i => decide (i ∈ xa))).length = k := ⟨_, rfl⟩
              obtain ⟨st1, st2⟩ := sub_step xa xb _ HF.out i hix k hkk
              obtain ⟨bb, ob, rfl, eb⟩ := idv_at (RB.out.new HU7.out) i hix
              have hgx : xb.getD i 0 = xb[i] := by rw [List.getD_eq_getElem?_getD, List.getElem?_eq_getElem hix, Option.getD_some]
              rw [hgx] at eb
              rw [hkk]
              have hk60 : k ≤ 60 := by rw [← hkk]; have := List.length_filter_le (fun i => decide (i ∈ xa)) (xb.take i); rw [List.length_take] at this; omega
              generalize xb[i] = x at *
              have wk : IntKind.i64.wrap ((i : Int) + 1) = ((i + 1 : Nat) : Int) := by rw [IntKind.wrap_i64]; omega
              have wkk : IntKind.i64.wrap ((k : Int) + 1) = ((k + 1 : Nat) : Int) := by rw [IntKind.wrap_i64]; omega
              cases hp : decide (x ∈ xa) with
              | true =>
                obtain ⟨q1, q2, q3⟩ := st1 hp
                rw [HNA.out] at q1
                have q1I : (k : Int) < (na : Int) := by omega
                obtain ⟨ba, oa, rfl, ea⟩ := idv_at (RA.out.new HU7.out) k (by rw [HNA.out]; exact q1)
                rw [q2] at ea
                have HQ := Bx.mk q3
                clear st1 st2 q2 q3 hkk hgx hp
                repeat' (first | fail | go_values | go_skip | go_guarded | go_step | go_upon | go_back)
                go_roundw
                case rel => exact ⟨i + 1, by go_num, by omega, by rw [HQ.out]; go_num, HU7⟩
                case measure => simp [intOf]; omega
              | false =>
                obtain ⟨q1, q2⟩ := st2 hp
                have HQ := Bx.mk q1
                rw [HNA.out] at q2
                by_cases hka : k < na
                · have q1I : (k : Int) < (na : Int) := by omega
                  have q3 := q2 hka
                  obtain ⟨ba, oa, rfl, ea⟩ := idv_at (RA.out.new HU7.out) k (by rw [HNA.out]; exact hka)
                  generalize xa.getD k 0 = y at *
                  have q3I : ¬ (y : Int) = (x : Int) := by omega
                  clear st1 st2 q1 q2 hkk hgx hp q3
                  repeat' (first | fail | go_values | go_skip | go_guarded | go_step | go_upon | go_back)
                  go_roundw
                  case rel => exact ⟨i + 1, by go_num, by omega, by rw [HQ.out], HU7⟩
                  case measure => simp [intOf]; omega
                · have q1I : ¬ (k : Int) < (na : Int) := by omega
                  clear st1 st2 q1 q2 hkk hgx hp
                  repeat' (first | fail | go_values | go_skip | go_guarded | go_step | go_upon | go_back)
                  go_roundw
                  case rel => exact ⟨i + 1, by go_num, by omega, by rw [HQ.out], HU7⟩
                  case measure => simp [intOf]; omega
            · have hilI : ¬ (i : Int) < (nb : Int) := by omega
              have hT : ((xb.take i).filter (fun i => decide (i ∈ xa))).length = na := by
                rw [List.take_of_length_le (by rw [HNB.out]; omega), HF.out, HNA.out]
              rw [hT]
              clear hT
              repeat' (first | fail | go_values | go_skip | go_guarded | go_step | go_upon | go_back)
              go_returns
              exact ⟨rfl, HU6.out.trans HU7.out⟩
end Go.Proofs.Ytohflgpkimnodaa
