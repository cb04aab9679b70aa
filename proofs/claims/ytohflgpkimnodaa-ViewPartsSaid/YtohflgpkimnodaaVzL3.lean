/- ViewParts: the law, walked. -/
import Derived.Test.YtohflgpkimnodaaVzL3a
namespace Go.Proofs.Ytohflgpkimnodaa
open Go.RowKit Go.Maps
set_option maxRecDepth 20000 in
set_option maxHeartbeats 16000000 in
theorem ViewParts_any (A : Option Addr) (n c : Nat) (l : List SpQ) (w : World) (hn : l.length = n) (hsz : n ≤ 9223372036854775807) (hr : Rd w A (spots l)) (hok : ∀ q ∈ l, spOk q) (r : Vi.Reg) :
    Calls Try.prog 7 #[.slice A n c, regV r] w fun e w' => e = .returned (.bool true) ∧ New w w' := by
  have CA := Bx.mk (fun w => awake_any w)
  have CN := Bx.mk (fun {w' : World} (u : New w w') => newG w.heap.size w' u.size)
  have HN := Bx.mk hn
  have HR := Bx.mk hr
  have HO := Bx.mk hok
  have HO2 := Bx.mk (fun q hq => (hok q hq).1)
  have AL : New w (w.alloc (.cells (regC r) 23)) := (Upd.refl _ _).alloc _
  have HB0 : (w.alloc (.cells (regC r) 23)).heap[w.heap.size]? = some (.cells (regC r) 23 (0, 0)) := heap_alloc_new _ _
  have BAL := Bx.mk AL
  have BHB := Bx.mk HB0
  have CV := Bx.mk (fun {w' : World} {g : Nat} {M : Nat → Option (Int × Int)} {L : List SpQ} (h : GR w.heap.size w' g M) (R : Rel M L) (hl : L.length ≤ 60) (xs : List Nat) (hx : selL (seen r) L = xs) (n : Nat) (hn : xs.length = n) => visible_any h R (by omega) r xs hx n hn)
  have CS := Bx.mk (fun (q : SpQ) (hq : spOk q) (w : World) => show Calls Try.prog 13 #[regV r, .int .i32 q.2.1, .int .i32 q.2.2] w fun e w' => e = .returned (.bool (seen r (cellsOf q))) ∧ New w w' from Sees_any r q.2.1 q.2.2 w hq.2.1 hq.2.2)
  generalize seen r = p at *
  clear hn hr hok AL HB0
  unfold regV regC at *
  obtain ⟨on, cx, cy, rr⟩ := r
  dsimp only at *
  go_enter Try.func7, Try.ntmps7
  repeat' (first | (first | (go_at_call 8; go_loud ((with_reducible refine (CA.out _).mono ?_); rintro e w1 ⟨rfl, U1⟩; dsimp only)) | (have _m := U1; (go_at_call 17; go_loud ((with_reducible refine (CN.out (BAL.out.trans U1)).mono ?_); rintro e w2 ⟨g, rfl, G2, V2, hg⟩; dsimp only)))) | go_values | go_skip | go_guarded | go_step | go_upon | go_back)
  have U2 := Bx.mk ((BAL.out.trans U1).trans V2)
  have G2' := Bx.mk G2
  have HB2 := Bx.mk ((U1.trans V2).blk BHB.out (fun q => q))
  clear U1 V2 G2 _m CN CA BAL BHB
  go_loopw [6, 20] (fun kv iv wr => ∃ (j : Nat), iv = .int .i64 j ∧ j ≤ n ∧ Bx (GR w.heap.size wr g (runS (l.take (min j 60)) M0)) ∧ Bx (SpL wr kv (runL (l.take (min j 60)) [])) ∧ Bx (wr.heap[w.heap.size]? = some (.cells #[.bool on, .int .i64 cx, .int .i64 cy, .int .i64 rr] 23 (0, 0))) ∧ Bx (New w wr)) (fun _ iv _ => n - (intOf iv).toNat)
  case atStart => exact ⟨0, rfl, Nat.zero_le _, by simpa [runS] using G2', ⟨⟨none, 0, rfl, Nat.zero_le _, fun _ => rfl, .inl rfl⟩⟩, HB2, U2⟩
  case round =>
    clear G2' U2 HB2
    obtain ⟨j, rfl, hj, HG, HS, HB, HU⟩ := hrel
    by_cases hlt : j < n
    · have hltI : (j : Int) < (n : Int) := by omega
      have hjL : j < l.length := by rw [HN.out]; exact hlt
      obtain ⟨b, o, rfl, e0, e1, e2⟩ := sp_at (HR.out.new HU.out) j hjL
      have hq := HO.out l[j] (List.getElem_mem hjL)
      have B0 := box_at' wr #[.int .u32 l[j].1, .int .i32 l[j].2.1, .int .i32 l[j].2.2] 40 0 _ rfl
      have B1 := box_at' wr #[.int .u32 l[j].1, .int .i32 l[j].2.1, .int .i32 l[j].2.2] 40 1 _ rfl
      have B2 := box_at' wr #[.int .u32 l[j].1, .int .i32 l[j].2.1, .int .i32 l[j].2.2] 40 2 _ rfl
      have AL2 := (Upd.refl Nowhere wr).alloc (.cells #[.int .u32 l[j].1, .int .i32 l[j].2.1, .int .i32 l[j].2.2] 40)
      have BAL2 := Bx.mk AL2
      by_cases h60 : j < 60
      · have h60I : (j : Int) < 60 := by omega
        have HM := Bx.mk (show runS (l.take (min (j + 1) 60)) M0 = putM (runS (l.take (min j 60)) M0) l[j].1 l[j].2.1 l[j].2.2 by rw [take_min_stp l j 60 hjL h60, runS_snoc])
        have HL := Bx.mk (show runL (l.take (min (j + 1) 60)) [] = putL (runL (l.take (min j 60)) []) l[j].1 l[j].2.1 l[j].2.2 by rw [take_min_stp l j 60 hjL h60, runL_snoc])
        obtain ⟨RR, hlen⟩ := run60 l HO2.out j
        have G3 := HG.out.new AL2
        have S3 : SpL (wr.alloc (.cells #[.int .u32 l[j].1, .int .i32 l[j].2.1, .int .i32 l[j].2.2] 40)) _ _ := HS.out.gone (n0 := w.heap.size) (GUpd.new AL2)
        have BS3 := Bx.mk S3
        generalize runS (l.take (min j 60)) M0 = M at *
        generalize runL (l.take (min j 60)) [] = L at *
        generalize l[j] = q at *
        obtain ⟨i0, x0, y0⟩ := q
        dsimp only at *
        obtain ⟨q1, q2, q3⟩ := hq
        have CP := Bx.mk (putG G3 (RR.few.mono hlen) (by omega) i0 i0 rfl q1 x0 y0 q2 q3 _ rfl)
        have CQ := Bx.mk (fun {w' : World} {v : Value} (h : SpL w' v L) => refPut_any v L L.length i0 x0 y0 w' h rfl (by omega) q1 (fun q hq => (RR.ok q hq).1))
        obtain ⟨E, hE⟩ : ∃ E, putE i0 x0 y0 = E := ⟨_, rfl⟩
        rw [hE] at CP
        obtain ⟨E2, hE2⟩ : ∃ E2 : Int, (if i0 = 0 then 1 else if inWorld x0 y0 then 0 else 5) = E2 := ⟨_, rfl⟩
        rw [hE2] at CQ
        have BB := Bx.mk (And.intro B0 (And.intro B1 B2))
        clear hE hE2 q1 q2 q3 RR hlen G3 S3 AL2
        repeat' (first | (first
          | ((go_at_call 18; go_loud ((with_reducible refine (CP.out).mono ?_); rintro e w3 ⟨rfl, V3, G3⟩; have F0 := V3.cell BB.out.1; have F1 := V3.cell BB.out.2.1; have F2 := V3.cell BB.out.2.2; have S4 := BS3.out.gone V3; dsimp only)))
          | (have _m := F0; (go_at_call 19; go_loud ((with_reducible refine (CQ.out S4).mono ?_); rintro e w4 ⟨v4, rfl, S5, V4⟩; dsimp only)))) | go_values | go_skip | go_guarded | go_step | go_upon | go_back)
        go_roundw
        case rel => exact ⟨j + 1, by go_num, by omega, ⟨by rw [HM.out]; exact G3.new V4⟩, ⟨by rw [HL.out]; exact S5⟩, ⟨V4.blk (V3.blk (BAL2.out.blk HB.out (fun q => q))) (fun q => q)⟩, ⟨(GUpd.now (HU.out.trans BAL2.out) V3).trans V4⟩⟩
        case measure => simp [intOf]; omega
      · have h60I : ¬ (j : Int) < 60 := by omega
        have HM := Bx.mk (show l.take (min (j + 1) 60) = l.take (min j 60) by rw [take_min_sam l j 60 (by omega)])
        generalize l[j] = q at *
        obtain ⟨i0, x0, y0⟩ := q
        dsimp only at *
        repeat' (first | fail | go_values | go_skip | go_guarded | go_step | go_upon | go_back)
        go_roundw
        case rel => exact ⟨j + 1, by go_num, by omega, ⟨by rw [HM.out]; exact HG.out.new BAL2.out⟩, ⟨by rw [HM.out]; exact HS.out.gone (n0 := w.heap.size) (GUpd.new BAL2.out)⟩, ⟨BAL2.out.blk HB.out (fun q => q)⟩, ⟨HU.out.trans BAL2.out⟩⟩
        case measure => simp [intOf]; omega
    · have hltI : ¬ (j : Int) < (n : Int) := by omega
      obtain ⟨RR, hlen⟩ := run60 l HO2.out j
      generalize runS (l.take (min j 60)) M0 = M at *
      generalize runL (l.take (min j 60)) [] = L at *
      obtain ⟨xs, hxs⟩ : ∃ xs, selL p L = xs := ⟨_, rfl⟩
      obtain ⟨nx, hnx⟩ : ∃ nx, xs.length = nx := ⟨_, rfl⟩
      have hnx60 : nx ≤ 60 := by rw [← hnx, ← hxs]; exact Nat.le_trans (sel_len p L) hlen
      have CV1 := Bx.mk (fun {w' : World} (h : GR w.heap.size w' g M) => CV.out h RR hlen xs hxs nx hnx)
      have HXS := Bx.mk (fun k (hk : k < xs.length) => prev_lt xs (by rw [← hxs]; exact RR.sel_srt p) (by rw [← hxs]; exact sel_nz RR p) k hk)
      have HXL := Bx.mk (fun x (hx : x ∈ xs) => show x < 4294967296 from sel_lt RR p x (by rw [hxs]; exact hx))
      have HXP := Bx.mk (fun q (hq : q ∈ L) => show decide (q.1 ∈ xs) = p (cellsOf q) by rw [← hxs]; exact sel_iff RR p hq)
      have BOK := Bx.mk (fun q (hq : q ∈ L) => (RR.ok q hq).1)
      have HNX := Bx.mk hnx
      obtain ⟨m, hm⟩ : ∃ m, L.length = m := ⟨_, rfl⟩
      have HM := Bx.mk hm
      obtain ⟨A2, c2, rfl, -, -, hr2⟩ := HS.out
      have HR2 := Bx.mk hr2
      rw [hm] at HS ⊢
      rw [hm] at hlen
      have AL := (Upd.refl Nowhere wr).alloc (.map #[] 0)
      have SM0 := Bx.mk (SM.made wr)
      have s1 := reg_cells (r := ⟨on, cx, cy, rr⟩) (AL.blk HB.out (fun q => q))
      dsimp only at s1
      obtain ⟨c0, c1, c2', c3⟩ := s1
      have HG2 := Bx.mk (HG.out.new AL)
      have BAL := Bx.mk AL
      clear CV RR hxs hnx HR HN HO HO2 hm hr2 AL HG
      have hmm := @run_makeMap Try.prog
      repeat' (first | (first
        | ((go_at_call 21; go_loud ((with_reducible refine (CV1.out HG2.out).mono ?_); rintro e w3 ⟨A3, c3', rfl, _, R3, _, V3⟩; dsimp only)))) | go_values | go_skip | go_guarded | go_step | go_upon | go_back)
      have HB3 := Bx.mk (V3.blk (BAL.out.blk HB.out (fun q => q)) (fun q => q))
      have HU3 := Bx.mk ((HU.out.trans BAL.out).trans V3)
      have HR3 := Bx.mk ((HR2.out.new BAL.out).new V3)
      have SM3 := Bx.mk (SM0.out.new V3)
      have BR3 := Bx.mk R3
      have hmb : w.heap.size ≤ wr.heap.size := HU.out.size
      clear HB HU HR2 BAL SM0 HG2 V3 R3 CV1 HS c0 c1 c2' c3
      generalize wr.heap.size = mb at *
      go_loopw [10, 52] (fun fv iv wz => ∃ (i : Nat) (D : DataW Unit), iv = .int .i64 i ∧ i ≤ nx ∧ fv = .int .u32 (prev xs i) ∧ Bx (SM wz mb i D (xs.take i)) ∧ Bx (GUpd w.heap.size w3 wz)) (fun _ iv _ => nx - (intOf iv).toNat)
      case atStart => exact ⟨0, .map [], rfl, Nat.zero_le _, rfl, SM3, ⟨Upd.refl _ _⟩⟩
      case round =>
        clear SM3
        obtain ⟨i, D, rfl, hi, rfl, HSM, HGU⟩ := hrel
        by_cases hil : i < nx
        · have hilI : (i : Int) < (nx : Int) := by omega
          have hix : i < xs.length := by rw [HNX.out]; exact hil
          obtain ⟨b3, o3, rfl, e3⟩ := idv_at (HGU.out.rd BR3.out) i hix
          obtain ⟨hp1, hp2⟩ := HXS.out i hix
          have hxl := HXL.out (xs.getD i 0) (by rw [List.getD_eq_getElem?_getD, List.getElem?_eq_getElem hix, Option.getD_some]; exact List.getElem_mem hix)
          have HTK := Bx.mk (show xs.take (i + 1) = xs.take i ++ [xs.getD i 0] by rw [List.take_succ_eq_append_getElem hix, List.getD_eq_getElem?_getD, List.getElem?_eq_getElem hix, Option.getD_some])
          have HP2 := Bx.mk hp2
          clear hp2
          generalize xs.getD i 0 = x at *
          generalize prev xs i = pv at *
          have hle : ¬ (x : Int) ≤ (pv : Int) := by omega
          have wk : IntKind.i64.wrap ((i : Int) + 1) = ((i + 1 : Nat) : Int) := by rw [IntKind.wrap_i64]; omega
          have own := HSM.out.own
          clear hp1
          repeat' (first | (at_mapUpdate; refine wpList_mapUpdate_in _ rfl _ _ _ 50 rfl 38 4 idLaw Try.underlying50 boolElem mb i D rfl own (by unfold maxLen; omega) _ _ _ rfl rfl (keyId hxl) (.lit (.bool true)) [] rfl ?_; intro w6 o6 t6; clear own) | go_values | go_skip | go_guarded | go_step | go_upon | go_back)
          go_roundw
          case rel => exact ⟨i + 1, _, by go_num, by omega, by rw [HP2.out], ⟨by rw [HTK.out]; exact HSM.out.add x o6⟩, ⟨HGU.out.trans ((turned_upd t6).mono fun b e => e ▸ ownsMap_Sm HSM.out.own hmb)⟩⟩
          case measure => simp [intOf]; omega
        · have hilI : ¬ (i : Int) < (nx : Int) := by omega
          obtain rfl : i = nx := by omega
          rename World => wz
          have SM4 := Bx.mk (show SM wz mb i D xs by have := HSM.out; rwa [List.take_of_length_le (by rw [HNX.out]; exact Nat.le_refl _)] at this)
          have HB4 := Bx.mk (HGU.out.blk HB3.out)
          have HR4 := Bx.mk (HGU.out.rd HR3.out)
          have HU4 := Bx.mk (GUpd.now HU3.out HGU.out)
          clear HSM HGU HB3 HR3 HU3 HXS HXL HNX BR3
          generalize prev xs i = pv at *
          repeat' (first | fail | go_values | go_skip | go_guarded | go_step | go_upon | go_back)
          go_loopw [65] (fun kv wy => ∃ (k : Nat), kv = .int .i64 k ∧ k ≤ m ∧ Bx (New wz wy)) (fun kv _ => m - (intOf kv).toNat)
          case atStart => exact ⟨0, rfl, Nat.zero_le _, ⟨Upd.refl _ _⟩⟩
          case round =>
            obtain ⟨k, rfl, hk, HU⟩ := hrel
            rename World => wy
            by_cases hkm : k < m
            · have hkmI : (k : Int) < (m : Int) := by omega
              have hkL : k < L.length := by rw [HM.out]; exact hkm
              obtain ⟨b5, o5, rfl, f0, f1, f2⟩ := sp_at (HR4.out.new HU.out) k hkL
              have hmem : L[k] ∈ L := List.getElem_mem hkL
              have hq1 := BOK.out _ hmem
              have hxp := HXP.out _ hmem
              have CS1 := Bx.mk (CS.out L[k] hq1)
              generalize L[k] = q at *
              obtain ⟨pb, hpb⟩ : ∃ pb, p (cellsOf q) = pb := ⟨_, rfl⟩
              rw [hpb] at hxp CS1
              obtain ⟨i1, u1, v1⟩ := q
              dsimp only at f0 f1 f2 hq1 hxp CS1
              have AL := (Upd.refl Nowhere wy).alloc (.cells #[.int .u32 i1, .int .i32 u1, .int .i32 v1] 40)
              have D0 := box_at' wy #[.int .u32 i1, .int .i32 u1, .int .i32 v1] 40 0 _ rfl
              have D1 := box_at' wy #[.int .u32 i1, .int .i32 u1, .int .i32 v1] 40 1 _ rfl
              have D2 := box_at' wy #[.int .u32 i1, .int .i32 u1, .int .i32 v1] 40 2 _ rfl
              have s5 := reg_cells (r := ⟨on, cx, cy, rr⟩) (AL.blk (HU.out.blk HB4.out (fun q => q)) (fun q => q))
              have SM5 := (SM4.out.new HU.out).new AL
              have HU5 := Bx.mk (HU.out.trans AL)
              dsimp only at s5
              have wk : IntKind.i64.wrap ((k : Int) + 1) = ((k + 1 : Nat) : Int) := by rw [IntKind.wrap_i64]; omega
              clear hmem AL hpb hkL
              generalize hwA : wy.alloc (.cells #[.int .u32 i1, .int .i32 u1, .int .i32 v1] 40) = wA at *
              have k0 : ∀ z : After wA, z.to.cell? ⟨wy.heap.size, 0, none⟩ = some (.int .u32 i1) := fun z => z.h.cell D0 (fun q => q)
              have k1 : ∀ z : After wA, z.to.cell? ⟨wy.heap.size, 1, none⟩ = some (.int .i32 u1) := fun z => z.h.cell D1 (fun q => q)
              have k2 : ∀ z : After wA, z.to.cell? ⟨wy.heap.size, 2, none⟩ = some (.int .i32 v1) := fun z => z.h.cell D2 (fun q => q)
              have r0 : ∀ z : After wA, z.to.cell? ⟨w.heap.size, 0, none⟩ = some (.bool on) := fun z => z.h.cell s5.1 (fun q => q)
              have r1 : ∀ z : After wA, z.to.cell? ⟨w.heap.size, 1, none⟩ = some (.int .i64 cx) := fun z => z.h.cell s5.2.1 (fun q => q)
              have r2 : ∀ z : After wA, z.to.cell? ⟨w.heap.size, 2, none⟩ = some (.int .i64 cy) := fun z => z.h.cell s5.2.2.1 (fun q => q)
              have r3 : ∀ z : After wA, z.to.cell? ⟨w.heap.size, 3, none⟩ = some (.int .i64 rr) := fun z => z.h.cell s5.2.2.2 (fun q => q)
              have lk : ∀ z : After wA, (Instr.lookup 50 (.map (some mb)) (.int .u32 i1) false).run Try.prog z.to = .ok (.bool pb) z.to := fun z => (SM5.new z.h).look hq1.1 pb hxp
              subst hwA
              clear s5 SM5 D0 D1 D2 hq1 hxp
              repeat' (first | fail | go_values | go_skip | go_guarded | go_step | go_upon | go_back)
              (refine wp_region_calm (by kernel_rfl) (by kernel_rfl) ?_; (repeat (go_big_quiet_step ((go_at_call 13; refine Calls.calm (CS1.out _))))); refine wpQuiet_nil ?_; intro wq hq)
              clear k0 k1 k2 r0 r1 r2 r3 lk
              cases pb with
              | true =>
                repeat' (first | fail | go_values | go_skip | go_guarded | go_step | go_upon | go_back)
                go_roundw
                case rel => exact ⟨k + 1, by go_num, by omega, ⟨HU5.out.trans hq⟩⟩
                case measure => simp [intOf]; omega
              | false =>
                repeat' (first | fail | go_values | go_skip | go_guarded | go_step | go_upon | go_back)
                go_roundw
                case rel => exact ⟨k + 1, by go_num, by omega, ⟨HU5.out.trans hq⟩⟩
                case measure => simp [intOf]; omega
            · have hkmI : ¬ (k : Int) < (m : Int) := by omega
              repeat' (first | fail | go_values | go_skip | go_guarded | go_step | go_upon | go_back)
              go_returns
              exact ⟨rfl, HU4.out.trans HU.out⟩
end Go.Proofs.Ytohflgpkimnodaa
