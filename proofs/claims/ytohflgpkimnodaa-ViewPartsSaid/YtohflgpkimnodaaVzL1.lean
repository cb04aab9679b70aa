/- ViewSees: the law, walked. -/
import Derived.Test.YtohflgpkimnodaaVz2
import Derived.Deep.RegionHeld3
namespace Go.Proofs.Ytohflgpkimnodaa
open Go.RowKit
def regC (r : Vi.Reg) : Array Value := #[.bool r.on, .int .i64 r.cx, .int .i64 r.cy, .int .i64 r.r]
theorem reg_cells {w : World} {b : Nat} {r : Vi.Reg} (h : w.heap[b]? = some (.cells (regC r) 23 (0, 0))) :
    w.cell? ⟨b, 0, none⟩ = some (.bool r.on) ∧ w.cell? ⟨b, 1, none⟩ = some (.int .i64 r.cx) ∧ w.cell? ⟨b, 2, none⟩ = some (.int .i64 r.cy) ∧ w.cell? ⟨b, 3, none⟩ = some (.int .i64 r.r) := by
  refine ⟨?_, ?_, ?_, ?_⟩ <;> (rw [World.cell?, h]; rfl)
theorem SpL.gone {n0 : Nat} {w w' : World} {v : Value} {L : List SpQ} (h : SpL w v L) (u : GUpd n0 w w') : SpL w' v L := by
  obtain ⟨A, c, e, h1, h2, h3⟩ := h
  exact ⟨A, c, e, h1, h2, u.rd h3⟩
set_option maxRecDepth 20000 in
set_option maxHeartbeats 16000000 in
theorem ViewSees_any (A : Option Addr) (n c : Nat) (l : List SpQ) (w : World) (hn : l.length = n) (hsz : n ≤ 9223372036854775807) (hr : Rd w A (spots l)) (hok : ∀ q ∈ l, spOk q) (r : Vi.Reg) :
    Calls Try.prog 5 #[.slice A n c, regV r] w fun e w' => e = .returned (.bool true) ∧ New w w' := by
  have CA := Bx.mk (fun w => awake_any w)
  have CN := Bx.mk (fun {w' : World} (u : New w w') => newG w.heap.size w' u.size)
  have HN := Bx.mk hn
  have HR := Bx.mk hr
  have HO := Bx.mk hok
  have HO2 := Bx.mk (fun q hq => (hok q hq).1)
  have AL : New w (w.alloc (.cells (regC r) 23)) := (Upd.refl _ _).alloc _
  have HB0 : (w.alloc (.cells (regC r) 23)).heap[w.heap.size]? = some (.cells (regC r) 23 (0, 0)) := heap_alloc_new _ _
  have BAL := Bx.mk AL
  have BHB := Bx.mk HB0
  have CV := Bx.mk (fun {w' : World} {g : Nat} {M : Nat → Option (Int × Int)} {L : List SpQ} (h : GR w.heap.size w' g M) (R : Rel M L) (hl : L.length ≤ 60) (xs : List Nat) (hx : selL (seen r) L = xs) (n : Nat) (hn : xs.length = n) => visible_any h R (by omega) r xs hx n hn)
  have CR := Bx.mk (fun {w' : World} {v : Value} {M : Nat → Option (Int × Int)} {L : List SpQ} (h : SpL w' v L) (R : Rel M L) (hl : L.length ≤ 60) (xs : List Nat) (hx : selL (seen r) L = xs) (n : Nat) (hn : xs.length = n) => refVis_any v L (fun q hq => (R.ok q hq).1) (by omega) r w' h xs hx n hn)
  have CZ := Bx.mk (fun w => visNil_any r w)
  generalize seen r = p at *
  clear hn hr hok AL HB0
  unfold regV regC at *
  obtain ⟨on, cx, cy, rr⟩ := r
  dsimp only at *
  go_enter Try.func5, Try.ntmps5
  repeat' (first | (first | (go_at_call 8; (with_reducible refine (CA.out _).mono ?_); rintro e w1 ⟨rfl, U1⟩; dsimp only) | (have _m := U1; (go_at_call 17; (with_reducible refine (CN.out (BAL.out.trans U1)).mono ?_); rintro e w2 ⟨g, rfl, G2, V2, hg⟩; dsimp only))) | go_values | go_skip | go_guarded | go_step | go_upon | go_back)
  have U2 := Bx.mk ((BAL.out.trans U1).trans V2)
  have G2' := Bx.mk G2
  have HB2 := Bx.mk ((U1.trans V2).blk BHB.out (fun q => q))
  clear U1 V2 G2 _m CN CA BAL BHB
  go_loopw [6, 14] (fun kv iv wr => ∃ (j : Nat), iv = .int .i64 j ∧ j ≤ n ∧ Bx (GR w.heap.size wr g (runS (l.take (min j 60)) M0)) ∧ Bx (SpL wr kv (runL (l.take (min j 60)) [])) ∧ Bx (wr.heap[w.heap.size]? = some (.cells #[.bool on, .int .i64 cx, .int .i64 cy, .int .i64 rr] 23 (0, 0))) ∧ Bx (New w wr)) (fun _ iv _ => n - (intOf iv).toNat)
  case atStart => exact ⟨0, rfl, Nat.zero_le _, by simpa [runS] using G2', ⟨⟨none, 0, rfl, Nat.zero_le _, fun _ => rfl, .inl rfl⟩⟩, HB2, U2⟩
  case round =>
    clear G2' U2 HB2
    obtain ⟨j, rfl, hj, HG, HS, HB, HU⟩ := hrel
    by_cases hlt : j < n
    · have hltI : (j : Int) < (n : Int) := by omega
      have hjL : j < l.length := by rw [HN.out]; exact hlt
      obtain ⟨b, o, rfl, e0, e1, e2⟩ := sp_at (HR.out.new HU.out) j hjL
      have hq := HO.out l[j] (List.getElem_mem hjL)
      have B0 := box_at' wr #[.int .u32 l[j].1, .int .i32 l[j].2.1, .int .i32 l[j].2.2] 40 0 _ rfl
      have B1 := box_at' wr #[.int .u32 l[j].1, .int .i32 l[j].2.1, .int .i32 l[j].2.2] 40 1 _ rfl
      have B2 := box_at' wr #[.int .u32 l[j].1, .int .i32 l[j].2.1, .int .i32 l[j].2.2] 40 2 _ rfl
      have AL2 := (Upd.refl Nowhere wr).alloc (.cells #[.int .u32 l[j].1, .int .i32 l[j].2.1, .int .i32 l[j].2.2] 40)
      have BAL2 := Bx.mk AL2
      by_cases h60 : j < 60
      · have h60I : (j : Int) < 60 := by omega
        have HM := Bx.mk (show runS (l.take (min (j + 1) 60)) M0 = putM (runS (l.take (min j 60)) M0) l[j].1 l[j].2.1 l[j].2.2 by rw [take_min_stp l j 60 hjL h60, runS_snoc])
        have HL := Bx.mk (show runL (l.take (min (j + 1) 60)) [] = putL (runL (l.take (min j 60)) []) l[j].1 l[j].2.1 l[j].2.2 by rw [take_min_stp l j 60 hjL h60, runL_snoc])
        obtain ⟨RR, hlen⟩ := run60 l HO2.out j
        have G3 := HG.out.new AL2
        have S3 : SpL (wr.alloc (.cells #[.int .u32 l[j].1, .int .i32 l[j].2.1, .int .i32 l[j].2.2] 40)) _ _ := HS.out.gone (n0 := w.heap.size) (GUpd.new AL2)
        have BS3 := Bx.mk S3
        generalize runS (l.take (min j 60)) M0 = M at *
        generalize runL (l.take (min j 60)) [] = L at *
        generalize l[j] = q at *
        obtain ⟨i0, x0, y0⟩ := q
        dsimp only at *
        obtain ⟨q1, q2, q3⟩ := hq
        have CP := Bx.mk (putG G3 (RR.few.mono hlen) (by omega) i0 i0 rfl q1 x0 y0 q2 q3 _ rfl)
        have CQ := Bx.mk (fun {w' : World} {v : Value} (h : SpL w' v L) => refPut_any v L L.length i0 x0 y0 w' h rfl (by omega) q1 (fun q hq => (RR.ok q hq).1))
        obtain ⟨E, hE⟩ : ∃ E, putE i0 x0 y0 = E := ⟨_, rfl⟩
        rw [hE] at CP
        obtain ⟨E2, hE2⟩ : ∃ E2 : Int, (if i0 = 0 then 1 else if inWorld x0 y0 then 0 else 5) = E2 := ⟨_, rfl⟩
        rw [hE2] at CQ
        have BB := Bx.mk (And.intro B0 (And.intro B1 B2))
        clear hE hE2 q1 q2 q3 RR hlen G3 S3 AL2
        repeat' (first | (first
          | ((go_at_call 18; (with_reducible refine (CP.out).mono ?_); rintro e w3 ⟨rfl, V3, G3⟩; have F0 := V3.cell BB.out.1; have F1 := V3.cell BB.out.2.1; have F2 := V3.cell BB.out.2.2; have S4 := BS3.out.gone V3; dsimp only))
          | (have _m := F0; (go_at_call 19; (with_reducible refine (CQ.out S4).mono ?_); rintro e w4 ⟨v4, rfl, S5, V4⟩; dsimp only))) | go_values | go_skip | go_guarded | go_step | go_upon | go_back)
        go_roundw
        case rel => exact ⟨j + 1, by go_num, by omega, ⟨by rw [HM.out]; exact G3.new V4⟩, ⟨by rw [HL.out]; exact S5⟩, ⟨V4.blk (V3.blk (BAL2.out.blk HB.out (fun q => q))) (fun q => q)⟩, ⟨(GUpd.now (HU.out.trans BAL2.out) V3).trans V4⟩⟩
        case measure => simp [intOf]; omega
      · have h60I : ¬ (j : Int) < 60 := by omega
        have HM := Bx.mk (show l.take (min (j + 1) 60) = l.take (min j 60) by rw [take_min_sam l j 60 (by omega)])
        generalize l[j] = q at *
        obtain ⟨i0, x0, y0⟩ := q
        dsimp only at *
        repeat' (first | fail | go_values | go_skip | go_guarded | go_step | go_upon | go_back)
        go_roundw
        case rel => exact ⟨j + 1, by go_num, by omega, ⟨by rw [HM.out]; exact HG.out.new BAL2.out⟩, ⟨by rw [HM.out]; exact HS.out.gone (n0 := w.heap.size) (GUpd.new BAL2.out)⟩, ⟨BAL2.out.blk HB.out (fun q => q)⟩, ⟨HU.out.trans BAL2.out⟩⟩
        case measure => simp [intOf]; omega
    · have hltI : ¬ (j : Int) < (n : Int) := by omega
      obtain ⟨RR, hlen⟩ := run60 l HO2.out j
      generalize runS (l.take (min j 60)) M0 = M at *
      generalize runL (l.take (min j 60)) [] = L at *
      obtain ⟨xs, hxs⟩ : ∃ xs, selL p L = xs := ⟨_, rfl⟩
      obtain ⟨nx, hnx⟩ : ∃ nx, xs.length = nx := ⟨_, rfl⟩
      have hnx60 : nx ≤ 60 := by rw [← hnx, ← hxs]; exact Nat.le_trans (sel_len p L) hlen
      have CV1 := Bx.mk (CV.out (HG.out.new (Upd.refl Nowhere wr).drew) RR hlen xs hxs nx hnx)
      have CR1 := Bx.mk (fun {w' : World} {v : Value} (h : SpL w' v L) => CR.out h RR hlen xs hxs nx hnx)
      have CS := Bx.mk (fun (A B : Option Addr) (c d : Nat) (w' : World) (hx : Rd w' A (idv xs)) (hy : Rd w' B (idv xs)) => (same_any A B nx nx c d xs xs w' hx hy hnx hnx (by omega)).mono (fun e w2 h => show e = .returned (.bool true) ∧ New w' w2 from ⟨h.1.trans (by simp), h.2⟩))
      have HSd := Bx.mk (HS.out.gone (n0 := w.heap.size) (GUpd.new (Upd.refl Nowhere wr).drew))
      have DR : New wr wr.drew := (Upd.refl _ wr).drew
      have HBd : wr.drew.heap[w.heap.size]? = some (.cells #[.bool on, .int .i64 cx, .int .i64 cy, .int .i64 rr] 23 (0, 0)) := HB.out
      have s1 := reg_cells (r := ⟨on, cx, cy, rr⟩) HBd
      dsimp only at s1
      have BHd := Bx.mk HBd
      have BDR := Bx.mk DR
      clear HBd DR CV CR RR hlen hxs hnx HR HN HO HO2 HB
      repeat' (first | fail | go_values | go_skip | go_guarded | go_step | go_upon | go_back)
      go_region_held3 (fun w' => w'.cell? ⟨w.heap.size, 0, none⟩ = some (.bool on) ∧ w'.cell? ⟨w.heap.size, 1, none⟩ = some (.int .i64 cx) ∧ w'.cell? ⟨w.heap.size, 2, none⟩ = some (.int .i64 cy) ∧ w'.cell? ⟨w.heap.size, 3, none⟩ = some (.int .i64 rr)) (first | exact s1 | exact s2 | exact s3 | exact s4 | exact s5)
        (first
          | ((go_at_call 21; (with_reducible refine (CV1.out).mono ?_); rintro e w3 ⟨A3, c3, rfl, _, R3, _, V3⟩; have s2 := reg_cells (r := ⟨on, cx, cy, rr⟩) (V3.blk BHd.out (fun q => q)); dsimp only at s2; have S3 := HSd.out.gone (n0 := w.heap.size) (GUpd.new V3); dsimp only))
          | ((go_at_call 22; (with_reducible refine (CR1.out S3).mono ?_); rintro e w4 ⟨A4, c4, rfl, _, R4, _, V4⟩; have s3 := reg_cells (r := ⟨on, cx, cy, rr⟩) (V4.blk (V3.blk BHd.out (fun q => q)) (fun q => q)); dsimp only at s3; have R3' := R3.new V4; dsimp only))
          | ((go_at_call 20; (with_reducible refine (CS.out _ _ _ _ _ R3' R4).mono ?_); rintro e w5 ⟨rfl, V5⟩; have s4 := reg_cells (r := ⟨on, cx, cy, rr⟩) (V5.blk (V4.blk (V3.blk BHd.out (fun q => q)) (fun q => q)) (fun q => q)); dsimp only at s4; dsimp only))
          | ((go_at_call 21; (with_reducible refine (CZ.out _).mono ?_); rintro e w6 ⟨rfl, V6⟩; have s5 := reg_cells (r := ⟨on, cx, cy, rr⟩) (V6.blk (V5.blk (V4.blk (V3.blk BHd.out (fun q => q)) (fun q => q)) (fun q => q)) (fun q => q)); dsimp only at s5; dsimp only)))
      all_goals
        repeat' (first | fail | go_values | go_skip | go_guarded | go_step | go_upon | go_back)
        go_returns
        exact ⟨rfl, ((((HU.out.trans BDR.out).trans V3).trans V4).trans V5).trans V6⟩
end Go.Proofs.Ytohflgpkimnodaa
