/- DiffWrong: the walk (printed by dfl.py). -/
import Derived.Test.YtdnkdmdmekdfkaaDf19
namespace Go.Proofs.Ytdnkdmdmekdfkaa
open Go.RowKit
theorem Ok.smP3 {L M K : List Et} (hL : Ok L) (hM : Ok M) (hK : Ok K) : SmP K (mrg L M) := by
  obtain ⟨h1, h2, h3, h4, h5⟩ := mrg_small L M
  have := hL.n
  have := hM.n
  have := hK.n
  refine ⟨by omega, fun x hx => (hK.b x hx).1, fun x hx => Nat.le_trans (hK.l x hx) (by omega), fun x hx => (hK.b x hx).2, by omega, by omega, fun x hx => hM.sm x (h4 x hx), by omega, fun c hc => ?_⟩
  obtain ⟨x, hx, n, hn, rfl⟩ := h5 c hc
  refine ⟨Nat.le_trans (List.length_filter_le _ _) (hM.l n hn), Nat.le_trans (List.length_filter_le _ _) (hM.l n hn), fun q hq => (hM.b n hn).2 q (List.mem_filter.1 hq).1, fun q hq => (hM.b n hn).2 q (List.mem_filter.1 hq).1⟩
/-- Patch of a snapshot by another one's delta -/
theorem Patch_wr {A : Option Addr} {n p : Nat} {L M K : List Et} {g0 : Option Addr} {g1 g2 : Nat} {c0 : Option Addr} {c1 c2 : Nat} {h0 : Option Addr} {h1 h2 : Nat} {D : Dl} {w : World} (hx : EnL w A n K) (hd : DlR w g0 g1 g2 c0 c1 h0 h1 D) (o1 : Ok L) (o2 : Ok M) (o3 : Ok K) (hD : mrg L M = D) :
    Calls Try.prog 13 #[.slice A n p, .agg #[.slice g0 g1 g2, .slice c0 c1 c2, .slice h0 h1 h2]] w fun e w' => (∃ (t0 : Option Addr) (t1 t2 : Nat) (E : Int), e = .returned (.tuple #[.slice t0 t1 t2, .int .i64 E]) ∧ ((∃ (N : List Et), E = 0 ∧ EnL w' t0 t1 N ∧ frm 0 N = 0 ∧ mrg K N = D ∧ Sm N ∧ N.length ≤ 900) ∨ (t0 = none ∧ t1 = 0 ∧ t2 = 0 ∧ E = 4 ∧ L ≠ K))) ∧ New w w' := by
  subst hD
  have hsm := o1.smP3 o2 o3
  refine (Patch_any A n p K g0 g1 g2 c0 c1 c2 h0 h1 h2 (mrg L M) w hx hd hsm o3.f).mono ?_
  rintro e w' ⟨⟨N, hC, h⟩, hu⟩
  rcases h with ⟨⟨t0, t1, t2⟩, he, hen, hf, hm⟩ | ⟨he, hno⟩
  · obtain ⟨A', c', e', hl⟩ := hen.enl
    simp only [Value.slice.injEq] at e'
    obtain ⟨rfl, rfl, rfl⟩ := e'
    exact ⟨⟨_, _, _, _, he, .inl ⟨N, rfl, hl, hf, hm, (hC.sm hsm).1, (hC.sm hsm).2⟩⟩, hu⟩
  · refine ⟨⟨_, _, _, _, he, .inr ⟨rfl, rfl, rfl, rfl, ?_⟩⟩, hu⟩
    rintro rfl
    obtain rfl := patch_uniq o1.wf o2.wf hC
    exact hno ⟨o2.f, rfl⟩
set_option maxRecDepth 20000 in
set_option maxHeartbeats 16000000 in
theorem diffWrong_any (A1 : Option Addr) (n1 p1 : Nat) (L1 : List Et) (A2 : Option Addr) (n2 p2 : Nat) (L2 : List Et) (A3 : Option Addr) (n3 p3 : Nat) (L3 : List Et) (w : World) (h1 : EnL w A1 n1 L1) (h2 : EnL w A2 n2 L2) (h3 : EnL w A3 n3 L3) (b1 : Bd L1) (b2 : Bd L2) (b3 : Bd L3) (s1 : n1 + sumL L1 ≤ 1000000000) (s2 : n2 + sumL L2 ≤ 1000000000) (s3 : n3 + sumL L3 ≤ 1000000000) :
    Calls Try.prog 5 #[.slice A1 n1 p1, .slice A2 n2 p2, .slice A3 n3 p3] w fun e w' => e = .returned (.bool true) ∧ New w w' := by
  have H1 := Bx.mk h1
  have H2 := Bx.mk h2
  have H3 := Bx.mk h3
  have HF1 := Bx.mk (fun (w' : World) (k : New w w') => Few_any A1 n1 p1 L1 w' (h1.new k) s1)
  have HF2 := Bx.mk (fun (w' : World) (k : New w w') => Few_any A2 n2 p2 L2 w' (h2.new k) s2)
  have HF3 := Bx.mk (fun (w' : World) (k : New w w') => Few_any A3 n3 p3 L3 w' (h3.new k) s3)
  have HG1 := Bx.mk (fun (w' : World) (k : New w w') (f : few L1 = true) => refForm_any A1 n1 p1 L1 w' (h1.new k) (by have := (few_sm b1 f).2; have := h1.len; omega) (few_sm b1 f).1)
  have HG2 := Bx.mk (fun (w' : World) (k : New w w') (f : few L2 = true) => refForm_any A2 n2 p2 L2 w' (h2.new k) (by have := (few_sm b2 f).2; have := h2.len; omega) (few_sm b2 f).1)
  have HG3 := Bx.mk (fun (w' : World) (k : New w w') (f : few L3 = true) => refForm_any A3 n3 p3 L3 w' (h3.new k) (by have := (few_sm b3 f).2; have := h3.len; omega) (few_sm b3 f).1)
  have B1 := Bx.mk b1
  have B2 := Bx.mk b2
  have B3 := Bx.mk b3
  clear h1 h2 h3 b1 b2 b3 s1 s2 s3
  go_enter Try.func5, Try.ntmps5
  go_upto_region 3 with (first
    | (go_at_call 8; (with_reducible refine (awake19_any _).mono ?_); rintro e1 w1 ⟨rfl, hu1⟩; dsimp only))
  have hlit := heap_alloc_new w1 (.cells #[.slice A1 n1 p1, .slice A2 n2 p2, .slice A3 n3 p3] 22)
  have U2 := hu1.alloc (.cells #[.slice A1 n1 p1, .slice A2 n2 p2, .slice A3 n3 p3] 22)
  go_upto_block 0 with (fail)
  generalize w1.alloc (.cells #[.slice A1 n1 p1, .slice A2 n2 p2, .slice A3 n3 p3] 22) = wB at *
  generalize w1.heap.size = Bl at *
  have HLIT := Bx.mk hlit
  have HU1 := Bx.mk U2
  clear hlit U2 hu1
  repeat' (first | fail | go_values | go_skip | go_guarded | go_step | go_upon | go_back)
  (refine wp_loopM [none, none, none, some 3, some 4, some 5, none, some 7, some 8, some 9, some 10, some 11, some 12, some 13, some 14, some 15, some 16, some 17, some 18, some 19, none, none, some 22, some 23, some 24, some 25, some 26, some 27, some 28, some 29, some 30, some 31, some 32, some 33, some 34, some 35, some 36, some 37, some 38, some 39, some 40, some 41, some 42, some 43, some 44, some 45, some 46, some 47, some 48, some 49, some 50, some 51, some 52, some 53, some 54, some 55, some 56, some 57, some 58, some 59, some 60, some 61, some 62, some 63, some 64, some 65, some 66, some 67, some 68, some 69, some 70, some 71, some 72, some 73, some 74, some 75, some 76, some 77, some 78] (fun fs wr dM => (fun iv wr dd => ∃ j : Nat, j ≤ 3 ∧ iv = .int .i64 j ∧ Bx (1 ≤ j → few L1 = true ∧ frm 0 L1 = 0) ∧ Bx (2 ≤ j → few L2 = true ∧ frm 0 L2 = 0) ∧ Bx (3 ≤ j → few L3 = true ∧ frm 0 L3 = 0) ∧ Bx (New wB wr) ∧ dd = 3 - j) (fs 22) wr dM) (by kernel_rfl) ?atStart ?round; (case' atStart => dsimp only [slotsOf, List.getD_cons_succ, List.getD_cons_zero]); (case' round => (intro dM_ J_ K_ fs wr hrel hJ_ hK_; simp only [Mix]; generalize fs 22 = u22 at hrel ⊢; try dsimp only at hrel)))
  case atStart => exact ⟨_, 0, by omega, rfl, ⟨fun h => by omega⟩, ⟨fun h => by omega⟩, ⟨fun h => by omega⟩, ⟨Upd.refl _ _⟩, rfl⟩
  case round =>
    obtain ⟨j, hj, rfl, HJ1, HJ2, HJ3, HU, rfl⟩ := hrel
    have hj3 : j = 0 ∨ j = 1 ∨ j = 2 ∨ j = 3 := by omega
    obtain ⟨l0, l1, l2, _⟩ := o3_at (HU.out.blk HLIT.out (fun q => q))
    have HNW := Bx.mk (HU1.out.trans HU.out)
    rcases hj3 with rfl | rfl | rfl | rfl
    · have C := Bx.mk (HF1.out wr HNW.out)
      cases hf : few L1 with
      | false =>
        rw [hf] at C
        clear hf
        repeat' (first | (go_at_call 9; (with_reducible refine (C.out).mono ?_); rintro e2 w2 ⟨rfl, hu2⟩; dsimp only) | go_values | go_skip | go_guarded | go_step | go_upon | go_back)
        go_returns
        exact ⟨rfl, HNW.out.trans hu2⟩
      | true =>
        rw [hf] at C
        have HY := Bx.mk hf
        have C2 := Bx.mk (fun (w' : World) (k : New wr w') => HG1.out w' (HNW.out.trans k) hf)
        clear hf
        by_cases hz : frm 0 L1 = 0
        · rw [hz] at C2
          have HZ := Bx.mk hz
          clear hz
          repeat' (first | (first
            | (go_at_call 9; (with_reducible refine (C.out).mono ?_); rintro e2 w2 ⟨rfl, hu2⟩; dsimp only)
            | (go_at_call 17; (with_reducible refine (C2.out _ hu2).mono ?_); rintro e3 w3 ⟨rfl, hu3⟩; dsimp only)) | go_values | go_skip | go_guarded | go_step | go_upon | go_back)
          (refine met_loop (by assumption) (by kernel_rfl) (by kernel_rfl) ?rel; (case' rel => try dsimp only [slotsOf, List.getD_cons_succ, List.getD_cons_zero]))
          case rel => exact ⟨_, ⟨1, by omega, rfl, ⟨fun _ => ⟨HY.out, HZ.out⟩⟩, ⟨fun h => by omega⟩, ⟨fun h => by omega⟩, ⟨(HU.out.trans hu2).trans hu3⟩, rfl⟩, by omega⟩
        · obtain ⟨f, hff⟩ : ∃ f, frm 0 L1 = f := ⟨_, rfl⟩
          rw [hff] at C2 hz
          have hzb : (f != 0) = true := by rw [bne_iff_ne]; exact hz
          clear hff
          repeat' (first | (first
            | (go_at_call 9; (with_reducible refine (C.out).mono ?_); rintro e2 w2 ⟨rfl, hu2⟩; dsimp only)
            | (go_at_call 17; (with_reducible refine (C2.out _ hu2).mono ?_); rintro e3 w3 ⟨rfl, hu3⟩; dsimp only)) | go_values | go_skip | go_guarded | go_step | go_upon | go_back)
          go_returns
          exact ⟨rfl, (HNW.out.trans hu2).trans hu3⟩
    · have C := Bx.mk (HF2.out wr HNW.out)
      cases hf : few L2 with
      | false =>
        rw [hf] at C
        clear hf
        repeat' (first | (go_at_call 9; (with_reducible refine (C.out).mono ?_); rintro e2 w2 ⟨rfl, hu2⟩; dsimp only) | go_values | go_skip | go_guarded | go_step | go_upon | go_back)
        go_returns
        exact ⟨rfl, HNW.out.trans hu2⟩
      | true =>
        rw [hf] at C
        have HY := Bx.mk hf
        have C2 := Bx.mk (fun (w' : World) (k : New wr w') => HG2.out w' (HNW.out.trans k) hf)
        clear hf
        by_cases hz : frm 0 L2 = 0
        · rw [hz] at C2
          have HZ := Bx.mk hz
          clear hz
          repeat' (first | (first
            | (go_at_call 9; (with_reducible refine (C.out).mono ?_); rintro e2 w2 ⟨rfl, hu2⟩; dsimp only)
            | (go_at_call 17; (with_reducible refine (C2.out _ hu2).mono ?_); rintro e3 w3 ⟨rfl, hu3⟩; dsimp only)) | go_values | go_skip | go_guarded | go_step | go_upon | go_back)
          (refine met_loop (by assumption) (by kernel_rfl) (by kernel_rfl) ?rel; (case' rel => try dsimp only [slotsOf, List.getD_cons_succ, List.getD_cons_zero]))
          case rel => exact ⟨_, ⟨2, by omega, rfl, ⟨fun _ => HJ1.out (by omega)⟩, ⟨fun _ => ⟨HY.out, HZ.out⟩⟩, ⟨fun h => by omega⟩, ⟨(HU.out.trans hu2).trans hu3⟩, rfl⟩, by omega⟩
        · obtain ⟨f, hff⟩ : ∃ f, frm 0 L2 = f := ⟨_, rfl⟩
          rw [hff] at C2 hz
          have hzb : (f != 0) = true := by rw [bne_iff_ne]; exact hz
          clear hff
          repeat' (first | (first
            | (go_at_call 9; (with_reducible refine (C.out).mono ?_); rintro e2 w2 ⟨rfl, hu2⟩; dsimp only)
            | (go_at_call 17; (with_reducible refine (C2.out _ hu2).mono ?_); rintro e3 w3 ⟨rfl, hu3⟩; dsimp only)) | go_values | go_skip | go_guarded | go_step | go_upon | go_back)
          go_returns
          exact ⟨rfl, (HNW.out.trans hu2).trans hu3⟩
    · have C := Bx.mk (HF3.out wr HNW.out)
      cases hf : few L3 with
      | false =>
        rw [hf] at C
        clear hf
        repeat' (first | (go_at_call 9; (with_reducible refine (C.out).mono ?_); rintro e2 w2 ⟨rfl, hu2⟩; dsimp only) | go_values | go_skip | go_guarded | go_step | go_upon | go_back)
        go_returns
        exact ⟨rfl, HNW.out.trans hu2⟩
      | true =>
        rw [hf] at C
        have HY := Bx.mk hf
        have C2 := Bx.mk (fun (w' : World) (k : New wr w') => HG3.out w' (HNW.out.trans k) hf)
        clear hf
        by_cases hz : frm 0 L3 = 0
        · rw [hz] at C2
          have HZ := Bx.mk hz
          clear hz
          repeat' (first | (first
            | (go_at_call 9; (with_reducible refine (C.out).mono ?_); rintro e2 w2 ⟨rfl, hu2⟩; dsimp only)
            | (go_at_call 17; (with_reducible refine (C2.out _ hu2).mono ?_); rintro e3 w3 ⟨rfl, hu3⟩; dsimp only)) | go_values | go_skip | go_guarded | go_step | go_upon | go_back)
          (refine met_loop (by assumption) (by kernel_rfl) (by kernel_rfl) ?rel; (case' rel => try dsimp only [slotsOf, List.getD_cons_succ, List.getD_cons_zero]))
          case rel => exact ⟨_, ⟨3, by omega, rfl, ⟨fun _ => HJ1.out (by omega)⟩, ⟨fun _ => HJ2.out (by omega)⟩, ⟨fun _ => ⟨HY.out, HZ.out⟩⟩, ⟨(HU.out.trans hu2).trans hu3⟩, rfl⟩, by omega⟩
        · obtain ⟨f, hff⟩ : ∃ f, frm 0 L3 = f := ⟨_, rfl⟩
          rw [hff] at C2 hz
          have hzb : (f != 0) = true := by rw [bne_iff_ne]; exact hz
          clear hff
          repeat' (first | (first
            | (go_at_call 9; (with_reducible refine (C.out).mono ?_); rintro e2 w2 ⟨rfl, hu2⟩; dsimp only)
            | (go_at_call 17; (with_reducible refine (C2.out _ hu2).mono ?_); rintro e3 w3 ⟨rfl, hu3⟩; dsimp only)) | go_values | go_skip | go_guarded | go_step | go_upon | go_back)
          go_returns
          exact ⟨rfl, (HNW.out.trans hu2).trans hu3⟩
    · have O1 := Bx.mk (few_ok B1.out (HJ1.out (by omega)).1 (HJ1.out (by omega)).2)
      have O2 := Bx.mk (few_ok B2.out (HJ2.out (by omega)).1 (HJ2.out (by omega)).2)
      have O3 := Bx.mk (few_ok B3.out (HJ3.out (by omega)).1 (HJ3.out (by omega)).2)
      have T1 := Bx.mk (fun (w' : World) (k : New w w') => Twins_ok (c := p1) (H1.out.new k) O1.out.n O1.out.sm)
      have T2 := Bx.mk (fun (w' : World) (k : New w w') => Twins_ok (c := p2) (H2.out.new k) O2.out.n O2.out.sm)
      have T3 := Bx.mk (fun (w' : World) (k : New w w') => Twins_ok (c := p3) (H3.out.new k) O3.out.n O3.out.sm)
      clear HF1 HF2 HF3 HG1 HG2 HG3 B1 B2 B3 HJ1 HJ2 HJ3 l0 l1 l2 HLIT HU
      go_upto_region 9 with (fail)
      have N0 := HNW.out
      go_upto_region 10 with (first
        | (go_at_call 11; (with_reducible refine (T1.out _ N0).mono ?_); rintro eaa waa ⟨⟨xaa, xba, xca, rfl, hxa⟩, kaa⟩; dsimp only)
        | (go_at_call 11; (with_reducible refine (T2.out _ (N0.trans kaa)).mono ?_); rintro eba wba ⟨⟨yaa, yba, yca, rfl, hya⟩, kba⟩; dsimp only)
        | (go_at_call 18; (with_reducible refine (Diff_ok (hxa.new kba) hya O1.out O2.out _ rfl).mono ?_); rintro eca wca ⟨⟨gaa, gba, gca, caa, cba, cca, daa, dba, dca, rfl, hda⟩, kca⟩; dsimp only))
      have hba := heap_alloc_new wca (.cells #[.slice gaa gba gca, .slice caa cba cca, .slice daa dba dca] 26)
      have nba := newA wca (.cells #[.slice gaa gba gca, .slice caa cba cca, .slice daa dba dca] 26)
      have Na := ((N0.trans kaa).trans kba).trans (kca.trans nba)
      have HDa := Bx.mk (hda.new nba)
      have HBa := Bx.mk hba
      have Ka := Bx.mk ((kaa.trans kba).trans (kca.trans nba))
      clear hxa hya kaa kba kca hda nba hba
      generalize wca.alloc (.cells #[.slice gaa gba gca, .slice caa cba cca, .slice daa dba dca] 26) = Wa at *
      generalize wca.heap.size = Pa at *
      have HN4 := Bx.mk Na
      clear N0 Na Ka T1 T2
      have HSD := Bx.mk (mrg_smD (a := L1) (b := L2) (by have := O1.out.n; omega) (by have := O2.out.n; omega) O2.out.sm)
      (refine wp_cutM [none, none, none, some 3, some 4, some 5, some 6, some 7, some 8, none, some 10, some 11, some 12, some 13, some 14, some 15, some 16, some 17, some 18, some 19, some 20, some 21, some 22, some 23, some 24, some 25, some 26, some 27, some 28, some 29, some 30, some 31, some 32, some 33, some 34, some 35, some 36, some 37, some 38, some 39, some 40, some 41, some 42, some 43, some 44, some 45, some 46, some 47, some 48, some 49, some 50, some 51, some 52, some 53, some 54, some 55, some 56, some 57, some 58, some 59, some 60, some 61, some 62, some 63, some 64, some 65, some 66, some 67, some 68, some 69, some 70, some 71, some 72, some 73, some 74, some 75, some 76, some 77, some 78] (fun fs wx => (fun v v' wx => ((∃ (t0 : Option Addr) (t1 t2 : Nat) (N : List Et), v = .slice t0 t1 t2 ∧ v' = .int .i64 0 ∧ Bx (EnL wx t0 t1 N) ∧ Bx (frm 0 N = 0) ∧ Bx (mrg L3 N = mrg L1 L2) ∧ Bx (Sm N) ∧ N.length ≤ 900) ∨ (v = .slice none 0 0 ∧ v' = .int .i64 4 ∧ Bx (L1 ≠ L3))) ∧ Bx (New Wa wx)) (fs 11) (fs 12) wx) ?first ?rest; (case' first => intro _ _ _ _); (case' rest => (intro fs wc hcut; simp only [Mix]; generalize fs 11 = u11 at hcut ⊢; generalize fs 12 = u12 at hcut ⊢; try dsimp only at hcut)))
      case first =>
        have hd0 : New Wa Wa.drew := (Upd.refl Nowhere Wa).drew
        obtain ⟨z0, z1, z2, _⟩ := o3_at (hd0.blk HBa.out (fun q => q))
        have C1 := Bx.mk (T3.out _ (HN4.out.trans hd0))
        have C2 := Bx.mk (fun {A : Option Addr} {n p : Nat} {wz : World} (hq : EnL wz A n L3) (kq : New Wa wz) => Patch_wr (p := p) (c2 := cca) (h2 := dca) hq (HDa.out.new kq) O1.out O2.out O3.out rfl)
        go_region_law (first
          | (go_simp; (go_at_call 11; (with_reducible refine (C1.out).mono ?_); rintro e1 v1 ⟨⟨x0, x1, x2, rfl, hx⟩, k1⟩; dsimp only); obtain ⟨y0, y1, y2, _⟩ := o3_at ((hd0.trans k1).blk HBa.out (fun q => q)))
          | (go_simp; (go_at_call 13; (with_reducible refine (C2.out hx (hd0.trans k1)).mono ?_); rintro e2 v2 ⟨⟨t0, t1, t2, EE, rfl, hres⟩, k2⟩; dsimp only)))
        all_goals (
          rcases hres with ⟨N, rfl, hr⟩ | ⟨rfl, rfl, rfl, rfl, hr⟩
          · repeat' (first | fail | go_values | go_skip | go_guarded | go_step | go_upon | go_back)
            (refine met_cut (by assumption) (by kernel_rfl) (by kernel_rfl) ?rel; (case' rel => try dsimp only [slotsOf, List.getD_cons_succ, List.getD_cons_zero]))
            case rel => exact ⟨.inl ⟨t0, t1, t2, N, rfl, rfl, ⟨hr.1⟩, ⟨hr.2.1⟩, ⟨hr.2.2.1⟩, ⟨hr.2.2.2.1⟩, hr.2.2.2.2⟩, ⟨(hd0.trans k1).trans k2⟩⟩
          · repeat' (first | fail | go_values | go_skip | go_guarded | go_step | go_upon | go_back)
            (refine met_cut (by assumption) (by kernel_rfl) (by kernel_rfl) ?rel; (case' rel => try dsimp only [slotsOf, List.getD_cons_succ, List.getD_cons_zero]))
            case rel => exact ⟨.inr ⟨rfl, rfl, ⟨hr⟩⟩, ⟨(hd0.trans k1).trans k2⟩⟩)
      case rest =>
        obtain ⟨hres, HK⟩ := hcut
        rename World => we
        have HN5 := Bx.mk (HN4.out.trans HK.out)
        replace HDa := Bx.mk (HDa.out.new HK.out)
        replace HBa := Bx.mk (HK.out.blk HBa.out (fun q => q))
        clear HN4 HK
        rcases hres with ⟨t0, t1, t2, N, rfl, rfl, HX, HF, HM, HSN, hN9⟩ | ⟨rfl, rfl, HNE⟩
        · have CT := Bx.mk (T3.out _ HN5.out)
          have CD := Bx.mk (fun {A : Option Addr} {n p : Nat} {wz : World} (hq : EnL wz A n L3) (kq : New we wz) => Diff_any A n p L3 t0 t1 t2 N wz hq (HX.out.new kq) (by have := hq.len; have := O3.out.n; omega) (by have := HX.out.len; omega) O3.out.sm HSN.out)
          rw [(diffE_ok O3.out.f HF.out).1, (diffE_ok O3.out.f HF.out).2, HM.out] at CD
          go_upto_region 14 with (first
            | (go_at_call 11; (with_reducible refine (CT.out).mono ?_); rintro e6 w6 ⟨⟨x0, x1, x2, rfl, hx⟩, k6⟩; dsimp only)
            | (go_at_call 18; (with_reducible refine (CD.out hx k6).mono ?_); rintro e7 w7 ⟨⟨gg, cc, hh, rfl, hdn⟩, k7⟩; obtain ⟨q0, q2, b0, b2, f0, f2, rfl, rfl, rfl, hdr⟩ := hdn.r; dsimp only))
          have hX := newA w7 (.cells #[.slice q0 (mrg L1 L2).gone.length q2, .slice b0 (mrg L1 L2).come.length b2, .slice f0 (mrg L1 L2).chg.length f2] 26)
          have hAll := (k6.trans k7).trans hX
          obtain ⟨z0, z1, z2, _⟩ := o3_at (heap_alloc_new w7 (.cells #[.slice q0 (mrg L1 L2).gone.length q2, .slice b0 (mrg L1 L2).come.length b2, .slice f0 (mrg L1 L2).chg.length f2] 26))
          obtain ⟨x0', x1', x2', _⟩ := o3_at (hAll.blk HBa.out (fun q => q))
          have HSA := Bx.mk (refSame_any q0 _ q2 b0 _ b2 f0 _ f2 (mrg L1 L2) gaa gba gca caa cba cca daa dba dca (mrg L1 L2) _ (hdr.new hX) (HDa.out.new hAll) HSD.out)
          rw [decide_eq_true rfl] at HSA
          clear hdr hdn
          repeat' (first | (go_at_call 16; (with_reducible refine (HSA.out).mono ?_); rintro e9 w9 ⟨rfl, k9⟩; dsimp only) | go_values | go_skip | go_guarded | go_step | go_upon | go_back)
          go_returns
          exact ⟨rfl, (HN5.out.trans hAll).trans k9⟩
        · have S1 := Bx.mk (SameEnts_any A1 n1 p1 L1 A3 n3 p3 L3 we (H1.out.new HN5.out) (H3.out.new HN5.out) (Nat.le_trans O1.out.n (by omega)) (fun x hx => Nat.le_trans (O1.out.l x hx) (by omega)))
          rw [decide_eq_false HNE.out] at S1
          repeat' (first | (go_at_call 15; (with_reducible refine (S1.out).mono ?_); rintro ea wa ⟨rfl, m1⟩; dsimp only) | go_values | go_skip | go_guarded | go_step | go_upon | go_back)
          go_returns
          exact ⟨rfl, HN5.out.trans m1⟩
end Go.Proofs.Ytdnkdmdmekdfkaa
