/- DiffChain: the walk (printed by dfl.py). -/
import Derived.Test.YtdnkdmdmekdfkaaDf19
namespace Go.Proofs.Ytdnkdmdmekdfkaa
open Go.RowKit
set_option maxRecDepth 20000 in
set_option maxHeartbeats 16000000 in
theorem diffChain_any (A1 : Option Addr) (n1 p1 : Nat) (L1 : List Et) (A2 : Option Addr) (n2 p2 : Nat) (L2 : List Et) (A3 : Option Addr) (n3 p3 : Nat) (L3 : List Et) (w : World) (h1 : EnL w A1 n1 L1) (h2 : EnL w A2 n2 L2) (h3 : EnL w A3 n3 L3) (b1 : Bd L1) (b2 : Bd L2) (b3 : Bd L3) (s1 : n1 + sumL L1 ≤ 1000000000) (s2 : n2 + sumL L2 ≤ 1000000000) (s3 : n3 + sumL L3 ≤ 1000000000) :
    Calls Try.prog 4 #[.slice A1 n1 p1, .slice A2 n2 p2, .slice A3 n3 p3] w fun e w' => e = .returned (.bool true) ∧ New w w' := by
  have H1 := Bx.mk h1
  have H2 := Bx.mk h2
  have H3 := Bx.mk h3
  have HF1 := Bx.mk (fun (w' : World) (k : New w w') => Few_any A1 n1 p1 L1 w' (h1.new k) s1)
  have HF2 := Bx.mk (fun (w' : World) (k : New w w') => Few_any A2 n2 p2 L2 w' (h2.new k) s2)
  have HF3 := Bx.mk (fun (w' : World) (k : New w w') => Few_any A3 n3 p3 L3 w' (h3.new k) s3)
  have HG1 := Bx.mk (fun (w' : World) (k : New w w') (f : few L1 = true) => refForm_any A1 n1 p1 L1 w' (h1.new k) (by have := (few_sm b1 f).2; have := h1.len; omega) (few_sm b1 f).1)
  have HG2 := Bx.mk (fun (w' : World) (k : New w w') (f : few L2 = true) => refForm_any A2 n2 p2 L2 w' (h2.new k) (by have := (few_sm b2 f).2; have := h2.len; omega) (few_sm b2 f).1)
  have HG3 := Bx.mk (fun (w' : World) (k : New w w') (f : few L3 = true) => refForm_any A3 n3 p3 L3 w' (h3.new k) (by have := (few_sm b3 f).2; have := h3.len; omega) (few_sm b3 f).1)
  have B1 := Bx.mk b1
  have B2 := Bx.mk b2
  have B3 := Bx.mk b3
  clear h1 h2 h3 b1 b2 b3 s1 s2 s3
  go_enter Try.func4, Try.ntmps4
  go_upto_region 3 with (first
    | (go_at_call 8; (with_reducible refine (awake19_any _).mono ?_); rintro e1 w1 ⟨rfl, hu1⟩; dsimp only))
  have hlit := heap_alloc_new w1 (.cells #[.slice A1 n1 p1, .slice A2 n2 p2, .slice A3 n3 p3] 22)
  have U2 := hu1.alloc (.cells #[.slice A1 n1 p1, .slice A2 n2 p2, .slice A3 n3 p3] 22)
  go_upto_block 0 with (fail)
  generalize w1.alloc (.cells #[.slice A1 n1 p1, .slice A2 n2 p2, .slice A3 n3 p3] 22) = wB at *
  generalize w1.heap.size = Bl at *
  have HLIT := Bx.mk hlit
  have HU1 := Bx.mk U2
  clear hlit U2 hu1
  repeat' (first | fail | go_values | go_skip | go_guarded | go_step | go_upon | go_back)
  (refine wp_loopM [none, none, none, some 3, some 4, some 5, none, some 7, some 8, some 9, some 10, some 11, some 12, some 13, some 14, some 15, some 16, some 17, some 18, some 19, some 20, some 21, some 22, some 23, some 24, some 25, some 26, some 27, some 28, some 29, none, none, some 32, some 33, some 34, some 35, some 36, some 37, some 38, some 39, some 40, some 41, some 42, some 43, some 44, some 45, some 46, some 47, some 48, some 49, some 50, some 51, some 52, some 53, some 54, some 55, some 56, some 57, some 58, some 59, some 60, some 61, some 62, some 63, some 64, some 65, some 66, some 67, some 68, some 69, some 70, some 71, some 72, some 73, some 74, some 75, some 76, some 77, some 78, some 79, some 80, some 81, some 82, some 83, some 84, some 85, some 86, some 87, some 88, some 89, some 90, some 91, some 92, some 93, some 94, some 95, some 96, some 97, some 98, some 99, some 100, some 101, some 102, some 103, some 104, some 105, some 106, some 107, some 108, some 109, some 110, some 111, some 112, some 113, some 114, some 115, some 116, some 117, some 118, some 119, some 120, some 121, some 122, some 123, some 124, some 125, some 126, some 127, some 128, some 129, some 130, some 131] (fun fs wr dM => (fun iv wr dd => ∃ j : Nat, j ≤ 3 ∧ iv = .int .i64 j ∧ Bx (1 ≤ j → few L1 = true ∧ frm 0 L1 = 0) ∧ Bx (2 ≤ j → few L2 = true ∧ frm 0 L2 = 0) ∧ Bx (3 ≤ j → few L3 = true ∧ frm 0 L3 = 0) ∧ Bx (New wB wr) ∧ dd = 3 - j) (fs 32) wr dM) (by kernel_rfl) ?atStart ?round; (case' atStart => dsimp only [slotsOf, List.getD_cons_succ, List.getD_cons_zero]); (case' round => (intro dM_ J_ K_ fs wr hrel hJ_ hK_; simp only [Mix]; generalize fs 32 = u32 at hrel ⊢; try dsimp only at hrel)))
  case atStart => exact ⟨_, 0, by omega, rfl, ⟨fun h => by omega⟩, ⟨fun h => by omega⟩, ⟨fun h => by omega⟩, ⟨Upd.refl _ _⟩, rfl⟩
  case round =>
    obtain ⟨j, hj, rfl, HJ1, HJ2, HJ3, HU, rfl⟩ := hrel
    have hj3 : j = 0 ∨ j = 1 ∨ j = 2 ∨ j = 3 := by omega
    obtain ⟨l0, l1, l2, _⟩ := o3_at (HU.out.blk HLIT.out (fun q => q))
    have HNW := Bx.mk (HU1.out.trans HU.out)
    rcases hj3 with rfl | rfl | rfl | rfl
    · have C := Bx.mk (HF1.out wr HNW.out)
      cases hf : few L1 with
      | false =>
        rw [hf] at C
        clear hf
        repeat' (first | (go_at_call 9; (with_reducible refine (C.out).mono ?_); rintro e2 w2 ⟨rfl, hu2⟩; dsimp only) | go_values | go_skip | go_guarded | go_step | go_upon | go_back)
        go_returns
        exact ⟨rfl, HNW.out.trans hu2⟩
      | true =>
        rw [hf] at C
        have HY := Bx.mk hf
        have C2 := Bx.mk (fun (w' : World) (k : New wr w') => HG1.out w' (HNW.out.trans k) hf)
        clear hf
        by_cases hz : frm 0 L1 = 0
        · rw [hz] at C2
          have HZ := Bx.mk hz
          clear hz
          repeat' (first | (first
            | (go_at_call 9; (with_reducible refine (C.out).mono ?_); rintro e2 w2 ⟨rfl, hu2⟩; dsimp only)
            | (go_at_call 17; (with_reducible refine (C2.out _ hu2).mono ?_); rintro e3 w3 ⟨rfl, hu3⟩; dsimp only)) | go_values | go_skip | go_guarded | go_step | go_upon | go_back)
          (refine met_loop (by assumption) (by kernel_rfl) (by kernel_rfl) ?rel; (case' rel => try dsimp only [slotsOf, List.getD_cons_succ, List.getD_cons_zero]))
          case rel => exact ⟨_, ⟨1, by omega, rfl, ⟨fun _ => ⟨HY.out, HZ.out⟩⟩, ⟨fun h => by omega⟩, ⟨fun h => by omega⟩, ⟨(HU.out.trans hu2).trans hu3⟩, rfl⟩, by omega⟩
        · obtain ⟨f, hff⟩ : ∃ f, frm 0 L1 = f := ⟨_, rfl⟩
          rw [hff] at C2 hz
          have hzb : (f != 0) = true := by rw [bne_iff_ne]; exact hz
          clear hff
          repeat' (first | (first
            | (go_at_call 9; (with_reducible refine (C.out).mono ?_); rintro e2 w2 ⟨rfl, hu2⟩; dsimp only)
            | (go_at_call 17; (with_reducible refine (C2.out _ hu2).mono ?_); rintro e3 w3 ⟨rfl, hu3⟩; dsimp only)) | go_values | go_skip | go_guarded | go_step | go_upon | go_back)
          go_returns
          exact ⟨rfl, (HNW.out.trans hu2).trans hu3⟩
    · have C := Bx.mk (HF2.out wr HNW.out)
      cases hf : few L2 with
      | false =>
        rw [hf] at C
        clear hf
        repeat' (first | (go_at_call 9; (with_reducible refine (C.out).mono ?_); rintro e2 w2 ⟨rfl, hu2⟩; dsimp only) | go_values | go_skip | go_guarded | go_step | go_upon | go_back)
        go_returns
        exact ⟨rfl, HNW.out.trans hu2⟩
      | true =>
        rw [hf] at C
        have HY := Bx.mk hf
        have C2 := Bx.mk (fun (w' : World) (k : New wr w') => HG2.out w' (HNW.out.trans k) hf)
        clear hf
        by_cases hz : frm 0 L2 = 0
        · rw [hz] at C2
          have HZ := Bx.mk hz
          clear hz
          repeat' (first | (first
            | (go_at_call 9; (with_reducible refine (C.out).mono ?_); rintro e2 w2 ⟨rfl, hu2⟩; dsimp only)
            | (go_at_call 17; (with_reducible refine (C2.out _ hu2).mono ?_); rintro e3 w3 ⟨rfl, hu3⟩; dsimp only)) | go_values | go_skip | go_guarded | go_step | go_upon | go_back)
          (refine met_loop (by assumption) (by kernel_rfl) (by kernel_rfl) ?rel; (case' rel => try dsimp only [slotsOf, List.getD_cons_succ, List.getD_cons_zero]))
          case rel => exact ⟨_, ⟨2, by omega, rfl, ⟨fun _ => HJ1.out (by omega)⟩, ⟨fun _ => ⟨HY.out, HZ.out⟩⟩, ⟨fun h => by omega⟩, ⟨(HU.out.trans hu2).trans hu3⟩, rfl⟩, by omega⟩
        · obtain ⟨f, hff⟩ : ∃ f, frm 0 L2 = f := ⟨_, rfl⟩
          rw [hff] at C2 hz
          have hzb : (f != 0) = true := by rw [bne_iff_ne]; exact hz
          clear hff
          repeat' (first | (first
            | (go_at_call 9; (with_reducible refine (C.out).mono ?_); rintro e2 w2 ⟨rfl, hu2⟩; dsimp only)
            | (go_at_call 17; (with_reducible refine (C2.out _ hu2).mono ?_); rintro e3 w3 ⟨rfl, hu3⟩; dsimp only)) | go_values | go_skip | go_guarded | go_step | go_upon | go_back)
          go_returns
          exact ⟨rfl, (HNW.out.trans hu2).trans hu3⟩
    · have C := Bx.mk (HF3.out wr HNW.out)
      cases hf : few L3 with
      | false =>
        rw [hf] at C
        clear hf
        repeat' (first | (go_at_call 9; (with_reducible refine (C.out).mono ?_); rintro e2 w2 ⟨rfl, hu2⟩; dsimp only) | go_values | go_skip | go_guarded | go_step | go_upon | go_back)
        go_returns
        exact ⟨rfl, HNW.out.trans hu2⟩
      | true =>
        rw [hf] at C
        have HY := Bx.mk hf
        have C2 := Bx.mk (fun (w' : World) (k : New wr w') => HG3.out w' (HNW.out.trans k) hf)
        clear hf
        by_cases hz : frm 0 L3 = 0
        · rw [hz] at C2
          have HZ := Bx.mk hz
          clear hz
          repeat' (first | (first
            | (go_at_call 9; (with_reducible refine (C.out).mono ?_); rintro e2 w2 ⟨rfl, hu2⟩; dsimp only)
            | (go_at_call 17; (with_reducible refine (C2.out _ hu2).mono ?_); rintro e3 w3 ⟨rfl, hu3⟩; dsimp only)) | go_values | go_skip | go_guarded | go_step | go_upon | go_back)
          (refine met_loop (by assumption) (by kernel_rfl) (by kernel_rfl) ?rel; (case' rel => try dsimp only [slotsOf, List.getD_cons_succ, List.getD_cons_zero]))
          case rel => exact ⟨_, ⟨3, by omega, rfl, ⟨fun _ => HJ1.out (by omega)⟩, ⟨fun _ => HJ2.out (by omega)⟩, ⟨fun _ => ⟨HY.out, HZ.out⟩⟩, ⟨(HU.out.trans hu2).trans hu3⟩, rfl⟩, by omega⟩
        · obtain ⟨f, hff⟩ : ∃ f, frm 0 L3 = f := ⟨_, rfl⟩
          rw [hff] at C2 hz
          have hzb : (f != 0) = true := by rw [bne_iff_ne]; exact hz
          clear hff
          repeat' (first | (first
            | (go_at_call 9; (with_reducible refine (C.out).mono ?_); rintro e2 w2 ⟨rfl, hu2⟩; dsimp only)
            | (go_at_call 17; (with_reducible refine (C2.out _ hu2).mono ?_); rintro e3 w3 ⟨rfl, hu3⟩; dsimp only)) | go_values | go_skip | go_guarded | go_step | go_upon | go_back)
          go_returns
          exact ⟨rfl, (HNW.out.trans hu2).trans hu3⟩
    · have O1 := Bx.mk (few_ok B1.out (HJ1.out (by omega)).1 (HJ1.out (by omega)).2)
      have O2 := Bx.mk (few_ok B2.out (HJ2.out (by omega)).1 (HJ2.out (by omega)).2)
      have O3 := Bx.mk (few_ok B3.out (HJ3.out (by omega)).1 (HJ3.out (by omega)).2)
      have T1 := Bx.mk (fun (w' : World) (k : New w w') => Twins_ok (c := p1) (H1.out.new k) O1.out.n O1.out.sm)
      have T2 := Bx.mk (fun (w' : World) (k : New w w') => Twins_ok (c := p2) (H2.out.new k) O2.out.n O2.out.sm)
      have T3 := Bx.mk (fun (w' : World) (k : New w w') => Twins_ok (c := p3) (H3.out.new k) O3.out.n O3.out.sm)
      clear HF1 HF2 HF3 HG1 HG2 HG3 B1 B2 B3 HJ1 HJ2 HJ3 l0 l1 l2 HLIT HU
      go_upto_region 9 with (fail)
      have N0 := HNW.out
      go_upto_region 10 with (first
        | (go_at_call 11; (with_reducible refine (T1.out _ N0).mono ?_); rintro eaa waa ⟨⟨xaa, xba, xca, rfl, hxa⟩, kaa⟩; dsimp only)
        | (go_at_call 11; (with_reducible refine (T2.out _ (N0.trans kaa)).mono ?_); rintro eba wba ⟨⟨yaa, yba, yca, rfl, hya⟩, kba⟩; dsimp only)
        | (go_at_call 18; (with_reducible refine (Diff_ok (hxa.new kba) hya O1.out O2.out _ rfl).mono ?_); rintro eca wca ⟨⟨gaa, gba, gca, caa, cba, cca, daa, dba, dca, rfl, hda⟩, kca⟩; dsimp only))
      have hba := heap_alloc_new wca (.cells #[.slice gaa gba gca, .slice caa cba cca, .slice daa dba dca] 26)
      have nba := newA wca (.cells #[.slice gaa gba gca, .slice caa cba cca, .slice daa dba dca] 26)
      have Na := ((N0.trans kaa).trans kba).trans (kca.trans nba)
      have HDa := Bx.mk (hda.new nba)
      have HBa := Bx.mk hba
      have Ka := Bx.mk ((kaa.trans kba).trans (kca.trans nba))
      clear hxa hya kaa kba kca hda nba hba
      generalize wca.alloc (.cells #[.slice gaa gba gca, .slice caa cba cca, .slice daa dba dca] 26) = Wa at *
      generalize wca.heap.size = Pa at *
      go_upto_region 11 with (first
        | (go_at_call 11; (with_reducible refine (T2.out _ Na).mono ?_); rintro eab wab ⟨⟨xab, xbb, xcb, rfl, hxb⟩, kab⟩; dsimp only)
        | (go_at_call 11; (with_reducible refine (T3.out _ (Na.trans kab)).mono ?_); rintro ebb wbb ⟨⟨yab, ybb, ycb, rfl, hyb⟩, kbb⟩; dsimp only)
        | (go_at_call 18; (with_reducible refine (Diff_ok (hxb.new kbb) hyb O2.out O3.out _ rfl).mono ?_); rintro ecb wcb ⟨⟨gab, gbb, gcb, cab, cbb, ccb, dab, dbb, dcb, rfl, hdb⟩, kcb⟩; dsimp only))
      have hbb := heap_alloc_new wcb (.cells #[.slice gab gbb gcb, .slice cab cbb ccb, .slice dab dbb dcb] 26)
      have nbb := newA wcb (.cells #[.slice gab gbb gcb, .slice cab cbb ccb, .slice dab dbb dcb] 26)
      have Nb := ((Na.trans kab).trans kbb).trans (kcb.trans nbb)
      have HDb := Bx.mk (hdb.new nbb)
      have HBb := Bx.mk hbb
      have Kb := Bx.mk ((kab.trans kbb).trans (kcb.trans nbb))
      clear hxb hyb kab kbb kcb hdb nbb hbb
      generalize wcb.alloc (.cells #[.slice gab gbb gcb, .slice cab cbb ccb, .slice dab dbb dcb] 26) = Wb at *
      generalize wcb.heap.size = Pb at *
      replace HDa := Bx.mk (HDa.out.new Kb.out)
      replace HBa := Bx.mk (Kb.out.blk HBa.out (fun q => q))
      go_upto_region 12 with (first
        | (go_at_call 11; (with_reducible refine (T1.out _ Nb).mono ?_); rintro eac wac ⟨⟨xac, xbc, xcc, rfl, hxc⟩, kac⟩; dsimp only)
        | (go_at_call 11; (with_reducible refine (T3.out _ (Nb.trans kac)).mono ?_); rintro ebc wbc ⟨⟨yac, ybc, ycc, rfl, hyc⟩, kbc⟩; dsimp only)
        | (go_at_call 18; (with_reducible refine (Diff_ok (hxc.new kbc) hyc O1.out O3.out _ rfl).mono ?_); rintro ecc wcc ⟨⟨gac, gbc, gcc, cac, cbc, ccc, dac, dbc, dcc, rfl, hdc⟩, kcc⟩; dsimp only))
      have hbc := heap_alloc_new wcc (.cells #[.slice gac gbc gcc, .slice cac cbc ccc, .slice dac dbc dcc] 26)
      have nbc := newA wcc (.cells #[.slice gac gbc gcc, .slice cac cbc ccc, .slice dac dbc dcc] 26)
      have Nc := ((Nb.trans kac).trans kbc).trans (kcc.trans nbc)
      have HDc := Bx.mk (hdc.new nbc)
      have HBc := Bx.mk hbc
      have Kc := Bx.mk ((kac.trans kbc).trans (kcc.trans nbc))
      clear hxc hyc kac kbc kcc hdc nbc hbc
      generalize wcc.alloc (.cells #[.slice gac gbc gcc, .slice cac cbc ccc, .slice dac dbc dcc] 26) = Wc at *
      generalize wcc.heap.size = Pc at *
      replace HDa := Bx.mk (HDa.out.new Kc.out)
      replace HDb := Bx.mk (HDb.out.new Kc.out)
      replace HBa := Bx.mk (Kc.out.blk HBa.out (fun q => q))
      replace HBb := Bx.mk (Kc.out.blk HBb.out (fun q => q))
      go_upto_region 13 with (first
        | (go_at_call 11; (with_reducible refine (T2.out _ Nc).mono ?_); rintro ead wad ⟨⟨xad, xbd, xcd, rfl, hxd⟩, kad⟩; dsimp only)
        | (go_at_call 11; (with_reducible refine (T1.out _ (Nc.trans kad)).mono ?_); rintro ebd wbd ⟨⟨yad, ybd, ycd, rfl, hyd⟩, kbd⟩; dsimp only)
        | (go_at_call 18; (with_reducible refine (Diff_ok (hxd.new kbd) hyd O2.out O1.out _ rfl).mono ?_); rintro ecd wcd ⟨⟨gad, gbd, gcd, cad, cbd, ccd, dad, dbd, dcd, rfl, hdd⟩, kcd⟩; dsimp only))
      have hbd := heap_alloc_new wcd (.cells #[.slice gad gbd gcd, .slice cad cbd ccd, .slice dad dbd dcd] 26)
      have nbd := newA wcd (.cells #[.slice gad gbd gcd, .slice cad cbd ccd, .slice dad dbd dcd] 26)
      have Nd := ((Nc.trans kad).trans kbd).trans (kcd.trans nbd)
      have HDd := Bx.mk (hdd.new nbd)
      have HBd := Bx.mk hbd
      have Kd := Bx.mk ((kad.trans kbd).trans (kcd.trans nbd))
      clear hxd hyd kad kbd kcd hdd nbd hbd
      generalize wcd.alloc (.cells #[.slice gad gbd gcd, .slice cad cbd ccd, .slice dad dbd dcd] 26) = Wd at *
      generalize wcd.heap.size = Pd at *
      replace HDa := Bx.mk (HDa.out.new Kd.out)
      replace HDb := Bx.mk (HDb.out.new Kd.out)
      replace HDc := Bx.mk (HDc.out.new Kd.out)
      replace HBa := Bx.mk (Kd.out.blk HBa.out (fun q => q))
      replace HBb := Bx.mk (Kd.out.blk HBb.out (fun q => q))
      replace HBc := Bx.mk (Kd.out.blk HBc.out (fun q => q))
      have HN4 := Bx.mk Nd
      clear N0 Na Nb Nc Nd Ka Kb Kc Kd T2 T3
      (refine wp_cutM [none, none, none, some 3, some 4, some 5, some 6, some 7, some 8, none, some 10, none, some 12, none, some 14, none, some 16, some 17, some 18, some 19, some 20, some 21, some 22, some 23, some 24, some 25, some 26, some 27, some 28, some 29, some 30, some 31, some 32, some 33, some 34, some 35, some 36, some 37, some 38, some 39, some 40, some 41, some 42, some 43, some 44, some 45, some 46, some 47, some 48, some 49, some 50, some 51, some 52, some 53, some 54, some 55, some 56, some 57, some 58, some 59, some 60, some 61, some 62, some 63, some 64, some 65, some 66, some 67, some 68, some 69, some 70, some 71, some 72, some 73, some 74, some 75, some 76, some 77, some 78, some 79, some 80, some 81, some 82, some 83, some 84, some 85, some 86, some 87, some 88, some 89, some 90, some 91, some 92, some 93, some 94, some 95, some 96, some 97, some 98, some 99, some 100, some 101, some 102, some 103, some 104, some 105, some 106, some 107, some 108, some 109, some 110, some 111, some 112, some 113, some 114, some 115, some 116, some 117, some 118, some 119, some 120, some 121, some 122, some 123, some 124, some 125, some 126, some 127, some 128, some 129, some 130, some 131] (fun fs wx => (fun v v' wx => ∃ (t0 : Option Addr) (t1 t2 : Nat), v = .slice t0 t1 t2 ∧ v' = .int .i64 0 ∧ Bx (EnL wx t0 t1 L2) ∧ Bx (New Wd wx)) (fs 17) (fs 18) wx) ?first ?rest; (case' first => intro _ _ _ _); (case' rest => (intro fs wc hcut; simp only [Mix]; generalize fs 17 = u17 at hcut ⊢; generalize fs 18 = u18 at hcut ⊢; try dsimp only at hcut)))
      case first =>
        have hd0 : New Wd Wd.drew := (Upd.refl Nowhere Wd).drew
        obtain ⟨z0, z1, z2, _⟩ := o3_at (hd0.blk HBa.out (fun q => q))
        have C1 := Bx.mk (T1.out _ (HN4.out.trans hd0))
        have C2 := Bx.mk (fun {A : Option Addr} {n p : Nat} {wz : World} (hq : EnL wz A n L1) (kq : New Wd wz) => Patch_ok (p := p) (c2 := cca) (h2 := dca) hq (HDa.out.new kq) O1.out O2.out rfl)
        go_region_law (first
          | (go_simp; (go_at_call 11; (with_reducible refine (C1.out).mono ?_); rintro e1 v1 ⟨⟨x0, x1, x2, rfl, hx⟩, k1⟩; dsimp only); obtain ⟨y0, y1, y2, _⟩ := o3_at ((hd0.trans k1).blk HBa.out (fun q => q)))
          | (go_simp; (go_at_call 13; (with_reducible refine (C2.out hx (hd0.trans k1)).mono ?_); rintro e2 v2 ⟨⟨t0, t1, t2, rfl, ht⟩, k2⟩; dsimp only)))
        all_goals (
          repeat' (first | fail | go_values | go_skip | go_guarded | go_step | go_upon | go_back)
          (refine met_cut (by assumption) (by kernel_rfl) (by kernel_rfl) ?rel; (case' rel => try dsimp only [slotsOf, List.getD_cons_succ, List.getD_cons_zero]))
          case rel => exact ⟨t0, t1, t2, rfl, rfl, ⟨ht⟩, ⟨(hd0.trans k1).trans k2⟩⟩)
      case rest =>
        obtain ⟨x0, x1, x2, rfl, rfl, HX, HK⟩ := hcut
        rename World => we
        have HN5 := Bx.mk (HN4.out.trans HK.out)
        replace HDb := Bx.mk (HDb.out.new HK.out)
        replace HDc := Bx.mk (HDc.out.new HK.out)
        replace HDd := Bx.mk (HDd.out.new HK.out)
        replace HBb := Bx.mk (HK.out.blk HBb.out (fun q => q))
        replace HBc := Bx.mk (HK.out.blk HBc.out (fun q => q))
        replace HBd := Bx.mk (HK.out.blk HBd.out (fun q => q))
        clear HN4 HDa HBa HK
        obtain ⟨z0, z1, z2, _⟩ := o3_at HBb.out
        have CP := Bx.mk (Patch_ok (p := x2) (c2 := ccb) (h2 := dcb) HX.out HDb.out O2.out O3.out rfl)
        go_upto_region 15 with (first
          | (go_at_call 13; (with_reducible refine (CP.out).mono ?_); rintro e6 wf ⟨⟨y0, y1, y2, rfl, hy⟩, k6⟩; dsimp only))
        have HY := Bx.mk hy
        have HN6 := Bx.mk (HN5.out.trans k6)
        replace HX := Bx.mk (HX.out.new k6)
        replace HDc := Bx.mk (HDc.out.new k6)
        replace HDd := Bx.mk (HDd.out.new k6)
        replace HBc := Bx.mk (k6.blk HBc.out (fun q => q))
        replace HBd := Bx.mk (k6.blk HBd.out (fun q => q))
        clear HN5 hy k6 CP z0 z1 z2 HDb HBb
        (refine wp_cutM [none, none, none, some 3, some 4, some 5, some 6, some 7, some 8, none, some 10, none, some 12, none, some 14, none, some 16, none, none, none, none, some 21, some 22, some 23, some 24, some 25, some 26, some 27, some 28, some 29, some 30, some 31, some 32, some 33, some 34, some 35, some 36, some 37, some 38, some 39, some 40, some 41, some 42, some 43, some 44, some 45, some 46, some 47, some 48, some 49, some 50, some 51, some 52, some 53, some 54, some 55, some 56, some 57, some 58, some 59, some 60, some 61, some 62, some 63, some 64, some 65, some 66, some 67, some 68, some 69, some 70, some 71, some 72, some 73, some 74, some 75, some 76, some 77, some 78, some 79, some 80, some 81, some 82, some 83, some 84, some 85, some 86, some 87, some 88, some 89, some 90, some 91, some 92, some 93, some 94, some 95, some 96, some 97, some 98, some 99, some 100, some 101, some 102, some 103, some 104, some 105, some 106, some 107, some 108, some 109, some 110, some 111, some 112, some 113, some 114, some 115, some 116, some 117, some 118, some 119, some 120, some 121, some 122, some 123, some 124, some 125, some 126, some 127, some 128, some 129, some 130, some 131] (fun fs wx => (fun v v' wx => ∃ (t0 : Option Addr) (t1 t2 : Nat), v = .slice t0 t1 t2 ∧ v' = .int .i64 0 ∧ Bx (EnL wx t0 t1 L3) ∧ Bx (New wf wx)) (fs 21) (fs 22) wx) ?first ?rest; (case' first => intro _ _ _ _); (case' rest => (intro fs wc hcut; simp only [Mix]; generalize fs 21 = u21 at hcut ⊢; generalize fs 22 = u22 at hcut ⊢; try dsimp only at hcut)))
        case first =>
          have hd0 : New wf wf.drew := (Upd.refl Nowhere wf).drew
          obtain ⟨z0, z1, z2, _⟩ := o3_at (hd0.blk HBc.out (fun q => q))
          have C1 := Bx.mk (T1.out _ (HN6.out.trans hd0))
          have C2 := Bx.mk (fun {A : Option Addr} {n p : Nat} {wz : World} (hq : EnL wz A n L1) (kq : New wf wz) => Patch_ok (p := p) (c2 := ccc) (h2 := dcc) hq (HDc.out.new kq) O1.out O3.out rfl)
          go_region_law (first
            | (go_simp; (go_at_call 11; (with_reducible refine (C1.out).mono ?_); rintro e1 v1 ⟨⟨x0, x1, x2, rfl, hx⟩, k1⟩; dsimp only); obtain ⟨y0, y1, y2, _⟩ := o3_at ((hd0.trans k1).blk HBc.out (fun q => q)))
            | (go_simp; (go_at_call 13; (with_reducible refine (C2.out hx (hd0.trans k1)).mono ?_); rintro e2 v2 ⟨⟨t0, t1, t2, rfl, ht⟩, k2⟩; dsimp only)))
          all_goals (
            repeat' (first | fail | go_values | go_skip | go_guarded | go_step | go_upon | go_back)
            (refine met_cut (by assumption) (by kernel_rfl) (by kernel_rfl) ?rel; (case' rel => try dsimp only [slotsOf, List.getD_cons_succ, List.getD_cons_zero]))
            case rel => exact ⟨t0, t1, t2, rfl, rfl, ⟨ht⟩, ⟨(hd0.trans k1).trans k2⟩⟩)
        case rest =>
          obtain ⟨u0, u1, u2, rfl, rfl, HZ, HK⟩ := hcut
          rename World => wg
          have HN7 := Bx.mk (HN6.out.trans HK.out)
          replace HX := Bx.mk (HX.out.new HK.out)
          replace HY := Bx.mk (HY.out.new HK.out)
          replace HDd := Bx.mk (HDd.out.new HK.out)
          replace HBd := Bx.mk (HK.out.blk HBd.out (fun q => q))
          clear HN6 HDc HBc HK
          obtain ⟨z0, z1, z2, _⟩ := o3_at HBd.out
          have CP := Bx.mk (Patch_ok (p := x2) (c2 := ccd) (h2 := dcd) HX.out HDd.out O2.out O1.out rfl)
          go_upto_region 17 with (first
            | (go_at_call 13; (with_reducible refine (CP.out).mono ?_); rintro e8 wh ⟨⟨r0, r1, r2, rfl, hr⟩, k8⟩; dsimp only))
          have S1 := Bx.mk (fun (w' : World) (k : New wh w') => SameEnts_any y0 y1 y2 L3 u0 u1 u2 L3 w' (HY.out.new (k8.trans k)) (HZ.out.new (k8.trans k)) (Nat.le_trans O3.out.n (by omega)) (fun x hx => Nat.le_trans (O3.out.l x hx) (by omega)))
          have S2 := Bx.mk (fun (w' : World) (k : New wh w') => SameEnts_any y0 y1 y2 L3 A3 n3 p3 L3 w' (HY.out.new (k8.trans k)) (H3.out.new ((HN7.out.trans k8).trans k)) (Nat.le_trans O3.out.n (by omega)) (fun x hx => Nat.le_trans (O3.out.l x hx) (by omega)))
          have S3 := Bx.mk (fun (w' : World) (k : New wh w') => SameEnts_any r0 r1 r2 L1 A1 n1 p1 L1 w' (hr.new k) (H1.out.new ((HN7.out.trans k8).trans k)) (Nat.le_trans O1.out.n (by omega)) (fun x hx => Nat.le_trans (O1.out.l x hx) (by omega)))
          rw [decide_eq_true rfl] at S1 S2 S3
          have k0 : New wh wh := Upd.refl _ _
          have HN8 := Bx.mk (HN7.out.trans k8)
          clear hr k8 CP z0 z1 z2
          repeat' (first | (first
            | (go_at_call 15; (with_reducible refine (S1.out _ k0).mono ?_); rintro ea wa ⟨rfl, m1⟩; dsimp only)
            | (go_at_call 15; (with_reducible refine (S2.out _ m1).mono ?_); rintro eb wb ⟨rfl, m2⟩; dsimp only)
            | (go_at_call 15; (with_reducible refine (S3.out _ (m1.trans m2)).mono ?_); rintro ec wc ⟨rfl, m3⟩; dsimp only)) | go_values | go_skip | go_guarded | go_step | go_upon | go_back)
          go_returns
          exact ⟨rfl, ((HN8.out.trans m1).trans m2).trans m3⟩
end Go.Proofs.Ytdnkdmdmekdfkaa
