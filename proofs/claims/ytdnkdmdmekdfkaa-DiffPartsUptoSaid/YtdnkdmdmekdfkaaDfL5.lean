/- DiffParts: the walk. -/
import Derived.Test.YtdnkdmdmekdfkaaDfM
import Derived.Test.YtdnkdmdmekdfkaaDfP3
import Derived.Test.YtdnkdmdmekdfkaaDf20
namespace Go.Proofs.Ytdnkdmdmekdfkaa
open Go.RowKit Go.Maps
/-- one more name -/
theorem Seen.step {w w' : World} {B : Nat} {ks : List Nat} {v : Nat} {D : DataW Unit} (h2 : SeenD D ks) (ho : w'.ownsMap Try.prog 40 (plainElem Try.prog 3) B (ks.length + 1) (D.put (.int .u32 v) (.lit (.int .i64 1)))) : Seen w' B (ks ++ [v]) :=
  ⟨_, by rw [List.length_append]; exact ho, h2.plus⟩
theorem Seen.upd {S : Nat → Prop} {w w' : World} {B : Nat} {ks : List Nat} (h : Seen w B ks) (k : Upd S w w') (hn : ¬ S B) : Seen w' B ks := by
  obtain ⟨D, h1, h2⟩ := h.ex
  exact ⟨D, map_upd h1 k hn, h2⟩
theorem take_more (K : List Nat) (m : Nat) (hm : m < K.length) (v : Nat) (hv : K[m]? = some v) (hn : K.Nodup) : K.take (m + 1) = K.take m ++ [v] ∧ ¬ v ∈ K.take m := by
  have e : K[m] = v := by rw [List.getElem?_eq_getElem hm] at hv; exact Option.some.inj hv
  refine ⟨by rw [List.take_succ_eq_append_getElem hm, e], fun h => ?_⟩
  have h1 : (K.take m ++ [v]).Nodup := by rw [← e, ← List.take_succ_eq_append_getElem hm]; exact hn.sublist (List.take_sublist _ _)
  exact (List.nodup_append.1 h1).2.2 v h v (by simp) rfl
set_option maxRecDepth 20000 in
set_option maxHeartbeats 16000000 in
theorem diffParts_any (A1 : Option Addr) (n1 p1 : Nat) (L1 : List Et) (A2 : Option Addr) (n2 p2 : Nat) (L2 : List Et) (w : World) (h1 : EnL w A1 n1 L1) (h2 : EnL w A2 n2 L2) (b1 : Bd L1) (b2 : Bd L2) (s1 : n1 + sumL L1 ≤ 1000000000) (s2 : n2 + sumL L2 ≤ 1000000000) :
    Calls Try.prog 7 #[.slice A1 n1 p1, .slice A2 n2 p2] w fun e w' => e = .returned (.bool true) ∧ New w w' := by
  have H1 := Bx.mk h1
  have H2 := Bx.mk h2
  have HF1 := Bx.mk (fun (w' : World) (k : New w w') => Few_any A1 n1 p1 L1 w' (h1.new k) s1)
  have HF2 := Bx.mk (fun (w' : World) (k : New w w') => Few_any A2 n2 p2 L2 w' (h2.new k) s2)
  have B1 := Bx.mk b1
  have B2 := Bx.mk b2
  clear h1 h2 b1 b2 s1 s2
  go_enter Try.func7, Try.ntmps7
  cases hf1 : few L1 with
  | false =>
    rw [hf1] at HF1
    clear hf1
    repeat' (first | (first
      | (go_at_call 8; (with_reducible refine (awake19_any _).mono ?_); rintro e1 w1 ⟨rfl, hu1⟩; dsimp only)
      | (go_at_call 9; (with_reducible refine (HF1.out _ hu1).mono ?_); rintro e2 w2 ⟨rfl, hu2⟩; dsimp only)) | go_values | go_skip | go_guarded | go_step | go_upon | go_back)
    go_returns
    exact ⟨rfl, hu1.trans hu2⟩
  | true =>
    cases hf2 : few L2 with
    | false =>
      rw [hf1] at HF1
      rw [hf2] at HF2
      clear hf1 hf2
      repeat' (first | (first
        | (go_at_call 8; (with_reducible refine (awake19_any _).mono ?_); rintro e1 w1 ⟨rfl, hu1⟩; dsimp only)
        | (have _m := hu2; (go_at_call 9; (with_reducible refine (HF2.out _ (hu1.trans hu2)).mono ?_); rintro e3 w3 ⟨rfl, hu3⟩; dsimp only))
        | (go_at_call 9; (with_reducible refine (HF1.out _ hu1).mono ?_); rintro e2 w2 ⟨rfl, hu2⟩; dsimp only)) | go_values | go_skip | go_guarded | go_step | go_upon | go_back)
      go_returns
      exact ⟨rfl, (hu1.trans hu2).trans hu3⟩
    | true =>
      have hsm1 := few_sm B1.out hf1
      have hsm2 := few_sm B2.out hf2
      have HY1 := Bx.mk hf1
      have HY2 := Bx.mk hf2
      rw [hf1] at HF1
      rw [hf2] at HF2
      have T1 := Bx.mk (fun (w' : World) (k : New w w') => Twins_ok (c := p1) (H1.out.new k) hsm1.2 hsm1.1)
      have T2 := Bx.mk (fun (w' : World) (k : New w w') => Twins_ok (c := p2) (H2.out.new k) hsm2.2 hsm2.1)
      have CD := Bx.mk (fun {A : Option Addr} {n p : Nat} {A' : Option Addr} {n' p' : Nat} {wz : World} (q1 : EnL wz A n L1) (q2 : EnL wz A' n' L2) => Diff_any A n p L1 A' n' p' L2 wz q1 q2 (by have := q1.len; omega) (by have := q2.len; omega) hsm1.1 hsm2.1)
      clear hf1 hf2
      go_upto_region 6 with (first
        | (go_at_call 8; (with_reducible refine (awake19_any _).mono ?_); rintro e1 w1 ⟨rfl, hu1⟩; dsimp only)
        | (have _m := hu2; (go_at_call 9; (with_reducible refine (HF2.out _ (hu1.trans hu2)).mono ?_); rintro e3 w3 ⟨rfl, hu3⟩; have hu123 := (hu1.trans hu2).trans hu3; dsimp only))
        | (go_at_call 9; (with_reducible refine (HF1.out _ hu1).mono ?_); rintro e2 w2 ⟨rfl, hu2⟩; dsimp only)
        | (go_at_call 11; (with_reducible refine (T1.out _ hu123).mono ?_); rintro e4 w4 ⟨⟨x0, x1, x2, rfl, hx⟩, k4⟩; dsimp only)
        | (go_at_call 11; (with_reducible refine (T2.out _ (hu123.trans k4)).mono ?_); rintro e5 w5 ⟨⟨y0, y1, y2, rfl, hy⟩, k5⟩; dsimp only)
        | (go_at_call 18; (with_reducible refine (CD.out (hx.new k5) hy).mono ?_); rintro e6 w6 ⟨⟨gg, cc, hh, rfl, hdn⟩, k6⟩; obtain ⟨g0, g2, c0, c2, d0, d2, rfl, rfl, rfl, hdr⟩ := hdn.r; dsimp only))
      have hX := newA w6 (.cells #[.slice g0 (diffD L1 L2).gone.length g2, .slice c0 (diffD L1 L2).come.length c2, .slice d0 (diffD L1 L2).chg.length d2] 26)
      have hob := heap_alloc_new w6 (.cells #[.slice g0 (diffD L1 L2).gone.length g2, .slice c0 (diffD L1 L2).come.length c2, .slice d0 (diffD L1 L2).chg.length d2] 26)
      have HN := Bx.mk ((((hu123.trans k4).trans k5).trans k6).trans hX)
      have HDR := Bx.mk (hdr.new hX)
      have HOB := Bx.mk hob
      clear hdn hdr hx hy hu1 hu2 hu3 hu123 k4 k5 k6 hX hob
      generalize w6.alloc (.cells #[.slice g0 (diffD L1 L2).gone.length g2, .slice c0 (diffD L1 L2).come.length c2, .slice d0 (diffD L1 L2).chg.length d2] 26) = wA at *
      generalize w6.heap.size = PD at *
      by_cases hE : diffE L1 L2 = 0
      · have hfr : frm 0 L1 = 0 ∧ frm 0 L2 = 0 := by
          unfold diffE at hE
          by_cases q : frm 0 L1 = 0
          · rw [if_neg (by simp [q])] at hE; exact ⟨q, hE⟩
          · rw [if_pos q] at hE; exact absurd hE q
        have O1 := Bx.mk (few_ok B1.out HY1.out hfr.1)
        have O2 := Bx.mk (few_ok B2.out HY2.out hfr.2)
        rw [(diffE_ok hfr.1 hfr.2).2] at HDR HOB ⊢
        have hE0 := hE
        rw [hE0]
        generalize hDD : mrg L1 L2 = D at *
        have HDD := Bx.mk hDD
        have HND := Bx.mk (show (named D).Nodup by rw [← hDD]; exact named_nodup O1.out.wf.s O2.out.wf.s)
        have HUN := Bx.mk (fun (x : Et) (hx : x ∈ L1) (hn : ¬ x.1 ∈ named D) => unnamed O1.out.wf O2.out.wf hx (by rw [hDD]; exact hn))
        have HID := Bx.mk (show ∀ v ∈ named D, v < 4294967296 by
          intro v hv
          rw [← hDD] at hv
          unfold named at hv
          rcases List.mem_append.1 hv with hv | hv
          · rcases List.mem_append.1 hv with hv | hv
            · rw [mrg_gone L1 L2 O1.out.wf.s O2.out.wf.s] at hv
              obtain ⟨z, hz, e⟩ := List.mem_map.1 hv
              rw [← e]; exact (B1.out z (List.mem_filter.1 hz).1).1
            · obtain ⟨z, hz, e⟩ := List.mem_map.1 hv
              rw [← e]; exact (B2.out z ((mrg_small L1 L2).2.2.2.1 z hz)).1
          · obtain ⟨c, hc, e⟩ := List.mem_map.1 hv
            obtain ⟨y, hy, e2⟩ := (mrg_chg_both L1 L2 c hc).2
            rw [← e, ← e2]; exact (B2.out y hy).1)
        have HSZ := Bx.mk (show (named D).length ≤ 3000 by
          have := mrg_small L1 L2
          rw [hDD] at this
          have := O1.out.n
          have := O2.out.n
          unfold named
          rw [List.length_append, List.length_append, List.length_map, List.length_map]
          omega)
        have hMM := newA wA (.map #[] 0)
        have hSe : Seen (wA.alloc (.map #[] 0)) wA.heap.size [] := ⟨.map [], World.ownsMap_made _ _ _ _, SeenD.none⟩
        have hmm := @run_makeMap Try.prog
        clear hDD hE hE0 hfr
        have HMM := Bx.mk hMM
        have HSe := Bx.mk hSe
        obtain ⟨z0, z1, z2, _⟩ := o3_at (hMM.blk HOB.out (fun q => q))
        clear hMM hSe
        obtain ⟨la, hla⟩ : ∃ x, D.gone.length = x := ⟨_, rfl⟩
        obtain ⟨lb, hlb⟩ : ∃ x, D.come.length = x := ⟨_, rfl⟩
        obtain ⟨lc, hlc⟩ : ∃ x, D.chg.length = x := ⟨_, rfl⟩
        rw [hla, hlb, hlc] at HDR HOB
        rw [hla] at z0
        rw [hlb] at z1
        rw [hlc] at z2
        rw [hla, hlb, hlc]
        have HNL := Bx.mk (show (named D).length = la + lb + lc by unfold named; rw [List.length_append, List.length_append, List.length_map, List.length_map, hla, hlb, hlc])
        have HLA := Bx.mk hla
        have HLB := Bx.mk hlb
        have HLC := Bx.mk hlc
        have hK3 : la + lb + lc ≤ 3000 := by rw [← HNL.out]; exact HSZ.out
        have HA1 := Bx.mk (fun (m : Nat) (hm : m < la) => show (named D)[m]? = D.gone[m]? by unfold named; rw [List.append_assoc, List.getElem?_append_left (by omega)])
        have HA2 := Bx.mk (fun (m : Nat) (hm : m < lb) => show (named D)[la + m]? = (D.come.map ik)[m]? by unfold named; rw [List.append_assoc, List.getElem?_append_right (by omega), List.getElem?_append_left (by rw [List.length_map]; omega), hla, Nat.add_sub_cancel_left])
        have HA3 := Bx.mk (fun (m : Nat) (hm : m < lc) => show (named D)[la + lb + m]? = (D.chg.map fun c => c.id)[m]? by unfold named; rw [List.getElem?_append_right (by rw [List.length_append, List.length_map]; omega), List.length_append, List.length_map, hla, hlb, Nat.add_sub_cancel_left])
        clear hla hlb hlc
        go_upto_block 0 with (fail)
        obtain ⟨PM, hPM⟩ : ∃ x, wA.heap.size = x := ⟨_, rfl⟩
        rw [hPM] at HSe ⊢
        have HPM := Bx.mk (Nat.le_of_eq hPM)
        clear hPM
        generalize wA.alloc (.map #[] 0) = wM at *
        repeat' (first | fail | go_values | go_skip | go_guarded | go_step | go_upon | go_back)
        (refine wp_loopM [none, none, some 2, some 3, some 4, none, some 6, none, some 8, some 9, some 10, some 11, some 12, some 13, some 14, some 15, some 16, some 17, some 18, some 19, some 20, some 21, some 22, some 23, some 24, some 25, some 26, some 27, some 28, some 29, some 30, some 31, some 32, some 33, some 34, some 35, some 36, some 37, some 38, some 39, some 40, some 41, some 42, none, none, some 45, some 46, some 47, some 48, some 49, some 50, some 51, some 52, some 53, some 54, some 55, some 56, some 57, some 58, some 59, some 60, some 61, some 62, some 63, some 64, some 65, some 66, some 67, some 68, some 69, some 70, some 71, some 72, some 73, some 74, some 75, some 76, some 77, some 78, some 79, some 80, some 81, some 82, some 83, some 84, some 85, some 86, some 87, some 88, some 89, some 90, some 91, some 92, some 93, some 94, some 95, some 96, some 97, some 98, some 99, some 100, some 101, some 102, some 103, some 104, some 105, some 106, some 107, some 108, some 109, some 110, some 111, some 112, some 113, some 114, some 115, some 116] (fun fs wr dM => (fun iv wr dd => ∃ j : Nat, j ≤ la ∧ iv = .int .i64 j ∧ Bx (Seen wr PM ((named D).take j)) ∧ Bx (New wA wr) ∧ dd = la - j) (fs 45) wr dM) (by kernel_rfl) ?atStart ?round; (case' atStart => dsimp only [slotsOf, List.getD_cons_succ, List.getD_cons_zero]); (case' round => (intro dM_ J_ K_ fs wr hrel hJ_ hK_; simp only [Mix]; generalize fs 45 = u45 at hrel ⊢; try dsimp only at hrel)))
        case atStart => exact ⟨_, 0, Nat.zero_le _, rfl, HSe, HMM, rfl⟩
        case round =>
          clear HSe HMM z0 z1 z2
          obtain ⟨j, hj, rfl, HS, HU, rfl⟩ := hrel
          by_cases hlt : j < la
          · have hji : (j : Int) < (la : Int) := by omega
            have hjL : j < D.gone.length := by rw [HLA.out]; exact hlt
            obtain ⟨b0, off, rfl, e0⟩ := (HDR.out.gone.new HU.out).at_ j hjL
            have hA := HA1.out j hlt
            rw [List.getElem?_eq_getElem hjL] at hA
            generalize D.gone[j] = v at *
            obtain ⟨ht, hno⟩ := take_more (named D) j (by rw [HNL.out]; omega) v hA HND.out
            have hv : v < 4294967296 := HID.out v (List.mem_of_getElem? hA)
            have hlk := HS.out.look hv
            rw [if_neg hno] at hlk
            obtain ⟨DD, hM, hSD⟩ := HS.out.ex
            have HSD := Bx.mk hSD
            have HT := Bx.mk ht
            have hkl : ((named D).take j).length ≤ 3000 := Nat.le_trans (List.length_take_le' ..) HSZ.out
            clear hSD ht hno hA
            repeat' (first | (at_mapUpdate; refine wpList_mapUpdate_own _ rfl _ _ _ 55 rfl 40 3 keyD Try.underlying55 _ PM _ DD rfl hM (by unfold maxLen; omega) _ _ _ rfl rfl (keyOfD hv) _ [] (plainElem_int Try.underlying3 (WalkArith.wf_i64 (by omega))) ?_; intro w5 hown5 hg5) | go_values | go_skip | go_guarded | go_step | go_upon | go_back)
            have HS2 := Bx.mk (show Seen w5 PM ((named D).take (j + 1)) by rw [HT.out]; exact Seen.step (w := wr) HSD.out hown5)
            have hN5 : New wA w5 := HU.out.then (upd_grown hg5) (fun b hb => .inr (by rw [hb]; exact HPM.out))
            (refine met_loop (by assumption) (by kernel_rfl) (by kernel_rfl) ?rel; (case' rel => try dsimp only [slotsOf, List.getD_cons_succ, List.getD_cons_zero]))
            case rel => exact ⟨_, ⟨j + 1, by omega, by go_num, HS2, ⟨hN5⟩, rfl⟩, by omega⟩
          · obtain rfl : j = la := by omega
            obtain ⟨z0, z1, z2, _⟩ := o3_at (HU.out.blk HOB.out (fun q => q))
            go_upto_block 2 with (fail)
            repeat' (first | fail | go_values | go_skip | go_guarded | go_step | go_upon | go_back)
            (refine wp_loopM [none, none, some 2, some 3, some 4, none, some 6, none, some 8, some 9, some 10, some 11, some 12, some 13, some 14, some 15, some 16, some 17, some 18, some 19, some 20, some 21, some 22, some 23, some 24, some 25, some 26, some 27, some 28, some 29, some 30, some 31, some 32, some 33, some 34, some 35, some 36, some 37, some 38, some 39, some 40, some 41, some 42, some 43, some 44, some 45, some 46, some 47, some 48, some 49, some 50, some 51, some 52, some 53, some 54, none, none, some 57, some 58, some 59, some 60, some 61, some 62, some 63, some 64, some 65, some 66, some 67, some 68, some 69, some 70, some 71, some 72, some 73, some 74, some 75, some 76, some 77, some 78, some 79, some 80, some 81, some 82, some 83, some 84, some 85, some 86, some 87, some 88, some 89, some 90, some 91, some 92, some 93, some 94, some 95, some 96, some 97, some 98, some 99, some 100, some 101, some 102, some 103, some 104, some 105, some 106, some 107, some 108, some 109, some 110, some 111, some 112, some 113, some 114, some 115, some 116] (fun fs wr dM => (fun iv wr dd => ∃ m : Nat, m ≤ lb ∧ iv = .int .i64 m ∧ Bx (Seen wr PM ((named D).take (j + m))) ∧ Bx (New wA wr) ∧ dd = lb - m) (fs 57) wr dM) (by kernel_rfl) ?atStart ?round; (case' atStart => dsimp only [slotsOf, List.getD_cons_succ, List.getD_cons_zero]); (case' round => (intro dM_ J_ K_ fs wr hrel hJ_ hK_; simp only [Mix]; generalize fs 57 = u57 at hrel ⊢; try dsimp only at hrel)))
            case atStart => exact ⟨_, 0, Nat.zero_le _, rfl, HS, HU, rfl⟩
            case round =>
              clear HS HU z0 z1 z2
              obtain ⟨m, hm, rfl, HS, HU, rfl⟩ := hrel
              by_cases hlt2 : m < lb
              · have hmi : (m : Int) < (lb : Int) := by omega
                have hmL : m < D.come.length := by rw [HLB.out]; exact hlt2
                obtain ⟨b0, off, u0, u1, u2, rfl, e0, e1, _⟩ := (HDR.out.come.new HU.out).el m hmL
                have hA := HA2.out m hlt2
                rw [List.getElem?_map, List.getElem?_eq_getElem hmL] at hA
                simp only [Option.map_some] at hA
                generalize D.come[m] = q at *
                obtain ⟨v, lq⟩ := q
                dsimp only at e0 e1 hA
                change _ = some v at hA
                obtain ⟨ht, hno⟩ := take_more (named D) (j + m) (by rw [HNL.out]; omega) v hA HND.out
                have hv : v < 4294967296 := HID.out v (List.mem_of_getElem? hA)
                have hbx := newA wr (.cells #[.int .u32 v, .slice u0 u1 u2] 43)
                obtain ⟨i0, i1⟩ := e2_new wr v u0 u1 u2
                have HSb := Bx.mk (HS.out.new hbx)
                have hlk := HSb.out.look hv
                rw [if_neg hno] at hlk
                obtain ⟨DD, hM, hSD⟩ := HSb.out.ex
                have HSD := Bx.mk hSD
                have HT := Bx.mk ht
                have hkl : ((named D).take (j + m)).length ≤ 3000 := Nat.le_trans (List.length_take_le' ..) HSZ.out
                clear hSD ht hno hA
                repeat' (first | (at_mapUpdate; refine wpList_mapUpdate_own _ rfl _ _ _ 55 rfl 40 3 keyD Try.underlying55 _ PM _ DD rfl hM (by unfold maxLen; omega) _ _ _ rfl rfl (keyOfD hv) _ [] (plainElem_int Try.underlying3 (WalkArith.wf_i64 (by omega))) ?_; intro w5 hown5 hg5) | go_values | go_skip | go_guarded | go_step | go_upon | go_back)
                have HS2 := Bx.mk (show Seen w5 PM ((named D).take (j + (m + 1))) by rw [show j + (m + 1) = j + m + 1 by omega, HT.out]; exact Seen.step (w := wr) HSD.out hown5)
                have hN5 : New wA w5 := (HU.out.trans hbx).then (upd_grown hg5) (fun b hb => .inr (by rw [hb]; exact HPM.out))
                (refine met_loop (by assumption) (by kernel_rfl) (by kernel_rfl) ?rel; (case' rel => try dsimp only [slotsOf, List.getD_cons_succ, List.getD_cons_zero]))
                case rel => exact ⟨_, ⟨m + 1, by omega, by go_num, HS2, ⟨hN5⟩, rfl⟩, by omega⟩
              · obtain rfl : m = lb := by omega
                obtain ⟨z0, z1, z2, _⟩ := o3_at (HU.out.blk HOB.out (fun q => q))
                go_upto_block 4 with (fail)
                repeat' (first | fail | go_values | go_skip | go_guarded | go_step | go_upon | go_back)
                (refine wp_loopM [none, none, some 2, some 3, some 4, none, some 6, none, some 8, some 9, some 10, some 11, some 12, some 13, some 14, some 15, some 16, some 17, some 18, some 19, some 20, some 21, some 22, some 23, some 24, some 25, some 26, some 27, some 28, some 29, some 30, some 31, some 32, some 33, some 34, some 35, some 36, some 37, some 38, some 39, some 40, some 41, some 42, some 43, some 44, some 45, some 46, some 47, some 48, some 49, some 50, some 51, some 52, some 53, some 54, some 55, some 56, some 57, some 58, some 59, some 60, some 61, some 62, some 63, some 64, some 65, some 66, some 67, none, none, some 70, some 71, some 72, some 73, some 74, some 75, some 76, some 77, some 78, some 79, some 80, some 81, some 82, some 83, some 84, some 85, some 86, some 87, some 88, some 89, some 90, some 91, some 92, some 93, some 94, some 95, some 96, some 97, some 98, some 99, some 100, some 101, some 102, some 103, some 104, some 105, some 106, some 107, some 108, some 109, some 110, some 111, some 112, some 113, some 114, some 115, some 116] (fun fs wr dM => (fun iv wr dd => ∃ k : Nat, k ≤ lc ∧ iv = .int .i64 k ∧ Bx (Seen wr PM ((named D).take (j + m + k))) ∧ Bx (New wA wr) ∧ dd = lc - k) (fs 70) wr dM) (by kernel_rfl) ?atStart ?round; (case' atStart => dsimp only [slotsOf, List.getD_cons_succ, List.getD_cons_zero]); (case' round => (intro dM_ J_ K_ fs wr hrel hJ_ hK_; simp only [Mix]; generalize fs 70 = u70 at hrel ⊢; try dsimp only at hrel)))
                case atStart => exact ⟨_, 0, Nat.zero_le _, rfl, HS, HU, rfl⟩
                case round =>
                  clear HS HU z0 z1 z2
                  obtain ⟨k, hk, rfl, HS, HU, rfl⟩ := hrel
                  by_cases hlt3 : k < lc
                  · have hki : (k : Int) < (lc : Int) := by omega
                    have hkL : k < D.chg.length := by rw [HLC.out]; exact hlt3
                    obtain ⟨b0, off, u0, u1, u2, t0, t1, t2, rfl, e0, e1, e2, e3, _, _⟩ := (HDR.out.chg.new HU.out).el k hkL
                    have hA := HA3.out k hlt3
                    rw [List.getElem?_map, List.getElem?_eq_getElem hkL] at hA
                    simp only [Option.map_some] at hA
                    generalize D.chg[k] = q at *
                    obtain ⟨v, lo, nq, sq⟩ := q
                    dsimp only at e0 e1 e2 e3 hA
                    generalize (lo.toNat : Int) = LO at *
                    obtain ⟨ht, hno⟩ := take_more (named D) (j + m + k) (by rw [HNL.out]; omega) v hA HND.out
                    have hv : v < 4294967296 := HID.out v (List.mem_of_getElem? hA)
                    have hbx := newA wr (.cells #[.int .u32 v, .int .u8 LO, .slice u0 u1 u2, .slice t0 t1 t2] 57)
                    obtain ⟨i0, i1, i2, i3, _⟩ := o4_at (heap_alloc_new wr (.cells #[.int .u32 v, .int .u8 LO, .slice u0 u1 u2, .slice t0 t1 t2] 57))
                    have HSb := Bx.mk (HS.out.new hbx)
                    have hlk := HSb.out.look hv
                    rw [if_neg hno] at hlk
                    obtain ⟨DD, hM, hSD⟩ := HSb.out.ex
                    have HSD := Bx.mk hSD
                    have HT := Bx.mk ht
                    have hkl : ((named D).take (j + m + k)).length ≤ 3000 := Nat.le_trans (List.length_take_le' ..) HSZ.out
                    clear hSD ht hno hA
                    repeat' (first | (at_mapUpdate; refine wpList_mapUpdate_own _ rfl _ _ _ 55 rfl 40 3 keyD Try.underlying55 _ PM _ DD rfl hM (by unfold maxLen; omega) _ _ _ rfl rfl (keyOfD hv) _ [] (plainElem_int Try.underlying3 (WalkArith.wf_i64 (by omega))) ?_; intro w5 hown5 hg5) | go_values | go_skip | go_guarded | go_step | go_upon | go_back)
                    have HS2 := Bx.mk (show Seen w5 PM ((named D).take (j + m + (k + 1))) by rw [show j + m + (k + 1) = j + m + k + 1 by omega, HT.out]; exact Seen.step (w := wr) HSD.out hown5)
                    have hN5 : New wA w5 := (HU.out.trans hbx).then (upd_grown hg5) (fun b hb => .inr (by rw [hb]; exact HPM.out))
                    (refine met_loop (by assumption) (by kernel_rfl) (by kernel_rfl) ?rel; (case' rel => try dsimp only [slotsOf, List.getD_cons_succ, List.getD_cons_zero]))
                    case rel => exact ⟨_, ⟨k + 1, by omega, by go_num, HS2, ⟨hN5⟩, rfl⟩, by omega⟩
                  · obtain rfl : k = lc := by omega
                    have HSA := Bx.mk (show Seen wr PM (named D) by have := HS.out; rwa [List.take_of_length_le (by rw [HNL.out]; exact Nat.le_refl _)] at this)
                    clear HS HDR HA1 HA2 HA3 HOB
                    obtain ⟨DD, hM, hSD⟩ := HSA.out.ex
                    have HSD := Bx.mk hSD
                    have hPR : PM < wr.heap.size := by
                      obtain ⟨es, clock, ho, _⟩ := hM
                      exact (Array.getElem?_eq_some_iff.1 ho).1
                    have HUU := Bx.mk HU.out.size
                    go_upto_block 6 with (first
                      | (at_range; refine wpList_range_own _ rfl _ 55 rfl 40 3 keyD Try.underlying55 _ PM _ DD rfl hM ?_; intro w0 hrg0 hg0 hs0))
                    go_frame
                    have hN0 : New wr w0 := ⟨hg0.os, hg0.tape, hg0.output, hg0.size, fun k hk _ => hg0.block k hk (by simp)⟩
                    have HS0 := Bx.mk (HSA.out.new hN0)
                    have HN0 := Bx.mk (HU.out.trans hN0)
                    clear hSD hM hg0 hs0 hN0 HU HSA
                    generalize wr.heap.size = PR at *
                    repeat' (first | fail | go_values | go_skip | go_guarded | go_step | go_upon | go_back)
                    (refine wp_loopM [none, none, some 2, some 3, some 4, some 5, some 6, none, some 8, some 9, some 10, some 11, some 12, some 13, some 14, some 15, some 16, some 17, some 18, some 19, some 20, some 21, some 22, some 23, some 24, some 25, some 26, some 27, some 28, some 29, some 30, some 31, some 32, some 33, some 34, some 35, some 36, some 37, some 38, some 39, some 40, some 41, some 42, some 43, some 44, some 45, some 46, some 47, some 48, some 49, some 50, some 51, some 52, some 53, some 54, some 55, some 56, some 57, some 58, some 59, some 60, some 61, some 62, some 63, some 64, some 65, some 66, some 67, some 68, some 69, some 70, some 71, some 72, some 73, some 74, some 75, some 76, some 77, some 78, some 79, some 80, none, some 82, some 83, some 84, some 85, some 86, some 87, some 88, some 89, some 90, some 91, some 92, some 93, some 94, some 95, some 96, some 97, some 98, some 99, some 100, some 101, some 102, some 103, some 104, some 105, some 106, some 107, some 108, some 109, some 110, some 111, some 112, some 113, some 114, some 115, some 116] (fun fs wr dM => (fun wr dd => ∃ (left : Lit → Bool) (cnt : Nat), Bx (wr.ranges Try.prog 40 (plainElem Try.prog 3) PM PR (named D).length DD left cnt) ∧ Bx (∀ l, left l = true → Go.Maps.has DD l = true) ∧ Bx (Seen wr PM (named D)) ∧ Bx (New wA wr) ∧ dd = wr.rangeLeft PM PR)  wr dM) (by kernel_rfl) ?atStart ?round; (case' atStart => dsimp only [slotsOf, List.getD_cons_succ, List.getD_cons_zero]); (case' round => (intro dM_ J_ K_ fs wr hrel hJ_ hK_; simp only [Mix]; try dsimp only at hrel)))
                    case atStart => exact ⟨_, _, _, ⟨hrg0⟩, ⟨fun l h => h⟩, HS0, HN0, rfl⟩
                    case round =>
                      clear HS0 HN0 hrg0
                      obtain ⟨left, cnt, HRG, HLF, HS, HN, rfl⟩ := hrel
                      have hrg := HRG.out
                      go_wp2_with (at_next; refine wpList_next_ranges_ii _ rfl _ rfl 40 3 .u32 .i64 keyD Try.underlying40 Try.underlying3 PM PR _ DD left cnt rfl hrg ?_ ?_)
                      · intro _ _
                        clear hrg HRG HLF HSD
                        have hn1 : n1 ≤ 400 := by rw [← H1.out.len]; exact O1.out.n
                        have HL1 := Bx.mk H1.out.len
                        go_upto_block 8 with (fail)
                        repeat' (first | fail | go_values | go_skip | go_guarded | go_step | go_upon | go_back)
                        (refine wp_loopM [none, none, some 2, some 3, some 4, some 5, some 6, none, some 8, some 9, some 10, some 11, some 12, some 13, some 14, some 15, some 16, some 17, some 18, some 19, some 20, some 21, some 22, some 23, some 24, some 25, some 26, some 27, some 28, some 29, some 30, some 31, some 32, some 33, some 34, some 35, some 36, some 37, some 38, some 39, some 40, some 41, some 42, some 43, some 44, some 45, some 46, some 47, some 48, some 49, some 50, some 51, some 52, some 53, some 54, some 55, some 56, some 57, some 58, some 59, some 60, some 61, some 62, some 63, some 64, some 65, some 66, some 67, some 68, some 69, some 70, some 71, some 72, some 73, some 74, some 75, some 76, some 77, some 78, some 79, some 80, some 81, some 82, some 83, some 84, some 85, some 86, some 87, none, none, some 90, some 91, some 92, some 93, some 94, some 95, some 96, some 97, some 98, some 99, some 100, some 101, some 102, some 103, some 104, some 105, some 106, some 107, some 108, some 109, some 110, some 111, some 112, some 113, some 114, some 115, some 116] (fun fs wr dM => (fun iv wr dd => ∃ j : Nat, j ≤ n1 ∧ iv = .int .i64 j ∧ Bx (Seen wr PM (named D)) ∧ Bx (New wA wr) ∧ dd = n1 - j) (fs 90) wr dM) (by kernel_rfl) ?atStart ?round; (case' atStart => dsimp only [slotsOf, List.getD_cons_succ, List.getD_cons_zero]); (case' round => (intro dM_ J_ K_ fs wr hrel hJ_ hK_; simp only [Mix]; generalize fs 90 = u90 at hrel ⊢; try dsimp only at hrel)))
                        case atStart => exact ⟨_, 0, Nat.zero_le _, rfl, HS, HN, rfl⟩
                        case round =>
                          clear HS HN
                          rename Bx (New w wA) => HNA
                          obtain ⟨j, hj, rfl, HS, HU, rfl⟩ := hrel
                          by_cases hlt9 : j < n1
                          · have hji : (j : Int) < (n1 : Int) := by omega
                            have hjL : j < L1.length := by rw [HL1.out]; exact hlt9
                            obtain ⟨b0, off, u0, u1, u2, rfl, e0, e1, hco⟩ := (H1.out.new (HNA.out.trans HU.out)).el j hjL
                            have hUx := HUN.out L1[j] (List.getElem_mem hjL)
                            have hb1 := (B1.out L1[j] (List.getElem_mem hjL)).1
                            have hl1 := O1.out.l L1[j] (List.getElem_mem hjL)
                            generalize L1[j] = q at *
                            obtain ⟨v, lq⟩ := q
                            dsimp only at e0 e1 hUx hb1 hl1 hco
                            have hbx := newA wr (.cells #[.int .u32 v, .slice u0 u1 u2] 43)
                            obtain ⟨i0, i1⟩ := e2_new wr v u0 u1 u2
                            have HFI := Bx.mk (refFindE_any A2 n2 p2 L2 v _ (H2.out.new ((HNA.out.trans HU.out).trans hbx)) (by have := O2.out.n; omega))
                            by_cases hin : v ∈ named D
                            · have HFJ := Bx.mk (HFI.out.mono (R' := fun e w2 => (∃ F : Int, e = .returned (.int .i64 F)) ∧ New (wr.alloc (.cells #[.int .u32 v, .slice u0 u1 u2] 43)) w2) (fun e w2 hh => by
                                obtain ⟨h, k⟩ := hh
                                rcases h with ⟨j', _, h, _⟩ | ⟨h, _⟩
                                · exact ⟨⟨_, h⟩, k⟩
                                · exact ⟨⟨_, h⟩, k⟩))
                              clear HFI hUx
                              go_upto_region 33 with (first
                                | (go_at_call 21; (with_reducible refine (HFJ.out).mono ?_); rintro e7 w7 ⟨⟨F, rfl⟩, k7⟩; dsimp only))
                              have i0' : ∀ x : After w7, x.to.cell? ⟨wr.heap.size, 0, none⟩ = some (.int .u32 v) := fun x => (k7.trans x.h).cell i0 (fun q => q)
                              have hlk : ∀ x : After w7, (Instr.lookup 55 (.map (some PM)) (.int .u32 v) false).run Try.prog x.to = .ok (.int .i64 1) x.to := fun x => by
                                have := (HS.out.new ((hbx.trans k7).trans x.h)).look hb1
                                rwa [if_pos hin] at this
                              clear hin
                              (refine wp_region_calm (by kernel_rfl) (by kernel_rfl) ?_; (repeat (go_big_quiet_step ((fail)))); refine wpQuiet_nil ?_; intro wq hq)
                              clear i0' hlk
                              have hN9 := HU.out.trans ((hbx.trans k7).trans hq)
                              have HS9 := Bx.mk (HS.out.new ((hbx.trans k7).trans hq))
                              repeat' (first | fail | go_values | go_skip | go_guarded | go_step | go_upon | go_back)
                              (refine met_loop (by assumption) (by kernel_rfl) (by kernel_rfl) ?rel; (case' rel => try dsimp only [slotsOf, List.getD_cons_succ, List.getD_cons_zero]))
                              case rel => exact ⟨_, ⟨j + 1, by omega, by go_num, HS9, ⟨hN9⟩, rfl⟩, by omega⟩
                            · have hfx := hUx hin
                              have HFJ := Bx.mk (HFI.out.mono (R' := fun e w2 => (∃ j', ∃ hj' : j' < L2.length, e = .returned (.int .i64 (j' : Nat)) ∧ L2[j'] = (v, lq)) ∧ New (wr.alloc (.cells #[.int .u32 v, .slice u0 u1 u2] 43)) w2) (fun e w2 hh => by
                                obtain ⟨h, k⟩ := hh
                                rcases h with ⟨j', hj', h, h'⟩ | ⟨_, h⟩
                                · rw [hfx] at h'; exact ⟨⟨j', hj', h, (Option.some.inj h').symm⟩, k⟩
                                · rw [hfx] at h; cases h))
                              clear HFI hUx hfx
                              have HL2 := Bx.mk H2.out.len
                              go_upto_region 33 with (first
                                | (go_at_call 21; (with_reducible refine (HFJ.out).mono ?_); rintro e7 w7 ⟨⟨j', hj', rfl, HEL⟩, k7⟩; dsimp only))
                              obtain ⟨b9, o9, t0, t1, t2, rfl, f0, f1, hco2⟩ := (H2.out.new (((HNA.out.trans HU.out).trans hbx).trans k7)).el j' hj'
                              rw [HEL] at f0 hco2
                              dsimp only at f0 hco2
                              have hjj : (j' : Int) < (n2 : Int) := by have := HL2.out; omega
                              have hjp : ¬ (j' : Int) < 0 := by omega
                              have i0' : ∀ x : After w7, x.to.cell? ⟨wr.heap.size, 0, none⟩ = some (.int .u32 v) := fun x => (k7.trans x.h).cell i0 (fun q => q)
                              have i1' : ∀ x : After w7, x.to.cell? ⟨wr.heap.size, 1, none⟩ = some (.slice u0 u1 u2) := fun x => (k7.trans x.h).cell i1 (fun q => q)
                              have f0' : ∀ x : After w7, x.to.cell? ⟨b9, o9 + j' * 2, none⟩ = some (.int .u32 v) := fun x => x.h.cell f0 (fun q => q)
                              have f1' : ∀ x : After w7, x.to.cell? ⟨b9, o9 + j' * 2 + 1, none⟩ = some (.slice t0 t1 t2) := fun x => x.h.cell f1 (fun q => q)
                              have hlk : ∀ x : After w7, (Instr.lookup 55 (.map (some PM)) (.int .u32 v) false).run Try.prog x.to = .ok (.int .i64 0) x.to := fun x => by
                                have := (HS.out.new ((hbx.trans k7).trans x.h)).look hb1
                                rwa [if_neg hin] at this
                              have HSE := Bx.mk (fun (x : After w7) => SameEnt_any v u0 u1 u2 lq v t0 t1 t2 lq x.to (hco.new ((hbx.trans k7).trans x.h)) (hco2.new x.h) (by omega))
                              rw [decide_eq_true rfl] at HSE
                              clear hin hco hco2 HEL f0 f1
                              (refine wp_region_calm (by kernel_rfl) (by kernel_rfl) ?_; (repeat (go_big_quiet_step ((go_at_call 22; refine Calls.calm (HSE.out _))))); refine wpQuiet_nil ?_; intro wq hq)
                              clear i0' i1' f0' f1' hlk
                              have hN9 := HU.out.trans ((hbx.trans k7).trans hq)
                              have HS9 := Bx.mk (HS.out.new ((hbx.trans k7).trans hq))
                              repeat' (first | fail | go_values | go_skip | go_guarded | go_step | go_upon | go_back)
                              (refine met_loop (by assumption) (by kernel_rfl) (by kernel_rfl) ?rel; (case' rel => try dsimp only [slotsOf, List.getD_cons_succ, List.getD_cons_zero]))
                              case rel => exact ⟨_, ⟨j + 1, by omega, by go_num, HS9, ⟨hN9⟩, rfl⟩, by omega⟩
                          · obtain rfl : j = n1 := by omega
                            repeat' (first | fail | go_values | go_skip | go_guarded | go_step | go_upon | go_back)
                            go_returns
                            exact ⟨rfl, HNA.out.trans HU.out⟩
                      · intro x c w1' cnt' hwx hwc hlk hat hrg1 hlt' hg1 hs1 hen
                        have h1 := HSD.out.one _ (.lit (.int .i64 0)) (HLF.out _ hlk)
                        rw [hat] at h1
                        have hc : c = 1 := by simpa using h1
                        subst hc
                        have hN1 : New wA w1' := HN.out.then (upd_grown hg1) (fun b hb => .inr (by rw [hb]; exact Nat.le_trans HUU.out (Nat.le_refl _)))
                        have HS1 := Bx.mk (HS.out.upd (upd_grown hg1) (fun e => by omega))
                        have HLF1 := Bx.mk (fun l (h : (left l && !l.sameKey (.int .u32 x)) = true) => HLF.out l (by simp only [Bool.and_eq_true] at h; exact h.1))
                        have HLT := Bx.mk hlt'
                        have HRG1 := Bx.mk hrg1
                        clear hwx hwc hlk hat hg1 h1 hlt' hrg1
                        repeat' (first | fail | go_values | go_skip | go_guarded | go_step | go_upon | go_back)
                        (refine met_loop (by assumption) (by kernel_rfl) (by kernel_rfl) ?rel; (case' rel => try dsimp only [slotsOf, List.getD_cons_succ, List.getD_cons_zero]))
                        case rel => exact ⟨_, ⟨_, cnt', HRG1, HLF1, HS1, ⟨hN1⟩, rfl⟩, by rw [HRG1.out.left_eq, hrg.left_eq]; exact HLT.out⟩
      · have HE := Bx.mk hE
        obtain ⟨EE, hEE⟩ : ∃ e, diffE L1 L2 = e := ⟨_, rfl⟩
        rw [hEE] at hE ⊢
        have HD0 := Bx.mk (show diffD L1 L2 = ⟨[], [], []⟩ by unfold diffD; rw [if_neg HE.out])
        have l0 : (diffD L1 L2).gone.length = 0 := by rw [HD0.out]; rfl
        have l1 : (diffD L1 L2).come.length = 0 := by rw [HD0.out]; rfl
        have l2 : (diffD L1 L2).chg.length = 0 := by rw [HD0.out]; rfl
        rw [l0, l1, l2] at HOB
        obtain ⟨z0, z1, z2, _⟩ := o3_at HOB.out
        have CE := Bx.mk (Empty_any g0 0 g2 c0 0 c2 d0 0 d2 wA)
        rw [decide_eq_true (show (0 : Nat) = 0 ∧ (0 : Nat) = 0 ∧ (0 : Nat) = 0 from ⟨rfl, rfl, rfl⟩)] at CE
        rw [l0, l1, l2]
        clear HDR
        repeat' (first | (go_at_call 20; (with_reducible refine (CE.out).mono ?_); rintro e7 w7 ⟨rfl, k7⟩; dsimp only) | go_values | go_skip | go_guarded | go_step | go_upon | go_back)
        go_returns
        exact ⟨rfl, HN.out.trans k7⟩
end Go.Proofs.Ytdnkdmdmekdfkaa
