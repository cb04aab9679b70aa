/- partialInsertionSortOrdered at IDs: walked. -/
import Derived.Test.YtohflgpkimnodaaSo10
import Derived.Sort.LotA
import Derived.Deep.DeepCutAuto
import Derived.Deep.CutBlock
namespace Go.Proofs.Ytohflgpkimnodaa
open Go.RowKit Go.Sort
theorem scanS_go (d : Array Nat) (b i q : Nat) (hq : q + 1 = i) (h : i < b) (hl : ltN d[i]! d[q]! = false) : scanSorted ltN d b i = scanSorted ltN d b (i + 1) := by
  subst hq
  rw [scanSorted, if_pos]
  simp [hl]; omega
theorem scanS_stop (d : Array Nat) (b i q : Nat) (hq : q + 1 = i) (h : ¬ i < b ∨ ltN d[i]! d[q]! = true) : scanSorted ltN d b i = i := by
  subst hq
  rw [scanSorted, if_neg]
  rcases h with h | h
  · simp; omega
  · simp [h]
theorem shiftD_go (d : Array Nat) (j q : Nat) (hq : q + 1 = j) (hl : ltN d[j]! d[q]! = true) : shiftDown ltN j d = shiftDown ltN q (swp d j q) := by
  subst hq
  rw [shiftDown, if_neg]
  simp [hl]
theorem shiftD_stop (d : Array Nat) (j q : Nat) (hq : q + 1 = j) (hl : ltN d[j]! d[q]! = false) : shiftDown ltN j d = d := by
  subst hq
  rw [shiftDown, if_pos]
  simp [hl]
theorem shiftD_zero (d : Array Nat) : shiftDown ltN 0 d = d := rfl
theorem shiftU_go (d : Array Nat) (b j q : Nat) (hq : q + 1 = j) (h : j < b) (hl : ltN d[j]! d[q]! = true) : shiftUp ltN b j d = shiftUp ltN b (j + 1) (swp d j q) := by
  subst hq
  rw [shiftUp, if_pos h, if_neg]
  · simp
  · simp [hl]
theorem shiftU_stop (d : Array Nat) (b j q : Nat) (hq : q + 1 = j) (hl : ltN d[j]! d[q]! = false) : shiftUp ltN b j d = d := by
  subst hq
  by_cases h : q + 1 < b
  · rw [shiftUp, if_pos h, if_pos]
    simp [hl]
  · rw [shiftUp, if_neg h]
theorem shiftU_end (d : Array Nat) (b j : Nat) (h : ¬ j < b) : shiftUp ltN b j d = d := by rw [shiftUp, if_neg h]
set_option maxRecDepth 20000 in
set_option maxHeartbeats 16000000 in
theorem partial_any {w : World} {blk cap : Nat} {d : Array Nat} (h : SR blk cap d w) (n c a b : Nat) (hn : d.size = n) (hab : a < b) (hb : b ≤ n) (hsz : n < 2305843009213693952) (RES : Array Nat × Bool) (hres : partialInsertionSort ltN d a b = RES) :
    Calls Try.prog 48 #[.slice (some ⟨blk, 0, none⟩) n c, .int .i64 a, .int .i64 b] w fun e w' => e = .returned (.bool RES.2) ∧ SR blk cap RES.1 w' ∧ Upd (fun x => x = blk) w w' := by
  have HL := Bx.mk (fun (x y : Nat) w => Less_any x y w)
  have HS := Bx.mk hn
  have HQ0 := Bx.mk (show partialIns ltN a b 5 (a + 1) d = RES from hres)
  have HR0 := Bx.mk h
  have w1' : IntKind.i64.wrap ((a : Int) + 1) = ((a + 1 : Nat) : Int) := by rw [IntKind.wrap_i64]; omega
  obtain ⟨ba, hba⟩ : ∃ ba, b - a = ba := ⟨_, rfl⟩
  have w2' : IntKind.i64.wrap ((b : Int) - (a : Int)) = (ba : Int) := by rw [IntKind.wrap_i64]; omega
  clear h hn hres
  go_enter Try.func48, Try.ntmps48
  repeat' (first | fail | go_values | go_skip | go_guarded | go_step | go_upon | go_back)
  go_loopw [7, 8] (fun iv jv wr => ∃ (i k : Nat) (d1 : Array Nat), iv = .int .i64 i ∧ jv = .int .i64 k ∧ a + 1 ≤ i ∧ i ≤ b ∧ k ≤ 5 ∧ Bx (d1.size = n) ∧ Bx (partialIns ltN a b (5 - k) i d1 = RES) ∧ Bx (SR blk cap d1 wr) ∧ Upd (fun x => x = blk) w wr) (fun iv jv _ => 5 - (intOf jv).toNat)
  case atStart => exact ⟨a + 1, 0, d, rfl, rfl, Nat.le_refl _, by omega, by omega, HS, HQ0, HR0, Upd.refl _ _⟩
  case round =>
    clear HQ0 HR0 w1' HS
    obtain ⟨i1, k, d1, rfl, rfl, hi1, hi2, hk, HS, HQ, HR, hU⟩ := hrel
    by_cases hk5 : k < 5
    · have hk5I : (k : Int) < 5 := by omega
      obtain ⟨s, hs⟩ : ∃ s, 5 - k = s + 1 := ⟨4 - k, by omega⟩
      have HQ2 := HQ.out
      rw [hs, partialIns_succ] at HQ2
      obtain ⟨K, hK⟩ : ∃ K, scanSorted ltN d1 b i1 = K := ⟨_, rfl⟩
      rw [hK] at HQ2
      have HK := Bx.mk hK
      have HQ3 := Bx.mk HQ2
      clear HQ HQ2 hK
      go_upto_block 2 with (fail)
      go_cut [7] (fun iv wx => ∃ (i : Nat), iv = .int .i64 i ∧ i = K ∧ i1 ≤ i ∧ i ≤ b ∧ Bx (SR blk cap d1 wx) ∧ Upd (fun x => x = blk) w wx)
      case first =>
        repeat' (first | fail | go_values | go_skip | go_guarded | go_step | go_upon | go_back)
        go_loopw [7] (fun iv wr => ∃ (i : Nat), iv = .int .i64 i ∧ Bx (scanSorted ltN d1 b i = K) ∧ i1 ≤ i ∧ i ≤ b ∧ Bx (SR blk cap d1 wr) ∧ Upd (fun x => x = blk) w wr) (fun iv _ => b - (intOf iv).toNat)
        case atStart => exact ⟨i1, rfl, HK, Nat.le_refl _, hi2, HR, hU⟩
        case round =>
          obtain ⟨i, rfl, HK1, hi3, hi4, HR1, hU1⟩ := hrel
          obtain ⟨q, hq1⟩ : ∃ q, q + 1 = i := ⟨i - 1, by omega⟩
          have wq' : IntKind.i64.wrap ((i : Int) - 1) = (q : Int) := by rw [IntKind.wrap_i64]; omega
          by_cases hlt : i < b
          · have hltI : (i : Int) < (b : Int) := by omega
            have hiI : (i : Int) < (n : Int) := by omega
            have hqI : (q : Int) < (n : Int) := by omega
            have wi : IntKind.i64.wrap ((i : Int) + 1) = ((i + 1 : Nat) : Int) := by rw [IntKind.wrap_i64]; omega
            obtain ⟨x, hx⟩ : ∃ x, d1[i]! = x := ⟨_, rfl⟩
            obtain ⟨y, hy⟩ : ∃ y, d1[q]! = y := ⟨_, rfl⟩
            have k1 : ∀ z : After wr, z.to.cell? ⟨blk, i, none⟩ = some (.int .u32 (x : Nat)) := fun z => by rw [← hx]; exact (HR1.out.blk z.h (fun q => q)).cell i (by have := HS.out; omega)
            have k2 : ∀ z : After wr, z.to.cell? ⟨blk, q, none⟩ = some (.int .u32 (y : Nat)) := fun z => by rw [← hy]; exact (HR1.out.blk z.h (fun q => q)).cell q (by have := HS.out; omega)
            cases hl : ltN x y with
            | false =>
              have HK2 := Bx.mk ((scanS_go d1 b i q hq1 hlt (by rw [hx, hy]; exact hl)).symm.trans HK1.out)
              have hL := fun w => hl ▸ HL.out x y w
              clear hx hy hl
              repeat' (first | fail | go_values | go_skip | go_guarded | go_step | go_upon | go_back)
              (refine wp_region_calm (by kernel_rfl) (by kernel_rfl) ?_; (repeat (go_big_quiet_step ((go_at_call 49; refine Calls.calm_same (hL _))))); refine wpQuiet_nil ?_; intro wq hq)
              have HR3 := Bx.mk (HR1.out.blk hq (fun q => q))
              have U3 : Upd (fun x => x = blk) w wq := hU1.trans (New.upd hq)
              clear k1 k2 hL
              repeat' (first | fail | go_values | go_skip | go_guarded | go_step | go_upon | go_back)
              go_roundw
              case rel => exact ⟨i + 1, rfl, HK2, by omega, by omega, HR3, U3⟩
              case measure => simp [intOf]; omega
            | true =>
              have HK2 := Bx.mk ((scanS_stop d1 b i q hq1 (.inr (by rw [hx, hy]; exact hl))).symm.trans HK1.out)
              have hL := fun w => hl ▸ HL.out x y w
              clear hx hy hl
              repeat' (first | fail | go_values | go_skip | go_guarded | go_step | go_upon | go_back)
              (refine wp_region_calm (by kernel_rfl) (by kernel_rfl) ?_; (repeat (go_big_quiet_step ((go_at_call 49; refine Calls.calm_same (hL _))))); refine wpQuiet_nil ?_; intro wq hq)
              have HR3 := Bx.mk (HR1.out.blk hq (fun q => q))
              have U3 : Upd (fun x => x = blk) w wq := hU1.trans (New.upd hq)
              clear k1 k2 hL
              repeat' (first | fail | go_values | go_skip | go_guarded | go_step | go_upon | go_back)
              go_meet
              case rel => exact ⟨i, rfl, HK2.out, hi3, hi4, HR3, U3⟩
          · have hltI : ¬ (i : Int) < (b : Int) := by omega
            have HK2 := Bx.mk ((scanS_stop d1 b i q hq1 (.inl hlt)).symm.trans HK1.out)
            repeat' (first | fail | go_values | go_skip | go_guarded | go_step | go_upon | go_back)
            (refine wp_region_calm (by kernel_rfl) (by kernel_rfl) ?_; (repeat (go_big_quiet_step ((fail)))); refine wpQuiet_nil ?_; intro wq hq)
            have HR3 := Bx.mk (HR1.out.blk hq (fun q => q))
            have U3 : Upd (fun x => x = blk) w wq := hU1.trans (New.upd hq)
            repeat' (first | fail | go_values | go_skip | go_guarded | go_step | go_upon | go_back)
            go_meet
            case rel => exact ⟨i, rfl, HK2.out, hi3, hi4, HR3, U3⟩
      case rest =>
        obtain ⟨K, rfl, rfl, hK1, hK2, HR', hU'⟩ := hcut
        clear HR hU
        by_cases hKb : K = b
        · subst hKb
          have z := HQ3.out
          rw [if_pos rfl] at z
          cases z
          repeat' (first | fail | go_values | go_skip | go_guarded | go_step | go_upon | go_back)
          go_returns
          exact ⟨rfl, HR'.out, hU'⟩
        · have hKbI : ¬ (K : Int) = (b : Int) := by omega
          have HQ4 := HQ3.out
          rw [if_neg hKb, hba] at HQ4
          have HQ5 := Bx.mk HQ4
          clear HQ3 HQ4
          by_cases h50 : ba < 50
          · have h50I : (ba : Int) < 50 := by omega
            have z := HQ5.out
            rw [if_pos h50] at z
            cases z
            repeat' (first | fail | go_values | go_skip | go_guarded | go_step | go_upon | go_back)
            go_returns
            exact ⟨rfl, HR'.out, hU'⟩
          · have h50I : ¬ (ba : Int) < 50 := by omega
            obtain ⟨q, hqK⟩ : ∃ q, q + 1 = K := ⟨K - 1, by omega⟩
            have hKI : (K : Int) < (n : Int) := by omega
            have hqI : (q : Int) < (n : Int) := by omega
            have wq' : IntKind.i64.wrap ((K : Int) - 1) = (q : Int) := by rw [IntKind.wrap_i64]; omega
            have hsz5 := HS.out
            have UR := Upd.refl (fun x => x = blk) wc
            have HQ6 := HQ5.out
            rw [if_neg h50, show K - 1 = q from by omega] at HQ6
            have HQ7 := Bx.mk HQ6
            clear HQ5 HQ6
            repeat' (first | fail | go_values | go_skip | go_guarded | go_step | go_upon | go_back)
            (obtain ⟨x_w5, hx_w5⟩ : ∃ x, d1[K]! = x := ⟨_, rfl⟩); (obtain ⟨y_w5, hy_w5⟩ : ∃ y, d1[q]! = y := ⟨_, rfl⟩); have c1_w5 : wc.cell? ⟨blk, K, none⟩ = some (.int .u32 (x_w5 : Nat)) := (by rw [← hx_w5]; exact HR'.out.cell K (by omega)); have c2_w5 : wc.cell? ⟨blk, q, none⟩ = some (.int .u32 (y_w5 : Nat)) := (by rw [← hy_w5]; exact HR'.out.cell q (by omega)); have f1_w5 := HR'.out.frz K; have f2_w5 := HR'.out.frz q; have HR5 := Bx.mk (HR'.out.swap K q x_w5 y_w5 (by omega) (by omega) hx_w5 hy_w5).drew; have HU5 := Bx.mk ((UR.setCell (p := ⟨blk, K, none⟩) (.inl rfl) (.int .u32 (y_w5 : Nat))).setCell (p := ⟨blk, q, none⟩) (.inl rfl) (.int .u32 (x_w5 : Nat))).drew; have c3_w5 := HR'.out.c3 K q y_w5 (by omega) (by omega) hy_w5; have f3_w5 : ∀ o, (wc.setCell ⟨blk, K, none⟩ (.int .u32 (y_w5 : Nat))).frozen? ⟨blk, o, none⟩ = false := (HR'.out.set K y_w5 (by omega)).frz; clear hx_w5 hy_w5; go_big_region; clear c1_w5 c2_w5 f1_w5 f2_w5 c3_w5 f3_w5; generalize ((wc.setCell ⟨blk, K, none⟩ (.int .u32 (y_w5 : Nat))).setCell ⟨blk, q, none⟩ (.int .u32 (x_w5 : Nat))).drew = w5 at *
            have HD5 := Bx.mk ((size_swp' d1 K q).trans hsz5)
            have hU5 := hU'.trans HU5.out
            generalize swp d1 K q = d5 at *
            clear hsz5 UR HU5 HR' hU' HS
            obtain ⟨D2, hD2⟩ : ∃ D2, fixDown ltN a K d5 = D2 := ⟨_, rfl⟩
            have HQ8 := HQ7.out
            rw [hD2] at HQ8
            have HD2 := Bx.mk hD2
            obtain ⟨D3, hD3⟩ : ∃ D3, fixUp ltN b K D2 = D3 := ⟨_, rfl⟩
            rw [hD3] at HQ8
            have HD3 := Bx.mk hD3
            have HQ9 := Bx.mk HQ8
            clear hD2 hD3 HQ8 HQ7
            obtain ⟨ka, hka⟩ : ∃ ka, K - a = ka := ⟨_, rfl⟩
            have wka : IntKind.i64.wrap ((K : Int) - (a : Int)) = (ka : Int) := by rw [IntKind.wrap_i64]; omega
            obtain ⟨bk, hbk⟩ : ∃ bk, b - K = bk := ⟨_, rfl⟩
            have wbk : IntKind.i64.wrap ((b : Int) - (K : Int)) = (bk : Int) := by rw [IntKind.wrap_i64]; omega
            have wK1 : IntKind.i64.wrap ((K : Int) + 1) = ((K + 1 : Nat) : Int) := by rw [IntKind.wrap_i64]; omega
            go_upto_if 61 with (fail)
            go_cut [] (fun wx => Bx (D2.size = n) ∧ Bx (SR blk cap D2 wx) ∧ Upd (fun x => x = blk) w wx)
            case first =>
              by_cases h2 : 2 ≤ ka
              · have h2I : (2 : Int) ≤ (ka : Int) := by omega
                have HX := Bx.mk (show shiftDown ltN q d5 = D2 by have z := HD2.out; rw [fixDown, if_pos (by omega), show K - 1 = q from by omega] at z; exact z)
                repeat' (first | fail | go_values | go_skip | go_guarded | go_step | go_upon | go_back)
                go_loopw [9] (fun jv wr => ∃ (j : Nat) (d2 : Array Nat), jv = .int .i64 j ∧ j ≤ q ∧ Bx (d2.size = n) ∧ Bx (shiftDown ltN j d2 = D2) ∧ Bx (SR blk cap d2 wr) ∧ Upd (fun x => x = blk) w wr) (fun jv _ => (intOf jv).toNat)
                case atStart => exact ⟨q, d5, rfl, Nat.le_refl _, HD5, HX, HR5, hU5⟩
                case round =>
                  clear HX HD5 HR5 hU5
                  obtain ⟨j, d2, rfl, hj1, HDs, HX, HR6, hU6⟩ := hrel
                  by_cases hj0 : 1 ≤ j
                  · have hj0I : (1 : Int) ≤ (j : Int) := by omega
                    obtain ⟨r, hr1⟩ : ∃ r, r + 1 = j := ⟨j - 1, by omega⟩
                    have wr' : IntKind.i64.wrap ((j : Int) - 1) = (r : Int) := by rw [IntKind.wrap_i64]; omega
                    have hjI : (j : Int) < (n : Int) := by omega
                    have hrI : (r : Int) < (n : Int) := by omega
                    obtain ⟨x, hx⟩ : ∃ x, d2[j]! = x := ⟨_, rfl⟩
                    obtain ⟨y, hy⟩ : ∃ y, d2[r]! = y := ⟨_, rfl⟩
                    have k1 : ∀ z : After wr, z.to.cell? ⟨blk, j, none⟩ = some (.int .u32 (x : Nat)) := fun z => by rw [← hx]; exact (HR6.out.blk z.h (fun q => q)).cell j (by have := HDs.out; omega)
                    have k2 : ∀ z : After wr, z.to.cell? ⟨blk, r, none⟩ = some (.int .u32 (y : Nat)) := fun z => by rw [← hy]; exact (HR6.out.blk z.h (fun q => q)).cell r (by have := HDs.out; omega)
                    cases hl : ltN x y with
                    | true =>
                      have HX2 := Bx.mk ((shiftD_go d2 j r hr1 (by rw [hx, hy]; exact hl)).symm.trans HX.out)
                      have hL := fun w => hl ▸ HL.out x y w
                      clear hx hy hl
                      repeat' (first | fail | go_values | go_skip | go_guarded | go_step | go_upon | go_back)
                      (refine wp_region_calm (by kernel_rfl) (by kernel_rfl) ?_; (repeat (go_big_quiet_step ((go_at_call 49; refine Calls.calm_same (hL _))))); refine wpQuiet_nil ?_; intro wq hq)
                      have HR3 := Bx.mk (HR6.out.blk hq (fun q => q))
                      have U3 : Upd (fun x => x = blk) w wq := hU6.trans (New.upd hq)
                      have hsz7 := HDs.out
                      have UR := Upd.refl (fun x => x = blk) wq
                      clear k1 k2 hL
                      repeat' (first | fail | go_values | go_skip | go_guarded | go_step | go_upon | go_back)
                      (obtain ⟨x_w7, hx_w7⟩ : ∃ x, d2[j]! = x := ⟨_, rfl⟩); (obtain ⟨y_w7, hy_w7⟩ : ∃ y, d2[r]! = y := ⟨_, rfl⟩); have c1_w7 : wq.cell? ⟨blk, j, none⟩ = some (.int .u32 (x_w7 : Nat)) := (by rw [← hx_w7]; exact HR3.out.cell j (by omega)); have c2_w7 : wq.cell? ⟨blk, r, none⟩ = some (.int .u32 (y_w7 : Nat)) := (by rw [← hy_w7]; exact HR3.out.cell r (by omega)); have f1_w7 := HR3.out.frz j; have f2_w7 := HR3.out.frz r; have HR7 := Bx.mk (HR3.out.swap j r x_w7 y_w7 (by omega) (by omega) hx_w7 hy_w7).drew; have HU7 := Bx.mk ((UR.setCell (p := ⟨blk, j, none⟩) (.inl rfl) (.int .u32 (y_w7 : Nat))).setCell (p := ⟨blk, r, none⟩) (.inl rfl) (.int .u32 (x_w7 : Nat))).drew; have c3_w7 := HR3.out.c3 j r y_w7 (by omega) (by omega) hy_w7; have f3_w7 : ∀ o, (wq.setCell ⟨blk, j, none⟩ (.int .u32 (y_w7 : Nat))).frozen? ⟨blk, o, none⟩ = false := (HR3.out.set j y_w7 (by omega)).frz; clear hx_w7 hy_w7; go_big_region; clear c1_w7 c2_w7 f1_w7 f2_w7 c3_w7 f3_w7; generalize ((wq.setCell ⟨blk, j, none⟩ (.int .u32 (y_w7 : Nat))).setCell ⟨blk, r, none⟩ (.int .u32 (x_w7 : Nat))).drew = w7 at *
                      have HD7 := Bx.mk ((size_swp' d2 j r).trans hsz7)
                      have hU7 := U3.trans HU7.out
                      repeat' (first | fail | go_values | go_skip | go_guarded | go_step | go_upon | go_back)
                      go_roundw
                      case rel => exact ⟨r, swp d2 j r, rfl, by omega, HD7, HX2, HR7, hU7⟩
                      case measure => simp [intOf]; omega
                    | false =>
                      have HX2 := (shiftD_stop d2 j r hr1 (by rw [hx, hy]; exact hl)).symm.trans HX.out
                      subst HX2
                      have hL := fun w => hl ▸ HL.out x y w
                      clear hx hy hl
                      repeat' (first | fail | go_values | go_skip | go_guarded | go_step | go_upon | go_back)
                      (refine wp_region_calm (by kernel_rfl) (by kernel_rfl) ?_; (repeat (go_big_quiet_step ((go_at_call 49; refine Calls.calm_same (hL _))))); refine wpQuiet_nil ?_; intro wq hq)
                      have HR3 := Bx.mk (HR6.out.blk hq (fun q => q))
                      have U3 : Upd (fun x => x = blk) w wq := hU6.trans (New.upd hq)
                      clear k1 k2 hL
                      repeat' (first | fail | go_values | go_skip | go_guarded | go_step | go_upon | go_back)
                      go_meet
                      case rel => exact ⟨HDs, HR3, U3⟩
                  · have hj0I : ¬ (1 : Int) ≤ (j : Int) := by omega
                    obtain rfl : j = 0 := by omega
                    have HX2 := (shiftD_zero d2).symm.trans HX.out
                    subst HX2
                    repeat' (first | fail | go_values | go_skip | go_guarded | go_step | go_upon | go_back)
                    go_meet
                    case rel => exact ⟨HDs, HR6, hU6⟩
              · have h2I : ¬ (2 : Int) ≤ (ka : Int) := by omega
                have HX : d5 = D2 := by have z := HD2.out; rw [fixDown, if_neg (by omega)] at z; exact z
                subst HX
                repeat' (first | fail | go_values | go_skip | go_guarded | go_step | go_upon | go_back)
                go_meet
                case rel => exact ⟨HD5, HR5, hU5⟩
            case rest =>
              clear HD5 HR5 hU5 HD2
              obtain ⟨HD5, HR5, hU5⟩ := hcut
              have wk' : IntKind.i64.wrap ((k : Int) + 1) = ((k + 1 : Nat) : Int) := by rw [IntKind.wrap_i64]; omega
              by_cases h2 : 2 ≤ bk
              · have h2I : (2 : Int) ≤ (bk : Int) := by omega
                have HX := Bx.mk (show shiftUp ltN b (K + 1) D2 = D3 by have z := HD3.out; rw [fixUp, if_pos (by omega)] at z; exact z)
                repeat' (first | fail | go_values | go_skip | go_guarded | go_step | go_upon | go_back)
                go_loopw [10] (fun jv wr => ∃ (j : Nat) (d2 : Array Nat), jv = .int .i64 j ∧ K + 1 ≤ j ∧ j ≤ b ∧ Bx (d2.size = n) ∧ Bx (shiftUp ltN b j d2 = D3) ∧ Bx (SR blk cap d2 wr) ∧ Upd (fun x => x = blk) w wr) (fun jv _ => b - (intOf jv).toNat)
                case atStart => exact ⟨K + 1, D2, rfl, Nat.le_refl _, by omega, HD5, HX, HR5, hU5⟩
                case round =>
                  clear HX HD5 HR5 hU5
                  obtain ⟨j, d2, rfl, hj1, hj2, HDs, HX, HR6, hU6⟩ := hrel
                  by_cases hj0 : j < b
                  · have hj0I : (j : Int) < (b : Int) := by omega
                    obtain ⟨r, hr1⟩ : ∃ r, r + 1 = j := ⟨j - 1, by omega⟩
                    have wr' : IntKind.i64.wrap ((j : Int) - 1) = (r : Int) := by rw [IntKind.wrap_i64]; omega
                    have wj' : IntKind.i64.wrap ((j : Int) + 1) = ((j + 1 : Nat) : Int) := by rw [IntKind.wrap_i64]; omega
                    have hjI : (j : Int) < (n : Int) := by omega
                    have hrI : (r : Int) < (n : Int) := by omega
                    obtain ⟨x, hx⟩ : ∃ x, d2[j]! = x := ⟨_, rfl⟩
                    obtain ⟨y, hy⟩ : ∃ y, d2[r]! = y := ⟨_, rfl⟩
                    have k1 : ∀ z : After wr, z.to.cell? ⟨blk, j, none⟩ = some (.int .u32 (x : Nat)) := fun z => by rw [← hx]; exact (HR6.out.blk z.h (fun q => q)).cell j (by have := HDs.out; omega)
                    have k2 : ∀ z : After wr, z.to.cell? ⟨blk, r, none⟩ = some (.int .u32 (y : Nat)) := fun z => by rw [← hy]; exact (HR6.out.blk z.h (fun q => q)).cell r (by have := HDs.out; omega)
                    cases hl : ltN x y with
                    | true =>
                      have HX2 := Bx.mk ((shiftU_go d2 b j r hr1 hj0 (by rw [hx, hy]; exact hl)).symm.trans HX.out)
                      have hL := fun w => hl ▸ HL.out x y w
                      clear hx hy hl
                      repeat' (first | fail | go_values | go_skip | go_guarded | go_step | go_upon | go_back)
                      (refine wp_region_calm (by kernel_rfl) (by kernel_rfl) ?_; (repeat (go_big_quiet_step ((go_at_call 49; refine Calls.calm_same (hL _))))); refine wpQuiet_nil ?_; intro wq hq)
                      have HR3 := Bx.mk (HR6.out.blk hq (fun q => q))
                      have U3 : Upd (fun x => x = blk) w wq := hU6.trans (New.upd hq)
                      have hsz7 := HDs.out
                      have UR := Upd.refl (fun x => x = blk) wq
                      clear k1 k2 hL
                      repeat' (first | fail | go_values | go_skip | go_guarded | go_step | go_upon | go_back)
                      (obtain ⟨x_w7, hx_w7⟩ : ∃ x, d2[j]! = x := ⟨_, rfl⟩); (obtain ⟨y_w7, hy_w7⟩ : ∃ y, d2[r]! = y := ⟨_, rfl⟩); have c1_w7 : wq.cell? ⟨blk, j, none⟩ = some (.int .u32 (x_w7 : Nat)) := (by rw [← hx_w7]; exact HR3.out.cell j (by omega)); have c2_w7 : wq.cell? ⟨blk, r, none⟩ = some (.int .u32 (y_w7 : Nat)) := (by rw [← hy_w7]; exact HR3.out.cell r (by omega)); have f1_w7 := HR3.out.frz j; have f2_w7 := HR3.out.frz r; have HR7 := Bx.mk (HR3.out.swap j r x_w7 y_w7 (by omega) (by omega) hx_w7 hy_w7).drew; have HU7 := Bx.mk ((UR.setCell (p := ⟨blk, j, none⟩) (.inl rfl) (.int .u32 (y_w7 : Nat))).setCell (p := ⟨blk, r, none⟩) (.inl rfl) (.int .u32 (x_w7 : Nat))).drew; have c3_w7 := HR3.out.c3 j r y_w7 (by omega) (by omega) hy_w7; have f3_w7 : ∀ o, (wq.setCell ⟨blk, j, none⟩ (.int .u32 (y_w7 : Nat))).frozen? ⟨blk, o, none⟩ = false := (HR3.out.set j y_w7 (by omega)).frz; clear hx_w7 hy_w7; go_big_region; clear c1_w7 c2_w7 f1_w7 f2_w7 c3_w7 f3_w7; generalize ((wq.setCell ⟨blk, j, none⟩ (.int .u32 (y_w7 : Nat))).setCell ⟨blk, r, none⟩ (.int .u32 (x_w7 : Nat))).drew = w7 at *
                      have HD7 := Bx.mk ((size_swp' d2 j r).trans hsz7)
                      have hU7 := U3.trans HU7.out
                      repeat' (first | fail | go_values | go_skip | go_guarded | go_step | go_upon | go_back)
                      go_roundw
                      case rel => exact ⟨j + 1, swp d2 j r, rfl, by omega, by omega, HD7, HX2, HR7, hU7⟩
                      case measure => simp [intOf]; omega
                    | false =>
                      have HX2 := (shiftU_stop d2 b j r hr1 (by rw [hx, hy]; exact hl)).symm.trans HX.out
                      cases HX2
                      have hL := fun w => hl ▸ HL.out x y w
                      clear hx hy hl
                      repeat' (first | fail | go_values | go_skip | go_guarded | go_step | go_upon | go_back)
                      (refine wp_region_calm (by kernel_rfl) (by kernel_rfl) ?_; (repeat (go_big_quiet_step ((go_at_call 49; refine Calls.calm_same (hL _))))); refine wpQuiet_nil ?_; intro wq hq)
                      have HR3 := Bx.mk (HR6.out.blk hq (fun q => q))
                      have U3 : Upd (fun x => x = blk) w wq := hU6.trans (New.upd hq)
                      clear k1 k2 hL
                      repeat' (first | fail | go_values | go_skip | go_guarded | go_step | go_upon | go_back)
                      go_roundw
                      case rel => exact ⟨K, k + 1, _, rfl, rfl, by omega, by omega, by omega, HDs, ⟨by rw [show 5 - (k + 1) = s from by omega]; exact HQ9.out⟩, HR3, U3⟩
                      case measure => simp [intOf]; omega
                  · have hj0I : ¬ (j : Int) < (b : Int) := by omega
                    have HX2 := (shiftU_end d2 b j hj0).symm.trans HX.out
                    cases HX2
                    repeat' (first | fail | go_values | go_skip | go_guarded | go_step | go_upon | go_back)
                    go_roundw
                    case rel => exact ⟨K, k + 1, _, rfl, rfl, by omega, by omega, by omega, HDs, ⟨by rw [show 5 - (k + 1) = s from by omega]; exact HQ9.out⟩, HR6, hU6⟩
                    case measure => simp [intOf]; omega
              · have h2I : ¬ (2 : Int) ≤ (bk : Int) := by omega
                have HX : D2 = D3 := by have z := HD3.out; rw [fixUp, if_neg (by omega)] at z; exact z
                cases HX
                repeat' (first | fail | go_values | go_skip | go_guarded | go_step | go_upon | go_back)
                go_roundw
                case rel => exact ⟨K, k + 1, _, rfl, rfl, by omega, by omega, by omega, HD5, ⟨by rw [show 5 - (k + 1) = s from by omega]; exact HQ9.out⟩, HR5, hU5⟩
                case measure => simp [intOf]; omega
    · have hk5I : ¬ (k : Int) < 5 := by omega
      obtain rfl : k = 5 := by omega
      repeat' (first | fail | go_values | go_skip | go_guarded | go_step | go_upon | go_back)
      go_returns
      have z : partialIns ltN a b 0 i1 d1 = RES := HQ.out
      cases z
      exact ⟨rfl, HR.out, hU⟩
end Go.Proofs.Ytohflgpkimnodaa
