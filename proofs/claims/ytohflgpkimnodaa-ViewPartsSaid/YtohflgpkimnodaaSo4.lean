/- siftDownOrdered at IDs: walked. -/
import Derived.Test.YtohflgpkimnodaaSo3
namespace Go.Proofs.Ytohflgpkimnodaa
open Go.RowKit Go.Sort
theorem sift_stop (hi first r : Nat) (d : Array Nat) (h : 2 * r + 1 ≥ hi) : siftDown ltN hi first r d = d := by rw [siftDown, dif_pos h]
theorem sift_two (hi first r : Nat) (d : Array Nat) (h1 : 2 * r + 1 + 1 < hi) (h2 : ltN d[first + (2 * r + 1)]! d[first + (2 * r + 1) + 1]! = true) :
    siftDown ltN hi first r d = if ltN d[first + r]! d[first + (2 * r + 2)]! = true then siftDown ltN hi first (2 * r + 2) (swp d (first + r) (first + (2 * r + 2))) else d := by
  rw [siftDown, dif_neg (by omega), if_pos (by simp [h1, h2])]
  by_cases h3 : ltN d[first + r]! d[first + (2 * r + 2)]! = true
  · rw [if_neg (by simp [h3]), if_pos h3, dif_pos (by omega)]
  · rw [if_pos (by simp [h3]), if_neg h3]
theorem sift_one (hi first r : Nat) (d : Array Nat) (h0 : ¬ 2 * r + 1 ≥ hi) (h : ¬ 2 * r + 1 + 1 < hi ∨ ltN d[first + (2 * r + 1)]! d[first + (2 * r + 1) + 1]! = false) :
    siftDown ltN hi first r d = if ltN d[first + r]! d[first + (2 * r + 1)]! = true then siftDown ltN hi first (2 * r + 1) (swp d (first + r) (first + (2 * r + 1))) else d := by
  rw [siftDown, dif_neg h0, if_neg (by rcases h with h | h <;> simp [h])]
  by_cases h3 : ltN d[first + r]! d[first + (2 * r + 1)]! = true
  · rw [if_neg (by simp [h3]), if_pos h3]
  · rw [if_pos (by simp [h3]), if_neg h3]
set_option maxRecDepth 20000 in
set_option maxHeartbeats 8000000 in
theorem sift_any {w : World} {blk cap : Nat} {d : Array Nat} (h : SR blk cap d w) (n c lo hi first : Nat) (hn : d.size = n) (hlo : lo ≤ n) (hhi : first + hi ≤ n) (hsz : n < 2305843009213693952) :
    Calls Try.prog 54 #[.slice (some ⟨blk, 0, none⟩) n c, .int .i64 lo, .int .i64 hi, .int .i64 first] w fun e w' => e = .returned (.tuple #[]) ∧ SR blk cap (siftDown ltN hi first lo d) w' ∧ Upd (fun x => x = blk) w w' := by
  have HL := Bx.mk (fun (x y : Nat) w => Less_any x y w)
  have H0 := Bx.mk h
  have HS := Bx.mk hn
  obtain ⟨RES, hres⟩ : ∃ RES, siftDown ltN hi first lo d = RES := ⟨_, rfl⟩
  rw [hres]
  have HO := Bx.mk hres
  clear h hn hres
  go_enter Try.func54, Try.ntmps54
  repeat' (first | fail | go_values | go_skip | go_guarded | go_step | go_upon | go_back)
  go_loopw [8] (fun rv wr => ∃ (r : Nat) (d' : Array Nat), rv = .int .i64 r ∧ r ≤ n ∧ d'.size = n ∧ Bx (siftDown ltN hi first r d' = RES) ∧ Bx (SR blk cap d' wr) ∧ Upd (fun x => x = blk) w wr) (fun rv _ => (n + 1) - (intOf rv).toNat)
  case atStart => exact ⟨lo, d, rfl, hlo, HS.out, HO, H0, Upd.refl _ _⟩
  case round =>
    obtain ⟨r, d1, rfl, hr, hd1, HQ, HR, hU⟩ := hrel
    obtain ⟨ch, hch⟩ : ∃ ch, 2 * r + 1 = ch := ⟨_, rfl⟩
    have w1' : IntKind.i64.wrap (2 * (r : Int)) = 2 * (r : Int) := by rw [IntKind.wrap_i64]; omega
    have w2' : IntKind.i64.wrap (2 * (r : Int) + 1) = (ch : Int) := by rw [IntKind.wrap_i64]; omega
    by_cases hge : hi ≤ ch
    · have hgeI : (hi : Int) ≤ (ch : Int) := by omega
      repeat' (first | fail | go_values | go_skip | go_guarded | go_step | go_upon | go_back)
      go_returns
      exact ⟨rfl, by rw [← HQ.out, sift_stop hi first r d1 (by omega)]; exact HR.out, hU⟩
    · have hgeI : ¬ (hi : Int) ≤ (ch : Int) := by omega
      have w3' : IntKind.i64.wrap ((ch : Int) + 1) = ((ch + 1 : Nat) : Int) := by rw [IntKind.wrap_i64]; omega
      obtain ⟨p1, hp1⟩ : ∃ p, first + ch = p := ⟨_, rfl⟩
      obtain ⟨p2, hp2⟩ : ∃ p, p1 + 1 = p := ⟨_, rfl⟩
      obtain ⟨p0, hp0⟩ : ∃ p, first + r = p := ⟨_, rfl⟩
      have w4' : IntKind.i64.wrap ((first : Int) + (ch : Int)) = (p1 : Int) := by rw [IntKind.wrap_i64]; omega
      have w5' : IntKind.i64.wrap ((p1 : Int) + 1) = (p2 : Int) := by rw [IntKind.wrap_i64]; omega
      have w6' : IntKind.i64.wrap ((first : Int) + (r : Int)) = (p0 : Int) := by rw [IntKind.wrap_i64]; omega
      have w7' : IntKind.i64.wrap ((first : Int) + ((ch : Int) + 1)) = (p2 : Int) := by rw [IntKind.wrap_i64]; omega
      have hp0n : (p0 : Int) < (n : Int) := by omega
      have hp1n : (p1 : Int) < (n : Int) := by omega
      by_cases hch1 : ch + 1 < hi
      · have hch1I : (ch : Int) + 1 < (hi : Int) := by omega
        have hp2n : (p2 : Int) < (n : Int) := by omega
        obtain ⟨y1, hy1⟩ : ∃ x, d1[p1]! = x := ⟨_, rfl⟩
        obtain ⟨y2, hy2⟩ : ∃ x, d1[p2]! = x := ⟨_, rfl⟩
        have k1 : ∀ z : After wr, z.to.cell? ⟨blk, p1, none⟩ = some (.int .u32 (y1 : Nat)) := fun z => by rw [← hy1]; exact (HR.out.blk z.h (fun q => q)).cell p1 (by omega)
        have k2 : ∀ z : After wr, z.to.cell? ⟨blk, p2, none⟩ = some (.int .u32 (y2 : Nat)) := fun z => by rw [← hy2]; exact (HR.out.blk z.h (fun q => q)).cell p2 (by omega)
        cases hl : ltN y1 y2 with
        | true =>
          have hlt : ltN d1[first + (2 * r + 1)]! d1[first + (2 * r + 1) + 1]! = true := by rw [hch, hp1, hp2, hy1, hy2]; exact hl
          have LM := Bx.mk (sift_two hi first r d1 (by omega) hlt)
          have hpc : first + (2 * r + 2) = p2 := by omega
          have hL := fun w => hl ▸ HL.out y1 y2 w
          clear hy1 hy2 hl hlt
          repeat' (first | fail | go_values | go_skip | go_guarded | go_step | go_upon | go_back)
          (refine wp_region_calm (by kernel_rfl) (by kernel_rfl) ?_; (repeat (go_big_quiet_step ((go_at_call 49; refine Calls.calm_same (hL _))))); refine wpQuiet_nil ?_; intro wq hq)
          have HRb := HR.out.blk hq (fun q => q)
          have Ub : Upd (fun x => x = blk) w wq := hU.trans (New.upd hq)
          clear k1 k2 hL hq
          generalize wq = wb at *
          obtain ⟨x0, hx0⟩ : ∃ x, d1[p0]! = x := ⟨_, rfl⟩
          obtain ⟨xc, hxc⟩ : ∃ x, d1[p2]! = x := ⟨_, rfl⟩
          have m1 : ∀ z : After wb, z.to.cell? ⟨blk, p0, none⟩ = some (.int .u32 (x0 : Nat)) := fun z => by rw [← hx0]; exact (HRb.blk z.h (fun q => q)).cell p0 (by omega)
          have m2 : ∀ z : After wb, z.to.cell? ⟨blk, p2, none⟩ = some (.int .u32 (xc : Nat)) := fun z => by rw [← hxc]; exact (HRb.blk z.h (fun q => q)).cell p2 (by omega)
          cases hl2 : ltN x0 xc with
          | true =>
            have HQ1 := Bx.mk ((LM.out.trans (if_pos (by rw [hp0, hpc, hx0, hxc]; exact hl2))).symm.trans HQ.out)
            rw [hp0, hpc] at HQ1
            have hL2 := fun w => hl2 ▸ HL.out x0 xc w
            clear hx0 hxc hl2
            repeat' (first | fail | go_values | go_skip | go_guarded | go_step | go_upon | go_back)
            (refine wp_region_calm (by kernel_rfl) (by kernel_rfl) ?_; (repeat (go_big_quiet_step ((go_at_call 49; refine Calls.calm_same (hL2 _))))); refine wpQuiet_nil ?_; intro wq hq)
            have HRc := HRb.blk hq (fun q => q)
            have Uc : Upd (fun x => x = blk) w wq := Ub.trans (New.upd hq)
            clear m1 m2 hL2
            repeat' (first | fail | go_values | go_skip | go_guarded | go_step | go_upon | go_back)
            (obtain ⟨x_w9, hx_w9⟩ : ∃ x, d1[p0]! = x := ⟨_, rfl⟩); (obtain ⟨y_w9, hy_w9⟩ : ∃ y, d1[p2]! = y := ⟨_, rfl⟩); have c1_w9 : wq.cell? ⟨blk, p0, none⟩ = some (.int .u32 (x_w9 : Nat)) := (by rw [← hx_w9]; exact HRc.cell p0 (by omega)); have c2_w9 : wq.cell? ⟨blk, p2, none⟩ = some (.int .u32 (y_w9 : Nat)) := (by rw [← hy_w9]; exact HRc.cell p2 (by omega)); have f1_w9 := HRc.frz p0; have f2_w9 := HRc.frz p2; have HR9 := Bx.mk (HRc.swap p0 p2 x_w9 y_w9 (by omega) (by omega) hx_w9 hy_w9).drew; have HU9 := Bx.mk ((Uc.setCell (p := ⟨blk, p0, none⟩) (.inl rfl) (.int .u32 (y_w9 : Nat))).setCell (p := ⟨blk, p2, none⟩) (.inl rfl) (.int .u32 (x_w9 : Nat))).drew; have c3_w9 := HRc.c3 p0 p2 y_w9 (by omega) (by omega) hy_w9; have f3_w9 : ∀ o, (wq.setCell ⟨blk, p0, none⟩ (.int .u32 (y_w9 : Nat))).frozen? ⟨blk, o, none⟩ = false := (HRc.set p0 y_w9 (by omega)).frz; clear hx_w9 hy_w9; go_big_region; clear c1_w9 c2_w9 f1_w9 f2_w9 c3_w9 f3_w9; generalize ((wq.setCell ⟨blk, p0, none⟩ (.int .u32 (y_w9 : Nat))).setCell ⟨blk, p2, none⟩ (.int .u32 (x_w9 : Nat))).drew = w9 at *
            repeat' (first | fail | go_values | go_skip | go_guarded | go_step | go_upon | go_back)
            go_roundw
            case rel => exact ⟨(2 * r + 2), swp d1 p0 p2, by go_num, by omega, by rw [size_swp']; exact hd1, HQ1, HR9, HU9.out⟩
            case measure => simp [intOf]; omega
          | false =>
            have HQ1 := Bx.mk ((LM.out.trans (if_neg (by rw [hp0, hpc, hx0, hxc, hl2]; decide))).symm.trans HQ.out)
            have hL2 := fun w => hl2 ▸ HL.out x0 xc w
            clear hx0 hxc hl2
            repeat' (first | fail | go_values | go_skip | go_guarded | go_step | go_upon | go_back)
            (refine wp_region_calm (by kernel_rfl) (by kernel_rfl) ?_; (repeat (go_big_quiet_step ((go_at_call 49; refine Calls.calm_same (hL2 _))))); refine wpQuiet_nil ?_; intro wq hq)
            have HRc := HRb.blk hq (fun q => q)
            have Uc : Upd (fun x => x = blk) w wq := Ub.trans (New.upd hq)
            clear m1 m2 hL2
            repeat' (first | fail | go_values | go_skip | go_guarded | go_step | go_upon | go_back)
            go_returns
            exact ⟨rfl, by rw [← HQ1.out]; exact HRc, Uc⟩
        | false =>
          have hlt : ltN d1[first + (2 * r + 1)]! d1[first + (2 * r + 1) + 1]! = false := by rw [hch, hp1, hp2, hy1, hy2]; exact hl
          have LM := Bx.mk (sift_one hi first r d1 (by omega) (.inr hlt))
          have hpc : first + (2 * r + 1) = p1 := by omega
          have hL := fun w => hl ▸ HL.out y1 y2 w
          clear hy1 hy2 hl hlt
          repeat' (first | fail | go_values | go_skip | go_guarded | go_step | go_upon | go_back)
          (refine wp_region_calm (by kernel_rfl) (by kernel_rfl) ?_; (repeat (go_big_quiet_step ((go_at_call 49; refine Calls.calm_same (hL _))))); refine wpQuiet_nil ?_; intro wq hq)
          have HRb := HR.out.blk hq (fun q => q)
          have Ub : Upd (fun x => x = blk) w wq := hU.trans (New.upd hq)
          clear k1 k2 hL hq
          generalize wq = wb at *
          obtain ⟨x0, hx0⟩ : ∃ x, d1[p0]! = x := ⟨_, rfl⟩
          obtain ⟨xc, hxc⟩ : ∃ x, d1[p1]! = x := ⟨_, rfl⟩
          have m1 : ∀ z : After wb, z.to.cell? ⟨blk, p0, none⟩ = some (.int .u32 (x0 : Nat)) := fun z => by rw [← hx0]; exact (HRb.blk z.h (fun q => q)).cell p0 (by omega)
          have m2 : ∀ z : After wb, z.to.cell? ⟨blk, p1, none⟩ = some (.int .u32 (xc : Nat)) := fun z => by rw [← hxc]; exact (HRb.blk z.h (fun q => q)).cell p1 (by omega)
          cases hl2 : ltN x0 xc with
          | true =>
            have HQ1 := Bx.mk ((LM.out.trans (if_pos (by rw [hp0, hpc, hx0, hxc]; exact hl2))).symm.trans HQ.out)
            rw [hp0, hpc] at HQ1
            have hL2 := fun w => hl2 ▸ HL.out x0 xc w
            clear hx0 hxc hl2
            repeat' (first | fail | go_values | go_skip | go_guarded | go_step | go_upon | go_back)
            (refine wp_region_calm (by kernel_rfl) (by kernel_rfl) ?_; (repeat (go_big_quiet_step ((go_at_call 49; refine Calls.calm_same (hL2 _))))); refine wpQuiet_nil ?_; intro wq hq)
            have HRc := HRb.blk hq (fun q => q)
            have Uc : Upd (fun x => x = blk) w wq := Ub.trans (New.upd hq)
            clear m1 m2 hL2
            repeat' (first | fail | go_values | go_skip | go_guarded | go_step | go_upon | go_back)
            (obtain ⟨x_w9, hx_w9⟩ : ∃ x, d1[p0]! = x := ⟨_, rfl⟩); (obtain ⟨y_w9, hy_w9⟩ : ∃ y, d1[p1]! = y := ⟨_, rfl⟩); have c1_w9 : wq.cell? ⟨blk, p0, none⟩ = some (.int .u32 (x_w9 : Nat)) := (by rw [← hx_w9]; exact HRc.cell p0 (by omega)); have c2_w9 : wq.cell? ⟨blk, p1, none⟩ = some (.int .u32 (y_w9 : Nat)) := (by rw [← hy_w9]; exact HRc.cell p1 (by omega)); have f1_w9 := HRc.frz p0; have f2_w9 := HRc.frz p1; have HR9 := Bx.mk (HRc.swap p0 p1 x_w9 y_w9 (by omega) (by omega) hx_w9 hy_w9).drew; have HU9 := Bx.mk ((Uc.setCell (p := ⟨blk, p0, none⟩) (.inl rfl) (.int .u32 (y_w9 : Nat))).setCell (p := ⟨blk, p1, none⟩) (.inl rfl) (.int .u32 (x_w9 : Nat))).drew; have c3_w9 := HRc.c3 p0 p1 y_w9 (by omega) (by omega) hy_w9; have f3_w9 : ∀ o, (wq.setCell ⟨blk, p0, none⟩ (.int .u32 (y_w9 : Nat))).frozen? ⟨blk, o, none⟩ = false := (HRc.set p0 y_w9 (by omega)).frz; clear hx_w9 hy_w9; go_big_region; clear c1_w9 c2_w9 f1_w9 f2_w9 c3_w9 f3_w9; generalize ((wq.setCell ⟨blk, p0, none⟩ (.int .u32 (y_w9 : Nat))).setCell ⟨blk, p1, none⟩ (.int .u32 (x_w9 : Nat))).drew = w9 at *
            repeat' (first | fail | go_values | go_skip | go_guarded | go_step | go_upon | go_back)
            go_roundw
            case rel => exact ⟨(2 * r + 1), swp d1 p0 p1, by go_num, by omega, by rw [size_swp']; exact hd1, HQ1, HR9, HU9.out⟩
            case measure => simp [intOf]; omega
          | false =>
            have HQ1 := Bx.mk ((LM.out.trans (if_neg (by rw [hp0, hpc, hx0, hxc, hl2]; decide))).symm.trans HQ.out)
            have hL2 := fun w => hl2 ▸ HL.out x0 xc w
            clear hx0 hxc hl2
            repeat' (first | fail | go_values | go_skip | go_guarded | go_step | go_upon | go_back)
            (refine wp_region_calm (by kernel_rfl) (by kernel_rfl) ?_; (repeat (go_big_quiet_step ((go_at_call 49; refine Calls.calm_same (hL2 _))))); refine wpQuiet_nil ?_; intro wq hq)
            have HRc := HRb.blk hq (fun q => q)
            have Uc : Upd (fun x => x = blk) w wq := Ub.trans (New.upd hq)
            clear m1 m2 hL2
            repeat' (first | fail | go_values | go_skip | go_guarded | go_step | go_upon | go_back)
            go_returns
            exact ⟨rfl, by rw [← HQ1.out]; exact HRc, Uc⟩
      · have hch1I : ¬ (ch : Int) + 1 < (hi : Int) := by omega
        have LM := Bx.mk (sift_one hi first r d1 (by omega) (.inl (by omega)))
        have hpc : first + (2 * r + 1) = p1 := by omega
        repeat' (first | fail | go_values | go_skip | go_guarded | go_step | go_upon | go_back)
        (refine wp_region_calm (by kernel_rfl) (by kernel_rfl) ?_; (repeat (go_big_quiet_step ((fail)))); refine wpQuiet_nil ?_; intro wq hq)
        have HRb := HR.out.blk hq (fun q => q)
        have Ub : Upd (fun x => x = blk) w wq := hU.trans (New.upd hq)
        clear hq
        generalize wq = wb at *
        obtain ⟨x0, hx0⟩ : ∃ x, d1[p0]! = x := ⟨_, rfl⟩
        obtain ⟨xc, hxc⟩ : ∃ x, d1[p1]! = x := ⟨_, rfl⟩
        have m1 : ∀ z : After wb, z.to.cell? ⟨blk, p0, none⟩ = some (.int .u32 (x0 : Nat)) := fun z => by rw [← hx0]; exact (HRb.blk z.h (fun q => q)).cell p0 (by omega)
        have m2 : ∀ z : After wb, z.to.cell? ⟨blk, p1, none⟩ = some (.int .u32 (xc : Nat)) := fun z => by rw [← hxc]; exact (HRb.blk z.h (fun q => q)).cell p1 (by omega)
        cases hl2 : ltN x0 xc with
        | true =>
          have HQ1 := Bx.mk ((LM.out.trans (if_pos (by rw [hp0, hpc, hx0, hxc]; exact hl2))).symm.trans HQ.out)
          rw [hp0, hpc] at HQ1
          have hL2 := fun w => hl2 ▸ HL.out x0 xc w
          clear hx0 hxc hl2
          repeat' (first | fail | go_values | go_skip | go_guarded | go_step | go_upon | go_back)
          (refine wp_region_calm (by kernel_rfl) (by kernel_rfl) ?_; (repeat (go_big_quiet_step ((go_at_call 49; refine Calls.calm_same (hL2 _))))); refine wpQuiet_nil ?_; intro wq hq)
          have HRc := HRb.blk hq (fun q => q)
          have Uc : Upd (fun x => x = blk) w wq := Ub.trans (New.upd hq)
          clear m1 m2 hL2
          repeat' (first | fail | go_values | go_skip | go_guarded | go_step | go_upon | go_back)
          (obtain ⟨x_w9, hx_w9⟩ : ∃ x, d1[p0]! = x := ⟨_, rfl⟩); (obtain ⟨y_w9, hy_w9⟩ : ∃ y, d1[p1]! = y := ⟨_, rfl⟩); have c1_w9 : wq.cell? ⟨blk, p0, none⟩ = some (.int .u32 (x_w9 : Nat)) := (by rw [← hx_w9]; exact HRc.cell p0 (by omega)); have c2_w9 : wq.cell? ⟨blk, p1, none⟩ = some (.int .u32 (y_w9 : Nat)) := (by rw [← hy_w9]; exact HRc.cell p1 (by omega)); have f1_w9 := HRc.frz p0; have f2_w9 := HRc.frz p1; have HR9 := Bx.mk (HRc.swap p0 p1 x_w9 y_w9 (by omega) (by omega) hx_w9 hy_w9).drew; have HU9 := Bx.mk ((Uc.setCell (p := ⟨blk, p0, none⟩) (.inl rfl) (.int .u32 (y_w9 : Nat))).setCell (p := ⟨blk, p1, none⟩) (.inl rfl) (.int .u32 (x_w9 : Nat))).drew; have c3_w9 := HRc.c3 p0 p1 y_w9 (by omega) (by omega) hy_w9; have f3_w9 : ∀ o, (wq.setCell ⟨blk, p0, none⟩ (.int .u32 (y_w9 : Nat))).frozen? ⟨blk, o, none⟩ = false := (HRc.set p0 y_w9 (by omega)).frz; clear hx_w9 hy_w9; go_big_region; clear c1_w9 c2_w9 f1_w9 f2_w9 c3_w9 f3_w9; generalize ((wq.setCell ⟨blk, p0, none⟩ (.int .u32 (y_w9 : Nat))).setCell ⟨blk, p1, none⟩ (.int .u32 (x_w9 : Nat))).drew = w9 at *
          repeat' (first | fail | go_values | go_skip | go_guarded | go_step | go_upon | go_back)
          go_roundw
          case rel => exact ⟨(2 * r + 1), swp d1 p0 p1, by go_num, by omega, by rw [size_swp']; exact hd1, HQ1, HR9, HU9.out⟩
          case measure => simp [intOf]; omega
        | false =>
          have HQ1 := Bx.mk ((LM.out.trans (if_neg (by rw [hp0, hpc, hx0, hxc, hl2]; decide))).symm.trans HQ.out)
          have hL2 := fun w => hl2 ▸ HL.out x0 xc w
          clear hx0 hxc hl2
          repeat' (first | fail | go_values | go_skip | go_guarded | go_step | go_upon | go_back)
          (refine wp_region_calm (by kernel_rfl) (by kernel_rfl) ?_; (repeat (go_big_quiet_step ((go_at_call 49; refine Calls.calm_same (hL2 _))))); refine wpQuiet_nil ?_; intro wq hq)
          have HRc := HRb.blk hq (fun q => q)
          have Uc : Upd (fun x => x = blk) w wq := Ub.trans (New.upd hq)
          clear m1 m2 hL2
          repeat' (first | fail | go_values | go_skip | go_guarded | go_step | go_upon | go_back)
          go_returns
          exact ⟨rfl, by rw [← HQ1.out]; exact HRc, Uc⟩
end Go.Proofs.Ytohflgpkimnodaa
