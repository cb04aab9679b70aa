/- partitionOrdered at IDs: walked. -/
import Derived.Test.YtohflgpkimnodaaSo10
import Derived.Deep.DeepCutAuto
import Derived.Deep.CutBlock
namespace Go.Proofs.Ytohflgpkimnodaa
open Go.RowKit Go.Sort
set_option maxRecDepth 20000 in
set_option maxHeartbeats 16000000 in
theorem part_any {w : World} {blk cap : Nat} {d : Array Nat} (h : SR blk cap d w) (n c a b pivot : Nat) (hn : d.size = n) (hap : a ≤ pivot) (hpb : pivot < b) (hab : a + 1 < b) (hb : b ≤ n) (hsz : n < 2305843009213693952) :
    Calls Try.prog 51 #[.slice (some ⟨blk, 0, none⟩) n c, .int .i64 a, .int .i64 b, .int .i64 pivot] w fun e w' => ∃ (mid : Nat) (ap : Bool) (d' : Array Nat), e = .returned (.tuple #[.int .i64 mid, .bool ap]) ∧ a ≤ mid ∧ mid < b ∧ PermIn a b d d' ∧ (∀ k, a ≤ k → k < mid → ltN d'[k]! d'[mid]! = true) ∧ (∀ k, mid < k → k < b → ltN d'[k]! d'[mid]! = false) ∧ SR blk cap d' w' ∧ Upd (fun x => x = blk) w w' := by
  have HL := Bx.mk (fun (x y : Nat) w => Less_any x y w)
  obtain ⟨P, hP⟩ : ∃ P, d[pivot]! = P := ⟨_, rfl⟩
  have P0 := Bx.mk (Prt.start (fun x => ltN x P) d a b pivot hap hpb (by omega))
  rw [hP] at P0
  have HS := Bx.mk hn
  obtain ⟨b1, hb1⟩ : ∃ b1, b - 1 = b1 := ⟨_, rfl⟩
  rw [hb1] at P0
  have w1' : IntKind.i64.wrap ((a : Int) + 1) = ((a + 1 : Nat) : Int) := by rw [IntKind.wrap_i64]; omega
  have w2' : IntKind.i64.wrap ((b : Int) - 1) = (b1 : Int) := by rw [IntKind.wrap_i64]; omega
  have haI : (a : Int) < (n : Int) := by omega
  have hpI : (pivot : Int) < (n : Int) := by omega
  have UR := Upd.refl (fun x => x = blk) w
  clear hP
  go_enter Try.func51, Try.ntmps51
  repeat' (first | fail | go_values | go_skip | go_guarded | go_step | go_upon | go_back)
  (obtain ⟨x_w5, hx_w5⟩ : ∃ x, d[a]! = x := ⟨_, rfl⟩); (obtain ⟨y_w5, hy_w5⟩ : ∃ y, d[pivot]! = y := ⟨_, rfl⟩); have c1_w5 : w.cell? ⟨blk, a, none⟩ = some (.int .u32 (x_w5 : Nat)) := (by rw [← hx_w5]; exact h.cell a (by omega)); have c2_w5 : w.cell? ⟨blk, pivot, none⟩ = some (.int .u32 (y_w5 : Nat)) := (by rw [← hy_w5]; exact h.cell pivot (by omega)); have f1_w5 := h.frz a; have f2_w5 := h.frz pivot; have HR5 := Bx.mk (h.swap a pivot x_w5 y_w5 (by omega) (by omega) hx_w5 hy_w5).drew; have HU5 := Bx.mk ((UR.setCell (p := ⟨blk, a, none⟩) (.inl rfl) (.int .u32 (y_w5 : Nat))).setCell (p := ⟨blk, pivot, none⟩) (.inl rfl) (.int .u32 (x_w5 : Nat))).drew; have c3_w5 := h.c3 a pivot y_w5 (by omega) (by omega) hy_w5; have f3_w5 : ∀ o, (w.setCell ⟨blk, a, none⟩ (.int .u32 (y_w5 : Nat))).frozen? ⟨blk, o, none⟩ = false := (h.set a y_w5 (by omega)).frz; clear hx_w5 hy_w5; go_big_region; clear c1_w5 c2_w5 f1_w5 f2_w5 c3_w5 f3_w5; generalize ((w.setCell ⟨blk, a, none⟩ (.int .u32 (y_w5 : Nat))).setCell ⟨blk, pivot, none⟩ (.int .u32 (x_w5 : Nat))).drew = w5 at *
  have HSD := Bx.mk (P0.out.perm.1.trans HS.out)
  generalize swp d a pivot = d5 at *
  have HP := P0
  have HR := HR5
  have hU := HU5.out
  have hI1 : a + 1 ≤ a + 1 := Nat.le_refl _
  have hI2 : a + 1 ≤ b1 + 1 := by omega
  have hJb : b1 < b := by omega
  clear P0 HR5 HU5 UR h hn
  go_upto_block 0 with (fail)
  go_cut [10] (fun iv wx => ∃ (i : Nat), iv = .int .i64 i ∧ (a + 1) ≤ i ∧ i ≤ b1 + 1 ∧ Bx (Prt (fun x => ltN x P) a b i b1 P d d5) ∧ Bx (SR blk cap d5 wx) ∧ Upd (fun x => x = blk) w wx ∧ (i ≤ b1 → (fun x => ltN x P) d5[i]! = false))
  case first =>
    repeat' (first | fail | go_values | go_skip | go_guarded | go_step | go_upon | go_back)
    go_loopw [10] (fun iv wr => ∃ (i : Nat), iv = .int .i64 i ∧ (a + 1) ≤ i ∧ i ≤ b1 + 1 ∧ Bx (Prt (fun x => ltN x P) a b i b1 P d d5) ∧ Bx (SR blk cap d5 wr) ∧ Upd (fun x => x = blk) w wr) (fun iv _ => b1 + 1 - (intOf iv).toNat)
    case atStart => exact ⟨(a + 1), rfl, Nat.le_refl _, hI2, HP, HR, hU⟩
    case round =>
      obtain ⟨i, rfl, hi1, hi2, HP1, HR1, hU1⟩ := hrel
      by_cases hle : i ≤ b1
      · have hleI : (i : Int) ≤ (b1 : Int) := by omega
        have hiI : (i : Int) < (n : Int) := by omega
        have wi : IntKind.i64.wrap ((i : Int) + 1) = ((i + 1 : Nat) : Int) := by rw [IntKind.wrap_i64]; omega
        obtain ⟨x, hx⟩ : ∃ x, d5[i]! = x := ⟨_, rfl⟩
        have k1 : ∀ z : After wr, z.to.cell? ⟨blk, i, none⟩ = some (.int .u32 (x : Nat)) := fun z => by rw [← hx]; exact (HR1.out.blk z.h (fun q => q)).cell i (by have := HSD.out; omega)
        have k2 : ∀ z : After wr, z.to.cell? ⟨blk, a, none⟩ = some (.int .u32 (P : Nat)) := fun z => by rw [← HP1.out.piv]; exact (HR1.out.blk z.h (fun q => q)).cell a (by have := HSD.out; omega)
        cases hl : ltN x P with
        | true =>
          have hpp : (fun x => ltN x P) x = true := by simp [hl]
          have HP2 := Bx.mk (HP1.out.up (by rw [hx]; exact hpp))
          have hL := fun w => hl ▸ HL.out x P w
          clear hx hl hpp
          repeat' (first | fail | go_values | go_skip | go_guarded | go_step | go_upon | go_back)
          (refine wp_region_calm (by kernel_rfl) (by kernel_rfl) ?_; (repeat (go_big_quiet_step ((go_at_call 49; refine Calls.calm_same (hL _))))); refine wpQuiet_nil ?_; intro wq hq)
          have HR3 := Bx.mk (HR1.out.blk hq (fun q => q))
          have U3 : Upd (fun x => x = blk) w wq := hU1.trans (New.upd hq)
          clear k1 k2 hL
          repeat' (first | fail | go_values | go_skip | go_guarded | go_step | go_upon | go_back)
          go_roundw
          case rel => exact ⟨i + 1, rfl, by omega, by omega, HP2, HR3, U3⟩
          case measure => simp [intOf]; omega
        | false =>
          have hF := Bx.mk (show (fun x => ltN x P) d5[i]! = false by rw [hx]; simp [hl])
          have hL := fun w => hl ▸ HL.out x P w
          clear hx hl
          repeat' (first | fail | go_values | go_skip | go_guarded | go_step | go_upon | go_back)
          (refine wp_region_calm (by kernel_rfl) (by kernel_rfl) ?_; (repeat (go_big_quiet_step ((go_at_call 49; refine Calls.calm_same (hL _))))); refine wpQuiet_nil ?_; intro wq hq)
          have HR3 := Bx.mk (HR1.out.blk hq (fun q => q))
          have U3 : Upd (fun x => x = blk) w wq := hU1.trans (New.upd hq)
          clear k1 k2 hL
          repeat' (first | fail | go_values | go_skip | go_guarded | go_step | go_upon | go_back)
          go_meet
          case rel => exact ⟨i, rfl, hi1, hi2, HP1, HR3, U3, fun _ => hF.out⟩
      · have hleI : ¬ (i : Int) ≤ (b1 : Int) := by omega
        repeat' (first | fail | go_values | go_skip | go_guarded | go_step | go_upon | go_back)
        (refine wp_region_calm (by kernel_rfl) (by kernel_rfl) ?_; (repeat (go_big_quiet_step ((fail)))); refine wpQuiet_nil ?_; intro wq hq)
        have HR3 := Bx.mk (HR1.out.blk hq (fun q => q))
        have U3 : Upd (fun x => x = blk) w wq := hU1.trans (New.upd hq)
        repeat' (first | fail | go_values | go_skip | go_guarded | go_step | go_upon | go_back)
        go_meet
        case rel => exact ⟨i, rfl, hi1, hi2, HP1, HR3, U3, fun q => absurd q hle⟩
  case rest =>
    obtain ⟨i2, rfl, hI3, hI4, HP', HR', hU', hF⟩ := hcut
    clear HP HR hU hI2
    have HP := HP'
    have HR := HR'
    have hU := hU'
    clear HP' HR' hU'
    have hI2 := hI4
    go_upto_block 2 with (fail)
    go_cut [11] (fun iv wx => ∃ (i : Nat), iv = .int .i64 i ∧ i2 ≤ i + 1 ∧ i ≤ b1 ∧ Bx (Prt (fun x => ltN x P) a b i2 i P d d5) ∧ Bx (SR blk cap d5 wx) ∧ Upd (fun x => x = blk) w wx ∧ (i2 ≤ i → (fun x => ltN x P) d5[i]! = true))
    case first =>
      repeat' (first | fail | go_values | go_skip | go_guarded | go_step | go_upon | go_back)
      go_loopw [11] (fun iv wr => ∃ (i : Nat), iv = .int .i64 i ∧ i2 ≤ i + 1 ∧ i ≤ b1 ∧ Bx (Prt (fun x => ltN x P) a b i2 i P d d5) ∧ Bx (SR blk cap d5 wr) ∧ Upd (fun x => x = blk) w wr) (fun iv _ => (intOf iv).toNat)
      case atStart => exact ⟨b1, rfl, hI2, Nat.le_refl _, HP, HR, hU⟩
      case round =>
        obtain ⟨i, rfl, hi1, hi2, HP1, HR1, hU1⟩ := hrel
        by_cases hle : i2 ≤ i
        · have hleI : (i2 : Int) ≤ (i : Int) := by omega
          have hiI : (i : Int) < (n : Int) := by omega
          obtain ⟨i0, hi0⟩ : ∃ i0, i0 + 1 = i := ⟨i - 1, by omega⟩
          have wi : IntKind.i64.wrap ((i : Int) - 1) = (i0 : Int) := by rw [IntKind.wrap_i64]; omega
          obtain ⟨x, hx⟩ : ∃ x, d5[i]! = x := ⟨_, rfl⟩
          have k1 : ∀ z : After wr, z.to.cell? ⟨blk, i, none⟩ = some (.int .u32 (x : Nat)) := fun z => by rw [← hx]; exact (HR1.out.blk z.h (fun q => q)).cell i (by have := HSD.out; omega)
          have k2 : ∀ z : After wr, z.to.cell? ⟨blk, a, none⟩ = some (.int .u32 (P : Nat)) := fun z => by rw [← HP1.out.piv]; exact (HR1.out.blk z.h (fun q => q)).cell a (by have := HSD.out; omega)
          cases hl : ltN x P with
          | false =>
            have hpp : (fun x => ltN x P) x = false := by simp [hl]
            have HP2 := Bx.mk (Prt.down (by rw [hi0]; exact HP1.out) (by rw [hi0, hx]; exact hpp))
            have hL := fun w => hl ▸ HL.out x P w
            clear hx hl hpp
            repeat' (first | fail | go_values | go_skip | go_guarded | go_step | go_upon | go_back)
            (refine wp_region_calm (by kernel_rfl) (by kernel_rfl) ?_; (repeat (go_big_quiet_step ((go_at_call 49; refine Calls.calm_same (hL _))))); refine wpQuiet_nil ?_; intro wq hq)
            have HR3 := Bx.mk (HR1.out.blk hq (fun q => q))
            have U3 : Upd (fun x => x = blk) w wq := hU1.trans (New.upd hq)
            clear k1 k2 hL
            repeat' (first | fail | go_values | go_skip | go_guarded | go_step | go_upon | go_back)
            go_roundw
            case rel => exact ⟨i0, rfl, by omega, by omega, HP2, HR3, U3⟩
            case measure => simp [intOf]; omega
          | true =>
            have hF := Bx.mk (show (fun x => ltN x P) d5[i]! = true by rw [hx]; simp [hl])
            have hL := fun w => hl ▸ HL.out x P w
            clear hx hl
            repeat' (first | fail | go_values | go_skip | go_guarded | go_step | go_upon | go_back)
            (refine wp_region_calm (by kernel_rfl) (by kernel_rfl) ?_; (repeat (go_big_quiet_step ((go_at_call 49; refine Calls.calm_same (hL _))))); refine wpQuiet_nil ?_; intro wq hq)
            have HR3 := Bx.mk (HR1.out.blk hq (fun q => q))
            have U3 : Upd (fun x => x = blk) w wq := hU1.trans (New.upd hq)
            clear k1 k2 hL
            repeat' (first | fail | go_values | go_skip | go_guarded | go_step | go_upon | go_back)
            go_meet
            case rel => exact ⟨i, rfl, hi1, hi2, HP1, HR3, U3, fun _ => hF.out⟩
        · have hleI : ¬ (i2 : Int) ≤ (i : Int) := by omega
          repeat' (first | fail | go_values | go_skip | go_guarded | go_step | go_upon | go_back)
          (refine wp_region_calm (by kernel_rfl) (by kernel_rfl) ?_; (repeat (go_big_quiet_step ((fail)))); refine wpQuiet_nil ?_; intro wq hq)
          have HR3 := Bx.mk (HR1.out.blk hq (fun q => q))
          have U3 : Upd (fun x => x = blk) w wq := hU1.trans (New.upd hq)
          repeat' (first | fail | go_values | go_skip | go_guarded | go_step | go_upon | go_back)
          go_meet
          case rel => exact ⟨i, rfl, hi1, hi2, HP1, HR3, U3, fun q => absurd q hle⟩
    case rest =>
      obtain ⟨j2, rfl, hJ3, hJ4, HP', HR', hU', hG⟩ := hcut
      clear HP HR hU hI2
      have HP := HP'
      have HR := HR'
      have hU := hU'
      clear HP' HR' hU'
      by_cases hij : i2 ≤ j2
      · have hijI : ¬ (j2 : Int) < (i2 : Int) := by omega
        have hlt : i2 < j2 := by have := Prt.ne (p := (fun x => ltN x P)) (hF (by omega)) (hG hij); omega
        have HP5 := Bx.mk (HP.out.step (by omega) hlt (by omega) (by have := HS.out; omega) (hF (by omega)) (hG hij))
        obtain ⟨j5, hj5⟩ : ∃ j5, j2 - 1 = j5 := ⟨_, rfl⟩
        rw [hj5] at HP5
        have hiI : (i2 : Int) < (n : Int) := by omega
        have hjI : (j2 : Int) < (n : Int) := by omega
        have wi2 : IntKind.i64.wrap ((i2 : Int) + 1) = ((i2 + 1 : Nat) : Int) := by rw [IntKind.wrap_i64]; omega
        have wj2 : IntKind.i64.wrap ((j2 : Int) - 1) = (j5 : Int) := by rw [IntKind.wrap_i64]; omega
        have UR := Upd.refl (fun x => x = blk) wc
        have hsz5 := HSD.out
        repeat' (first | fail | go_values | go_skip | go_guarded | go_step | go_upon | go_back)
        (obtain ⟨x_w5, hx_w5⟩ : ∃ x, d5[i2]! = x := ⟨_, rfl⟩); (obtain ⟨y_w5, hy_w5⟩ : ∃ y, d5[j2]! = y := ⟨_, rfl⟩); have c1_w5 : wc.cell? ⟨blk, i2, none⟩ = some (.int .u32 (x_w5 : Nat)) := (by rw [← hx_w5]; exact HR.out.cell i2 (by omega)); have c2_w5 : wc.cell? ⟨blk, j2, none⟩ = some (.int .u32 (y_w5 : Nat)) := (by rw [← hy_w5]; exact HR.out.cell j2 (by omega)); have f1_w5 := HR.out.frz i2; have f2_w5 := HR.out.frz j2; have HR5 := Bx.mk (HR.out.swap i2 j2 x_w5 y_w5 (by omega) (by omega) hx_w5 hy_w5).drew; have HU5 := Bx.mk ((UR.setCell (p := ⟨blk, i2, none⟩) (.inl rfl) (.int .u32 (y_w5 : Nat))).setCell (p := ⟨blk, j2, none⟩) (.inl rfl) (.int .u32 (x_w5 : Nat))).drew; have c3_w5 := HR.out.c3 i2 j2 y_w5 (by omega) (by omega) hy_w5; have f3_w5 : ∀ o, (wc.setCell ⟨blk, i2, none⟩ (.int .u32 (y_w5 : Nat))).frozen? ⟨blk, o, none⟩ = false := (HR.out.set i2 y_w5 (by omega)).frz; clear hx_w5 hy_w5; go_big_region; clear c1_w5 c2_w5 f1_w5 f2_w5 c3_w5 f3_w5; generalize ((wc.setCell ⟨blk, i2, none⟩ (.int .u32 (y_w5 : Nat))).setCell ⟨blk, j2, none⟩ (.int .u32 (x_w5 : Nat))).drew = w5 at *
        have HSD5 := Bx.mk (HP5.out.perm.1.trans HS.out)
        have hU5 := Bx.mk (hU.trans HU5.out)
        clear hsz5
        repeat' (first | fail | go_values | go_skip | go_guarded | go_step | go_upon | go_back)
        generalize swp d5 i2 j2 = d6 at *
        clear HP HR hU hF hG
        go_loopw [10, 11] (fun iv jv wr => ∃ (i j : Nat) (d1 : Array Nat), iv = .int .i64 i ∧ jv = .int .i64 j ∧ a + 1 ≤ i ∧ i ≤ j + 1 ∧ j < b ∧ Bx (Prt (fun x => ltN x P) a b i j P d d1) ∧ Bx (SR blk cap d1 wr) ∧ Bx (d1.size = n) ∧ Upd (fun x => x = blk) w wr) (fun iv jv _ => (intOf jv).toNat + 1 - (intOf iv).toNat)
        case atStart => exact ⟨i2 + 1, j5, d6, rfl, rfl, by omega, by omega, by omega, HP5, HR5, HSD5, hU5.out⟩
        case round =>
          clear HP5 HR5 HSD5 hU5 HU5 HSD UR
          obtain ⟨i1, j1, d1, rfl, rfl, hI1, hI2, hJb, HP, HR, HSD, hU⟩ := hrel
          clear hI3 hI4 hJ3 hJ4
          go_upto_block 6 with (fail)
          go_cut [10] (fun iv wx => ∃ (i : Nat), iv = .int .i64 i ∧ i1 ≤ i ∧ i ≤ j1 + 1 ∧ Bx (Prt (fun x => ltN x P) a b i j1 P d d1) ∧ Bx (SR blk cap d1 wx) ∧ Upd (fun x => x = blk) w wx ∧ (i ≤ j1 → (fun x => ltN x P) d1[i]! = false))
          case first =>
            repeat' (first | fail | go_values | go_skip | go_guarded | go_step | go_upon | go_back)
            go_loopw [10] (fun iv wr => ∃ (i : Nat), iv = .int .i64 i ∧ i1 ≤ i ∧ i ≤ j1 + 1 ∧ Bx (Prt (fun x => ltN x P) a b i j1 P d d1) ∧ Bx (SR blk cap d1 wr) ∧ Upd (fun x => x = blk) w wr) (fun iv _ => j1 + 1 - (intOf iv).toNat)
            case atStart => exact ⟨i1, rfl, Nat.le_refl _, hI2, HP, HR, hU⟩
            case round =>
              obtain ⟨i, rfl, hi1, hi2, HP1, HR1, hU1⟩ := hrel
              by_cases hle : i ≤ j1
              · have hleI : (i : Int) ≤ (j1 : Int) := by omega
                have hiI : (i : Int) < (n : Int) := by omega
                have wi : IntKind.i64.wrap ((i : Int) + 1) = ((i + 1 : Nat) : Int) := by rw [IntKind.wrap_i64]; omega
                obtain ⟨x, hx⟩ : ∃ x, d1[i]! = x := ⟨_, rfl⟩
                have k1 : ∀ z : After wr, z.to.cell? ⟨blk, i, none⟩ = some (.int .u32 (x : Nat)) := fun z => by rw [← hx]; exact (HR1.out.blk z.h (fun q => q)).cell i (by have := HSD.out; omega)
                have k2 : ∀ z : After wr, z.to.cell? ⟨blk, a, none⟩ = some (.int .u32 (P : Nat)) := fun z => by rw [← HP1.out.piv]; exact (HR1.out.blk z.h (fun q => q)).cell a (by have := HSD.out; omega)
                cases hl : ltN x P with
                | true =>
                  have hpp : (fun x => ltN x P) x = true := by simp [hl]
                  have HP2 := Bx.mk (HP1.out.up (by rw [hx]; exact hpp))
                  have hL := fun w => hl ▸ HL.out x P w
                  clear hx hl hpp
                  repeat' (first | fail | go_values | go_skip | go_guarded | go_step | go_upon | go_back)
                  (refine wp_region_calm (by kernel_rfl) (by kernel_rfl) ?_; (repeat (go_big_quiet_step ((go_at_call 49; refine Calls.calm_same (hL _))))); refine wpQuiet_nil ?_; intro wq hq)
                  have HR3 := Bx.mk (HR1.out.blk hq (fun q => q))
                  have U3 : Upd (fun x => x = blk) w wq := hU1.trans (New.upd hq)
                  clear k1 k2 hL
                  repeat' (first | fail | go_values | go_skip | go_guarded | go_step | go_upon | go_back)
                  go_roundw
                  case rel => exact ⟨i + 1, rfl, by omega, by omega, HP2, HR3, U3⟩
                  case measure => simp [intOf]; omega
                | false =>
                  have hF := Bx.mk (show (fun x => ltN x P) d1[i]! = false by rw [hx]; simp [hl])
                  have hL := fun w => hl ▸ HL.out x P w
                  clear hx hl
                  repeat' (first | fail | go_values | go_skip | go_guarded | go_step | go_upon | go_back)
                  (refine wp_region_calm (by kernel_rfl) (by kernel_rfl) ?_; (repeat (go_big_quiet_step ((go_at_call 49; refine Calls.calm_same (hL _))))); refine wpQuiet_nil ?_; intro wq hq)
                  have HR3 := Bx.mk (HR1.out.blk hq (fun q => q))
                  have U3 : Upd (fun x => x = blk) w wq := hU1.trans (New.upd hq)
                  clear k1 k2 hL
                  repeat' (first | fail | go_values | go_skip | go_guarded | go_step | go_upon | go_back)
                  go_meet
                  case rel => exact ⟨i, rfl, hi1, hi2, HP1, HR3, U3, fun _ => hF.out⟩
              · have hleI : ¬ (i : Int) ≤ (j1 : Int) := by omega
                repeat' (first | fail | go_values | go_skip | go_guarded | go_step | go_upon | go_back)
                (refine wp_region_calm (by kernel_rfl) (by kernel_rfl) ?_; (repeat (go_big_quiet_step ((fail)))); refine wpQuiet_nil ?_; intro wq hq)
                have HR3 := Bx.mk (HR1.out.blk hq (fun q => q))
                have U3 : Upd (fun x => x = blk) w wq := hU1.trans (New.upd hq)
                repeat' (first | fail | go_values | go_skip | go_guarded | go_step | go_upon | go_back)
                go_meet
                case rel => exact ⟨i, rfl, hi1, hi2, HP1, HR3, U3, fun q => absurd q hle⟩
          case rest =>
            obtain ⟨i2, rfl, hI3, hI4, HP', HR', hU', hF⟩ := hcut
            clear HP HR hU hI2
            have HP := HP'
            have HR := HR'
            have hU := hU'
            clear HP' HR' hU'
            have hI2 := hI4
            go_upto_block 8 with (fail)
            go_cut [11] (fun iv wx => ∃ (i : Nat), iv = .int .i64 i ∧ i2 ≤ i + 1 ∧ i ≤ j1 ∧ Bx (Prt (fun x => ltN x P) a b i2 i P d d1) ∧ Bx (SR blk cap d1 wx) ∧ Upd (fun x => x = blk) w wx ∧ (i2 ≤ i → (fun x => ltN x P) d1[i]! = true))
            case first =>
              repeat' (first | fail | go_values | go_skip | go_guarded | go_step | go_upon | go_back)
              go_loopw [11] (fun iv wr => ∃ (i : Nat), iv = .int .i64 i ∧ i2 ≤ i + 1 ∧ i ≤ j1 ∧ Bx (Prt (fun x => ltN x P) a b i2 i P d d1) ∧ Bx (SR blk cap d1 wr) ∧ Upd (fun x => x = blk) w wr) (fun iv _ => (intOf iv).toNat)
              case atStart => exact ⟨j1, rfl, hI2, Nat.le_refl _, HP, HR, hU⟩
              case round =>
                obtain ⟨i, rfl, hi1, hi2, HP1, HR1, hU1⟩ := hrel
                by_cases hle : i2 ≤ i
                · have hleI : (i2 : Int) ≤ (i : Int) := by omega
                  have hiI : (i : Int) < (n : Int) := by omega
                  obtain ⟨i0, hi0⟩ : ∃ i0, i0 + 1 = i := ⟨i - 1, by omega⟩
                  have wi : IntKind.i64.wrap ((i : Int) - 1) = (i0 : Int) := by rw [IntKind.wrap_i64]; omega
                  obtain ⟨x, hx⟩ : ∃ x, d1[i]! = x := ⟨_, rfl⟩
                  have k1 : ∀ z : After wr, z.to.cell? ⟨blk, i, none⟩ = some (.int .u32 (x : Nat)) := fun z => by rw [← hx]; exact (HR1.out.blk z.h (fun q => q)).cell i (by have := HSD.out; omega)
                  have k2 : ∀ z : After wr, z.to.cell? ⟨blk, a, none⟩ = some (.int .u32 (P : Nat)) := fun z => by rw [← HP1.out.piv]; exact (HR1.out.blk z.h (fun q => q)).cell a (by have := HSD.out; omega)
                  cases hl : ltN x P with
                  | false =>
                    have hpp : (fun x => ltN x P) x = false := by simp [hl]
                    have HP2 := Bx.mk (Prt.down (by rw [hi0]; exact HP1.out) (by rw [hi0, hx]; exact hpp))
                    have hL := fun w => hl ▸ HL.out x P w
                    clear hx hl hpp
                    repeat' (first | fail | go_values | go_skip | go_guarded | go_step | go_upon | go_back)
                    (refine wp_region_calm (by kernel_rfl) (by kernel_rfl) ?_; (repeat (go_big_quiet_step ((go_at_call 49; refine Calls.calm_same (hL _))))); refine wpQuiet_nil ?_; intro wq hq)
                    have HR3 := Bx.mk (HR1.out.blk hq (fun q => q))
                    have U3 : Upd (fun x => x = blk) w wq := hU1.trans (New.upd hq)
                    clear k1 k2 hL
                    repeat' (first | fail | go_values | go_skip | go_guarded | go_step | go_upon | go_back)
                    go_roundw
                    case rel => exact ⟨i0, rfl, by omega, by omega, HP2, HR3, U3⟩
                    case measure => simp [intOf]; omega
                  | true =>
                    have hF := Bx.mk (show (fun x => ltN x P) d1[i]! = true by rw [hx]; simp [hl])
                    have hL := fun w => hl ▸ HL.out x P w
                    clear hx hl
                    repeat' (first | fail | go_values | go_skip | go_guarded | go_step | go_upon | go_back)
                    (refine wp_region_calm (by kernel_rfl) (by kernel_rfl) ?_; (repeat (go_big_quiet_step ((go_at_call 49; refine Calls.calm_same (hL _))))); refine wpQuiet_nil ?_; intro wq hq)
                    have HR3 := Bx.mk (HR1.out.blk hq (fun q => q))
                    have U3 : Upd (fun x => x = blk) w wq := hU1.trans (New.upd hq)
                    clear k1 k2 hL
                    repeat' (first | fail | go_values | go_skip | go_guarded | go_step | go_upon | go_back)
                    go_meet
                    case rel => exact ⟨i, rfl, hi1, hi2, HP1, HR3, U3, fun _ => hF.out⟩
                · have hleI : ¬ (i2 : Int) ≤ (i : Int) := by omega
                  repeat' (first | fail | go_values | go_skip | go_guarded | go_step | go_upon | go_back)
                  (refine wp_region_calm (by kernel_rfl) (by kernel_rfl) ?_; (repeat (go_big_quiet_step ((fail)))); refine wpQuiet_nil ?_; intro wq hq)
                  have HR3 := Bx.mk (HR1.out.blk hq (fun q => q))
                  have U3 : Upd (fun x => x = blk) w wq := hU1.trans (New.upd hq)
                  repeat' (first | fail | go_values | go_skip | go_guarded | go_step | go_upon | go_back)
                  go_meet
                  case rel => exact ⟨i, rfl, hi1, hi2, HP1, HR3, U3, fun q => absurd q hle⟩
            case rest =>
              obtain ⟨j2, rfl, hJ3, hJ4, HP', HR', hU', hG⟩ := hcut
              clear HP HR hU hI2
              have HP := HP'
              have HR := HR'
              have hU := hU'
              clear HP' HR' hU'
              by_cases hij : i2 ≤ j2
              · have hijI : ¬ (j2 : Int) < (i2 : Int) := by omega
                have hlt : i2 < j2 := by have := Prt.ne (p := (fun x => ltN x P)) (hF (by omega)) (hG hij); omega
                have HP5 := Bx.mk (HP.out.step (by omega) hlt (by omega) (by have := HS.out; omega) (hF (by omega)) (hG hij))
                obtain ⟨j5, hj5⟩ : ∃ j5, j2 - 1 = j5 := ⟨_, rfl⟩
                rw [hj5] at HP5
                have hiI : (i2 : Int) < (n : Int) := by omega
                have hjI : (j2 : Int) < (n : Int) := by omega
                have wi2 : IntKind.i64.wrap ((i2 : Int) + 1) = ((i2 + 1 : Nat) : Int) := by rw [IntKind.wrap_i64]; omega
                have wj2 : IntKind.i64.wrap ((j2 : Int) - 1) = (j5 : Int) := by rw [IntKind.wrap_i64]; omega
                have UR := Upd.refl (fun x => x = blk) wc
                have hsz5 := HSD.out
                repeat' (first | fail | go_values | go_skip | go_guarded | go_step | go_upon | go_back)
                (obtain ⟨x_w5, hx_w5⟩ : ∃ x, d1[i2]! = x := ⟨_, rfl⟩); (obtain ⟨y_w5, hy_w5⟩ : ∃ y, d1[j2]! = y := ⟨_, rfl⟩); have c1_w5 : wc.cell? ⟨blk, i2, none⟩ = some (.int .u32 (x_w5 : Nat)) := (by rw [← hx_w5]; exact HR.out.cell i2 (by omega)); have c2_w5 : wc.cell? ⟨blk, j2, none⟩ = some (.int .u32 (y_w5 : Nat)) := (by rw [← hy_w5]; exact HR.out.cell j2 (by omega)); have f1_w5 := HR.out.frz i2; have f2_w5 := HR.out.frz j2; have HR5 := Bx.mk (HR.out.swap i2 j2 x_w5 y_w5 (by omega) (by omega) hx_w5 hy_w5).drew; have HU5 := Bx.mk ((UR.setCell (p := ⟨blk, i2, none⟩) (.inl rfl) (.int .u32 (y_w5 : Nat))).setCell (p := ⟨blk, j2, none⟩) (.inl rfl) (.int .u32 (x_w5 : Nat))).drew; have c3_w5 := HR.out.c3 i2 j2 y_w5 (by omega) (by omega) hy_w5; have f3_w5 : ∀ o, (wc.setCell ⟨blk, i2, none⟩ (.int .u32 (y_w5 : Nat))).frozen? ⟨blk, o, none⟩ = false := (HR.out.set i2 y_w5 (by omega)).frz; clear hx_w5 hy_w5; go_big_region; clear c1_w5 c2_w5 f1_w5 f2_w5 c3_w5 f3_w5; generalize ((wc.setCell ⟨blk, i2, none⟩ (.int .u32 (y_w5 : Nat))).setCell ⟨blk, j2, none⟩ (.int .u32 (x_w5 : Nat))).drew = w5 at *
                have HSD5 := Bx.mk (HP5.out.perm.1.trans HS.out)
                have hU5 := Bx.mk (hU.trans HU5.out)
                clear hsz5
                repeat' (first | fail | go_values | go_skip | go_guarded | go_step | go_upon | go_back)
                go_roundw
                case rel => exact ⟨i2 + 1, j5, swp d1 i2 j2, rfl, rfl, by omega, by omega, by omega, HP5, HR5, HSD5, hU5.out⟩
                case measure => simp [intOf]; omega
              · have hijI : (j2 : Int) < (i2 : Int) := by omega
                have hjI : (j2 : Int) < (n : Int) := by omega
                have UR := Upd.refl (fun x => x = blk) wc
                have hsz5 := HSD.out
                have HFin := Bx.mk (HP.out.fin (by omega) (by omega) (by omega) (by have := HS.out; omega))
                repeat' (first | fail | go_values | go_skip | go_guarded | go_step | go_upon | go_back)
                (obtain ⟨x_w5, hx_w5⟩ : ∃ x, d1[j2]! = x := ⟨_, rfl⟩); (obtain ⟨y_w5, hy_w5⟩ : ∃ y, d1[a]! = y := ⟨_, rfl⟩); have c1_w5 : wc.cell? ⟨blk, j2, none⟩ = some (.int .u32 (x_w5 : Nat)) := (by rw [← hx_w5]; exact HR.out.cell j2 (by omega)); have c2_w5 : wc.cell? ⟨blk, a, none⟩ = some (.int .u32 (y_w5 : Nat)) := (by rw [← hy_w5]; exact HR.out.cell a (by omega)); have f1_w5 := HR.out.frz j2; have f2_w5 := HR.out.frz a; have HR5 := Bx.mk (HR.out.swap j2 a x_w5 y_w5 (by omega) (by omega) hx_w5 hy_w5).drew; have HU5 := Bx.mk ((UR.setCell (p := ⟨blk, j2, none⟩) (.inl rfl) (.int .u32 (y_w5 : Nat))).setCell (p := ⟨blk, a, none⟩) (.inl rfl) (.int .u32 (x_w5 : Nat))).drew; have c3_w5 := HR.out.c3 j2 a y_w5 (by omega) (by omega) hy_w5; have f3_w5 : ∀ o, (wc.setCell ⟨blk, j2, none⟩ (.int .u32 (y_w5 : Nat))).frozen? ⟨blk, o, none⟩ = false := (HR.out.set j2 y_w5 (by omega)).frz; clear hx_w5 hy_w5; go_big_region; clear c1_w5 c2_w5 f1_w5 f2_w5 c3_w5 f3_w5; generalize ((wc.setCell ⟨blk, j2, none⟩ (.int .u32 (y_w5 : Nat))).setCell ⟨blk, a, none⟩ (.int .u32 (x_w5 : Nat))).drew = w5 at *
                have hU5 := hU.trans HU5.out
                repeat' (first | fail | go_values | go_skip | go_guarded | go_step | go_upon | go_back)
                go_returns
                obtain ⟨q1, q2, q3, q4⟩ := HFin.out
                exact ⟨j2, false, _, rfl, by omega, by omega, q1, by rw [q2]; exact q3, by rw [q2]; exact q4, HR5.out, hU5⟩
      · have hijI : (j2 : Int) < (i2 : Int) := by omega
        have hjI : (j2 : Int) < (n : Int) := by omega
        have UR := Upd.refl (fun x => x = blk) wc
        have hsz5 := HSD.out
        have HFin := Bx.mk (HP.out.fin (by omega) (by omega) (by omega) (by have := HS.out; omega))
        repeat' (first | fail | go_values | go_skip | go_guarded | go_step | go_upon | go_back)
        (obtain ⟨x_w5, hx_w5⟩ : ∃ x, d5[j2]! = x := ⟨_, rfl⟩); (obtain ⟨y_w5, hy_w5⟩ : ∃ y, d5[a]! = y := ⟨_, rfl⟩); have c1_w5 : wc.cell? ⟨blk, j2, none⟩ = some (.int .u32 (x_w5 : Nat)) := (by rw [← hx_w5]; exact HR.out.cell j2 (by omega)); have c2_w5 : wc.cell? ⟨blk, a, none⟩ = some (.int .u32 (y_w5 : Nat)) := (by rw [← hy_w5]; exact HR.out.cell a (by omega)); have f1_w5 := HR.out.frz j2; have f2_w5 := HR.out.frz a; have HR5 := Bx.mk (HR.out.swap j2 a x_w5 y_w5 (by omega) (by omega) hx_w5 hy_w5).drew; have HU5 := Bx.mk ((UR.setCell (p := ⟨blk, j2, none⟩) (.inl rfl) (.int .u32 (y_w5 : Nat))).setCell (p := ⟨blk, a, none⟩) (.inl rfl) (.int .u32 (x_w5 : Nat))).drew; have c3_w5 := HR.out.c3 j2 a y_w5 (by omega) (by omega) hy_w5; have f3_w5 : ∀ o, (wc.setCell ⟨blk, j2, none⟩ (.int .u32 (y_w5 : Nat))).frozen? ⟨blk, o, none⟩ = false := (HR.out.set j2 y_w5 (by omega)).frz; clear hx_w5 hy_w5; go_big_region; clear c1_w5 c2_w5 f1_w5 f2_w5 c3_w5 f3_w5; generalize ((wc.setCell ⟨blk, j2, none⟩ (.int .u32 (y_w5 : Nat))).setCell ⟨blk, a, none⟩ (.int .u32 (x_w5 : Nat))).drew = w5 at *
        have hU5 := hU.trans HU5.out
        repeat' (first | fail | go_values | go_skip | go_guarded | go_step | go_upon | go_back)
        go_returns
        obtain ⟨q1, q2, q3, q4⟩ := HFin.out
        exact ⟨j2, true, _, rfl, by omega, by omega, q1, by rw [q2]; exact q3, by rw [q2]; exact q4, HR5.out, hU5⟩
end Go.Proofs.Ytohflgpkimnodaa
