/- What compares; insertionSortCmpFunc walked (printed by ssp.py). -/
import Derived.Test.YtdnkdmdmekdfkaaSsE2
import Derived.Deep.LoopGhost
namespace Go.Proofs.Ytdnkdmdmekdfkaa
open Go.RowKit Go.Sort
theorem nanE_any (x : Nat) (w : World) : Calls Try.prog 54 #[.int .u32 x] w fun e w' => e = .returned (.bool false) ∧ w' = w := by
  go_enter Try.func54, Try.ntmps54
  repeat' (first | fail | go_values | go_skip | go_guarded | go_step | go_upon | go_back)
  go_returns
  exact ⟨rfl, rfl⟩
theorem compareE_any (x y : Nat) (w : World) : Calls Try.prog 31 #[.int .u32 x, .int .u32 y] w fun e w' => e = .returned (.int .i64 (cmpN x y)) ∧ w' = w := by
  have hx := Bx.mk (fun x w => nanE_any x w)
  by_cases h1 : x < y
  · have h1I : (x : Int) < (y : Int) := by omega
    have e : cmpN x y = -1 := by unfold cmpN; rw [if_pos h1]
    rw [e]
    go_enter Try.func31, Try.ntmps31
    repeat' (first | (go_at_call 54; (with_reducible refine (hx.out _ _).mono ?_); rintro e w1 ⟨rfl, rfl⟩; dsimp only) | go_values | go_skip | go_guarded | go_step | go_upon | go_back)
    go_returns
    exact ⟨rfl, rfl⟩
  · have h1I : ¬ (x : Int) < (y : Int) := by omega
    by_cases h2 : y < x
    · have h2I : (y : Int) < (x : Int) := by omega
      have e : cmpN x y = 1 := by unfold cmpN; rw [if_neg h1, if_pos h2]
      rw [e]
      go_enter Try.func31, Try.ntmps31
      repeat' (first | (go_at_call 54; (with_reducible refine (hx.out _ _).mono ?_); rintro e w1 ⟨rfl, rfl⟩; dsimp only) | go_values | go_skip | go_guarded | go_step | go_upon | go_back)
      go_returns
      exact ⟨rfl, rfl⟩
    · have h2I : ¬ (y : Int) < (x : Int) := by omega
      have e : cmpN x y = 0 := by unfold cmpN; rw [if_neg h1, if_neg h2]
      rw [e]
      go_enter Try.func31, Try.ntmps31
      repeat' (first | (go_at_call 54; (with_reducible refine (hx.out _ _).mono ?_); rintro e w1 ⟨rfl, rfl⟩; dsimp only) | go_values | go_skip | go_guarded | go_step | go_upon | go_back)
      go_returns
      exact ⟨rfl, rfl⟩
def ltE (x y : (Nat × Option Addr × Nat × Nat)) : Bool := decide (x.1 < y.1)
theorem swoE : SWO ltE := Ss.swo_key (κ := fun x : (Nat × Option Addr × Nat × Nat) => x.1)
theorem cmpE_any (x y : (Nat × Option Addr × Nat × Nat)) (w : World) : Calls Try.prog 30 #[.agg #[.int .u32 x.1, .slice x.2.1 x.2.2.1 x.2.2.2], .agg #[.int .u32 y.1, .slice y.2.1 y.2.2.1 y.2.2.2]] w fun e w' => e = .returned (.int .i64 (cmpN x.1 y.1)) ∧ New w w' := by
  have HC := Bx.mk (fun w => compareE_any x.1 y.1 w)
  have A1 := (Upd.refl Nowhere w).alloc (.cells #[.int .u32 x.1, .slice x.2.1 x.2.2.1 x.2.2.2] 43)
  have A2 := (Upd.refl Nowhere (w.alloc (.cells #[.int .u32 x.1, .slice x.2.1 x.2.2.1 x.2.2.2] 43))).alloc (.cells #[.int .u32 y.1, .slice y.2.1 y.2.2.1 y.2.2.2] 43)
  have k1 := A2.cell (boxS w #[.int .u32 x.1, .slice x.2.1 x.2.2.1 x.2.2.2] 43 0 _ rfl) (fun q => q)
  have k2 := boxS (w.alloc (.cells #[.int .u32 x.1, .slice x.2.1 x.2.2.1 x.2.2.2] 43)) #[.int .u32 y.1, .slice y.2.1 y.2.2.1 y.2.2.2] 43 0 _ rfl
  rw [show (w.alloc (.cells #[.int .u32 x.1, .slice x.2.1 x.2.2.1 x.2.2.2] 43)).heap.size = w.heap.size + 1 by simp] at k2
  have BA := Bx.mk (A1.trans A2)
  clear A1 A2
  go_enter Try.func30, Try.ntmps30
  repeat' (first | (go_at_call 31; (with_reducible refine (HC.out _).mono ?_); rintro e w1 ⟨rfl, rfl⟩; dsimp only) | go_values | go_skip | go_guarded | go_step | go_upon | go_back)
  go_returns
  exact ⟨rfl, BA.out⟩
theorem insI_goE (a j q : Nat) (d : Array (Nat × Option Addr × Nat × Nat)) (hj : q + 1 = j) (h : a < j) (hl : ltE d[j]! d[q]! = true) : insInner ltE a j d = insInner ltE a q (swp d j q) := by
  subst hj
  rw [insInner, if_pos]
  simp [hl]; omega
theorem insI_stopE (a j : Nat) (d : Array (Nat × Option Addr × Nat × Nat)) (h : j ≤ a ∨ ∃ q, q + 1 = j ∧ ltE d[j]! d[q]! = false) : insInner ltE a j d = d := by
  cases j with
  | zero => rfl
  | succ j =>
    rw [insInner, if_neg]
    rcases h with h | ⟨q, hq, h⟩
    · simp; omega
    · obtain rfl : q = j := by omega
      simp [h]
theorem insO_goE (a b i : Nat) (d : Array (Nat × Option Addr × Nat × Nat)) (h : i < b) : insOuter ltE a b i d = insOuter ltE a b (i + 1) (insInner ltE a i d) := by rw [insOuter, if_pos h]
theorem insO_stopE (a b i : Nat) (d : Array (Nat × Option Addr × Nat × Nat)) (h : ¬ i < b) : insOuter ltE a b i d = d := by rw [insOuter, if_neg h]
set_option maxRecDepth 20000 in
set_option maxHeartbeats 8000000 in
theorem insE_any {w : World} {blk S : Nat} {d : Array (Nat × Option Addr × Nat × Nat)} (h : SRE blk S d w) (n c a b : Nat) (hn : d.size = n) (hab : a ≤ b) (hb : b ≤ n) (hsz : n < 1000000) :
    Calls Try.prog 70 #[.slice (some ⟨blk, 0, none⟩) n c, .int .i64 a, .int .i64 b, .func (.func 30) #[] #[]] w fun e w' => e = .returned (.tuple #[]) ∧ SRE blk S (insertionSort ltE d a b) w' ∧ Upd (fun x => x = blk) w w' := by
  have HL := Bx.mk (fun (x y : (Nat × Option Addr × Nat × Nat)) w => cmpE_any x y w)
  have H0 := Bx.mk h
  have HS := Bx.mk hn
  have HF := h.fit
  rw [hn] at HF
  obtain ⟨RES, hres⟩ : ∃ RES, insertionSort ltE d a b = RES := ⟨_, rfl⟩
  rw [hres]
  have HO := Bx.mk (show insOuter ltE a b (a + 1) d = RES from hres)
  have w0' : IntKind.i64.wrap ((a : Int) + 1) = ((a + 1 : Nat) : Int) := by rw [IntKind.wrap_i64]; omega
  clear h hn hres
  go_enter Try.func70, Try.ntmps70
  repeat' (first | fail | go_values | go_skip | go_guarded | go_step | go_upon | go_back)
  go_loopw [8] (fun i wr => ∃ (j : Nat) (d' : Array (Nat × Option Addr × Nat × Nat)), i = .int .i64 j ∧ a + 1 ≤ j ∧ d'.size = n ∧ Bx (insOuter ltE a b j d' = RES) ∧ Bx (SRE blk S d' wr) ∧ Bx (Upd (fun x => x = blk) w wr)) (fun i _ => b - (intOf i).toNat)
  case atStart => exact ⟨a + 1, d, rfl, Nat.le_refl _, HS.out, HO, H0, ⟨Upd.refl _ _⟩⟩
  case round =>
    obtain ⟨i, d1, rfl, hai, hd1, HQ, HR, hU⟩ := hrel
    clear w0'
    by_cases hlt : i < b
    · have hltI : (i : Int) < (b : Int) := by omega
      have wi : IntKind.i64.wrap ((i : Int) + 1) = ((i + 1 : Nat) : Int) := by rw [IntKind.wrap_i64]; omega
      have HQ1 := Bx.mk ((insO_goE a b i d1 hlt).symm.trans HQ.out)
      obtain ⟨INN, hinn⟩ : ∃ INN, insInner ltE a i d1 = INN := ⟨_, rfl⟩
      have HI := Bx.mk hinn
      clear HQ hinn
      repeat' (first | fail | go_values | go_skip | go_guarded | go_step | go_upon | go_back)
      go_loopw [9] (fun jv wr => ∃ (j : Nat) (d' : Array (Nat × Option Addr × Nat × Nat)), jv = .int .i64 j ∧ j ≤ i ∧ d'.size = n ∧ Bx (insInner ltE a j d' = INN) ∧ Bx (SRE blk S d' wr) ∧ Bx (Upd (fun x => x = blk) w wr)) (fun jv _ => (intOf jv).toNat)
      case atStart => exact ⟨i, d1, rfl, Nat.le_refl _, hd1, HI, HR, hU⟩
      case round =>
        obtain ⟨j, d2, rfl, hji, hd2, HJ, HR2, hU2⟩ := hrel
        by_cases hja : a < j
        · obtain ⟨q, hqe⟩ : ∃ q, q + 1 = j := ⟨j - 1, by omega⟩
          have wqe : IntKind.i64.wrap ((j : Int) - 1) = (q : Int) := by rw [IntKind.wrap_i64]; omega
          have hjaI : (a : Int) < (j : Int) := by omega
          have hjn : (j : Int) < (n : Int) := by omega
          have hqn : (q : Int) < (n : Int) := by omega
          have hqj : q < j := by omega
          have hjm : j < n := by omega
          have hqm : q < n := by omega
          obtain ⟨x, hx⟩ : ∃ x, d2[j]! = x := ⟨_, rfl⟩
          obtain ⟨y, hy⟩ : ∃ y, d2[q]! = y := ⟨_, rfl⟩
          have gx : ∀ (z : After wr) c v, (encE x)[c]? = some v → z.to.cell? ⟨blk, j * 2 + c, none⟩ = some v := fun z => (HR2.out.blk z.h (fun q => q)).get j x (by omega) hx
          have gy : ∀ (z : After wr) c v, (encE y)[c]? = some v → z.to.cell? ⟨blk, q * 2 + c, none⟩ = some v := fun z => (HR2.out.blk z.h (fun q => q)).get q y (by omega) hy
          have ca0 : ∀ z : After wr, z.to.cell? ⟨blk, j * 2, none⟩ = some (.int .u32 x.1) := fun z => gx z 0 _ rfl
          have ca1 : ∀ z : After wr, z.to.cell? ⟨blk, j * 2 + 1, none⟩ = some (.slice x.2.1 x.2.2.1 x.2.2.2) := fun z => gx z 1 _ rfl
          have cb0 : ∀ z : After wr, z.to.cell? ⟨blk, q * 2, none⟩ = some (.int .u32 y.1) := fun z => gy z 0 _ rfl
          have cb1 : ∀ z : After wr, z.to.cell? ⟨blk, q * 2 + 1, none⟩ = some (.slice y.2.1 y.2.2.1 y.2.2.2) := fun z => gy z 1 _ rfl
          have hC := Bx.mk (HL.out x y)
          have hlt2 := cmpN_lt x.1 y.1
          have hltx : decide (x.1 < y.1) = ltE x y := rfl
          rw [hltx] at hlt2
          obtain ⟨cc, hcc⟩ : ∃ cc, cmpN x.1 y.1 = cc := ⟨_, rfl⟩
          rw [hcc] at hC hlt2
          clear gx gy hcc hltx
          cases hl : ltE x y with
          | true =>
            have HJ2 := Bx.mk ((insI_goE a j q d2 hqe hja (by rw [hx, hy]; exact hl)).symm.trans HJ.out)
            rw [hl] at hlt2
            have hcn : cc < 0 := of_decide_eq_true hlt2
            have HX := Bx.mk hx
            have HY := Bx.mk hy
            clear hx hy HJ hl
            repeat' (first | fail | go_values | go_skip | go_guarded | go_step | go_upon | go_back)
            (refine wp_region_calm (by kernel_rfl) (by kernel_rfl) ?_; (repeat (go_big_quiet_step ((go_at_call 30; refine Calls.calm (hC.out _))))); refine wpQuiet_nil ?_; intro wq hq)
            clear ca0 ca1
            clear cb0 cb1
            have HR3 := HR2.out.blk hq (fun q => q)
            have U3 : Upd (fun x => x = blk) w wq := hU2.out.trans (New.upd hq)
            clear hq hC hlt2 HR2 hU2
            have gx := HR3.get j x (by omega) HX.out
            have gy := HR3.get q y (by omega) HY.out
            have ca0 : wq.cell? ⟨blk, j * 2, none⟩ = some (.int .u32 x.1) := gx 0 _ rfl
            have ca1 : wq.cell? ⟨blk, j * 2 + 1, none⟩ = some (.slice x.2.1 x.2.2.1 x.2.2.2) := gx 1 _ rfl
            have cb0 : wq.cell? ⟨blk, q * 2, none⟩ = some (.int .u32 y.1) := gy 0 _ rfl
            have cb1 : wq.cell? ⟨blk, q * 2 + 1, none⟩ = some (.slice y.2.1 y.2.2.1 y.2.2.2) := gy 1 _ rfl
            have f0 := HR3.own.frz
            have og1 := Own1.set HR3.own (j * 2) (.int .u32 y.1)
            obtain ⟨xg1, cg1⟩ := og1.cell (j * 2 + 1) (by omega)
            have fg1 := og1.frz
            have og2 := Own1.set og1 (j * 2 + 1) (.slice y.2.1 y.2.2.1 y.2.2.2)
            obtain ⟨xg2, cg2⟩ := og2.cell (q * 2) (by omega)
            have fg2 := og2.frz
            have og3 := Own1.set og2 (q * 2) (.int .u32 x.1)
            obtain ⟨xg3, cg3⟩ := og3.cell (q * 2 + 1) (by omega)
            have fg3 := og3.frz
            clear og3 og2 og1
            have HR4 := Bx.mk (HR3.swap j q x y (by omega) (by omega) HX.out HY.out).drew
            have U4 := Bx.mk ((((U3.setCell (p := ⟨blk, j * 2, none⟩) (.inl rfl) (.int .u32 y.1)).setCell (p := ⟨blk, j * 2 + 1, none⟩) (.inl rfl) (.slice y.2.1 y.2.2.1 y.2.2.2)).setCell (p := ⟨blk, q * 2, none⟩) (.inl rfl) (.int .u32 x.1)).setCell (p := ⟨blk, q * 2 + 1, none⟩) (.inl rfl) (.slice x.2.1 x.2.2.1 x.2.2.2)).drew
            clear gx gy HR3 U3
            repeat' (first | fail | go_values | go_skip | go_guarded | go_step | go_upon | go_back)
            go_big_region
            clear ca0 ca1
            clear cb0 cb1
            clear cg1 fg1 cg2 fg2 cg3 fg3
            generalize ((((wq.setCell ⟨blk, j * 2, none⟩ (.int .u32 y.1)).setCell ⟨blk, j * 2 + 1, none⟩ (.slice y.2.1 y.2.2.1 y.2.2.2)).setCell ⟨blk, q * 2, none⟩ (.int .u32 x.1)).setCell ⟨blk, q * 2 + 1, none⟩ (.slice x.2.1 x.2.2.1 x.2.2.2)).drew = w5 at *
            repeat' (first | fail | go_values | go_skip | go_guarded | go_step | go_upon | go_back)
            go_roundw
            case rel => exact ⟨q, swp d2 j q, rfl, by omega, by rw [swp_size]; exact hd2, HJ2, HR4, U4⟩
            case measure => simp [intOf]; omega
          | false =>
            have HJ2 := Bx.mk ((insI_stopE a j d2 (.inr ⟨q, hqe, by rw [hx, hy]; exact hl⟩)).symm.trans HJ.out)
            rw [hl] at hlt2
            have hcn : ¬ cc < 0 := of_decide_eq_false hlt2
            clear hx hy HJ hl
            repeat' (first | fail | go_values | go_skip | go_guarded | go_step | go_upon | go_back)
            (refine wp_region_calm (by kernel_rfl) (by kernel_rfl) ?_; (repeat (go_big_quiet_step ((go_at_call 30; refine Calls.calm (hC.out _))))); refine wpQuiet_nil ?_; intro wq hq)
            clear ca0 ca1
            clear cb0 cb1
            have HR3 := Bx.mk (HR2.out.blk hq (fun q => q))
            have U3 := Bx.mk (show Upd (fun x => x = blk) w wq from hU2.out.trans (New.upd hq))
            clear hq hC hlt2
            repeat' (first | fail | go_values | go_skip | go_guarded | go_step | go_upon | go_back)
            go_roundw
            case rel => exact ⟨i + 1, d2, by go_num, by omega, hd2, ⟨by rw [HJ2.out, ← HI.out]; exact HQ1.out⟩, HR3, U3⟩
            case measure => simp [intOf]; omega
        · have hjaI : ¬ (a : Int) < (j : Int) := by omega
          have HJ2 := Bx.mk ((insI_stopE a j d2 (.inl (by omega))).symm.trans HJ.out)
          clear HJ
          repeat' (first | fail | go_values | go_skip | go_guarded | go_step | go_upon | go_back)
          (refine wp_region_calm (by kernel_rfl) (by kernel_rfl) ?_; (repeat (go_big_quiet_step ((fail)))); refine wpQuiet_nil ?_; intro wq hq)
          have HR3 := Bx.mk (HR2.out.blk hq (fun q => q))
          have U3 := Bx.mk (show Upd (fun x => x = blk) w wq from hU2.out.trans (New.upd hq))
          clear hq
          repeat' (first | fail | go_values | go_skip | go_guarded | go_step | go_upon | go_back)
          go_roundw
          case rel => exact ⟨i + 1, d2, by go_num, by omega, hd2, ⟨by rw [HJ2.out, ← HI.out]; exact HQ1.out⟩, HR3, U3⟩
          case measure => simp [intOf]; omega
    · have hltI : ¬ (i : Int) < (b : Int) := by omega
      repeat' (first | fail | go_values | go_skip | go_guarded | go_step | go_upon | go_back)
      go_returns
      exact ⟨rfl, by rw [← HQ.out, insO_stopE a b i d1 hlt]; exact HR.out, hU.out⟩
end Go.Proofs.Ytdnkdmdmekdfkaa
