/- What compares; insertionSortCmpFunc walked (printed by ssp.py). -/
import Derived.Test.YtdnkdmdmekdfkaaSsC2
import Derived.Deep.LoopGhost
namespace Go.Proofs.Ytdnkdmdmekdfkaa
open Go.RowKit Go.Sort
theorem nanC_any (x : Nat) (w : World) : Calls Try.prog 69 #[.int .u8 x] w fun e w' => e = .returned (.bool false) ∧ w' = w := by
  go_enter Try.func69, Try.ntmps69
  repeat' (first | fail | go_values | go_skip | go_guarded | go_step | go_upon | go_back)
  go_returns
  exact ⟨rfl, rfl⟩
theorem compareC_any (x y : Nat) (w : World) : Calls Try.prog 52 #[.int .u8 x, .int .u8 y] w fun e w' => e = .returned (.int .i64 (cmpN x y)) ∧ w' = w := by
  have hx := Bx.mk (fun x w => nanC_any x w)
  by_cases h1 : x < y
  · have h1I : (x : Int) < (y : Int) := by omega
    have e : cmpN x y = -1 := by unfold cmpN; rw [if_pos h1]
    rw [e]
    go_enter Try.func52, Try.ntmps52
    repeat' (first | (go_at_call 69; (with_reducible refine (hx.out _ _).mono ?_); rintro e w1 ⟨rfl, rfl⟩; dsimp only) | go_values | go_skip | go_guarded | go_step | go_upon | go_back)
    go_returns
    exact ⟨rfl, rfl⟩
  · have h1I : ¬ (x : Int) < (y : Int) := by omega
    by_cases h2 : y < x
    · have h2I : (y : Int) < (x : Int) := by omega
      have e : cmpN x y = 1 := by unfold cmpN; rw [if_neg h1, if_pos h2]
      rw [e]
      go_enter Try.func52, Try.ntmps52
      repeat' (first | (go_at_call 69; (with_reducible refine (hx.out _ _).mono ?_); rintro e w1 ⟨rfl, rfl⟩; dsimp only) | go_values | go_skip | go_guarded | go_step | go_upon | go_back)
      go_returns
      exact ⟨rfl, rfl⟩
    · have h2I : ¬ (y : Int) < (x : Int) := by omega
      have e : cmpN x y = 0 := by unfold cmpN; rw [if_neg h1, if_neg h2]
      rw [e]
      go_enter Try.func52, Try.ntmps52
      repeat' (first | (go_at_call 69; (with_reducible refine (hx.out _ _).mono ?_); rintro e w1 ⟨rfl, rfl⟩; dsimp only) | go_values | go_skip | go_guarded | go_step | go_upon | go_back)
      go_returns
      exact ⟨rfl, rfl⟩
def ltC (x y : C4) : Bool := decide (x.k < y.k)
theorem swoC : SWO ltC := Ss.swo_key (κ := fun x : C4 => x.k)
theorem cmpC_any (x y : C4) (w : World) : Calls Try.prog 51 #[.agg #[.int .u8 x.k, .int .i32 x.a, .int .i32 x.b, .int .i32 x.c], .agg #[.int .u8 y.k, .int .i32 y.a, .int .i32 y.b, .int .i32 y.c]] w fun e w' => e = .returned (.int .i64 (cmpN x.k y.k)) ∧ New w w' := by
  have HC := Bx.mk (fun w => compareC_any x.k y.k w)
  have A1 := (Upd.refl Nowhere w).alloc (.cells #[.int .u8 x.k, .int .i32 x.a, .int .i32 x.b, .int .i32 x.c] 46)
  have A2 := (Upd.refl Nowhere (w.alloc (.cells #[.int .u8 x.k, .int .i32 x.a, .int .i32 x.b, .int .i32 x.c] 46))).alloc (.cells #[.int .u8 y.k, .int .i32 y.a, .int .i32 y.b, .int .i32 y.c] 46)
  have k1 := A2.cell (boxS w #[.int .u8 x.k, .int .i32 x.a, .int .i32 x.b, .int .i32 x.c] 46 0 _ rfl) (fun q => q)
  have k2 := boxS (w.alloc (.cells #[.int .u8 x.k, .int .i32 x.a, .int .i32 x.b, .int .i32 x.c] 46)) #[.int .u8 y.k, .int .i32 y.a, .int .i32 y.b, .int .i32 y.c] 46 0 _ rfl
  rw [show (w.alloc (.cells #[.int .u8 x.k, .int .i32 x.a, .int .i32 x.b, .int .i32 x.c] 46)).heap.size = w.heap.size + 1 by simp] at k2
  have BA := Bx.mk (A1.trans A2)
  clear A1 A2
  go_enter Try.func51, Try.ntmps51
  repeat' (first | (go_at_call 52; (with_reducible refine (HC.out _).mono ?_); rintro e w1 ⟨rfl, rfl⟩; dsimp only) | go_values | go_skip | go_guarded | go_step | go_upon | go_back)
  go_returns
  exact ⟨rfl, BA.out⟩
theorem insI_goC (a j q : Nat) (d : Array C4) (hj : q + 1 = j) (h : a < j) (hl : ltC d[j]! d[q]! = true) : insInner ltC a j d = insInner ltC a q (swp d j q) := by
  subst hj
  rw [insInner, if_pos]
  simp [hl]; omega
theorem insI_stopC (a j : Nat) (d : Array C4) (h : j ≤ a ∨ ∃ q, q + 1 = j ∧ ltC d[j]! d[q]! = false) : insInner ltC a j d = d := by
  cases j with
  | zero => rfl
  | succ j =>
    rw [insInner, if_neg]
    rcases h with h | ⟨q, hq, h⟩
    · simp; omega
    · obtain rfl : q = j := by omega
      simp [h]
theorem insO_goC (a b i : Nat) (d : Array C4) (h : i < b) : insOuter ltC a b i d = insOuter ltC a b (i + 1) (insInner ltC a i d) := by rw [insOuter, if_pos h]
theorem insO_stopC (a b i : Nat) (d : Array C4) (h : ¬ i < b) : insOuter ltC a b i d = d := by rw [insOuter, if_neg h]
set_option maxRecDepth 20000 in
set_option maxHeartbeats 8000000 in
theorem insC_any {w : World} {blk S : Nat} {d : Array C4} (h : SRC blk S d w) (n c a b : Nat) (hn : d.size = n) (hab : a ≤ b) (hb : b ≤ n) (hsz : n < 1000000) :
    Calls Try.prog 78 #[.slice (some ⟨blk, 0, none⟩) n c, .int .i64 a, .int .i64 b, .func (.func 51) #[] #[]] w fun e w' => e = .returned (.tuple #[]) ∧ SRC blk S (insertionSort ltC d a b) w' ∧ Upd (fun x => x = blk) w w' := by
  have HL := Bx.mk (fun (x y : C4) w => cmpC_any x y w)
  have H0 := Bx.mk h
  have HS := Bx.mk hn
  have HF := h.fit
  rw [hn] at HF
  obtain ⟨RES, hres⟩ : ∃ RES, insertionSort ltC d a b = RES := ⟨_, rfl⟩
  rw [hres]
  have HO := Bx.mk (show insOuter ltC a b (a + 1) d = RES from hres)
  have w0' : IntKind.i64.wrap ((a : Int) + 1) = ((a + 1 : Nat) : Int) := by rw [IntKind.wrap_i64]; omega
  clear h hn hres
  go_enter Try.func78, Try.ntmps78
  repeat' (first | fail | go_values | go_skip | go_guarded | go_step | go_upon | go_back)
  go_loopw [8] (fun i wr => ∃ (j : Nat) (d' : Array C4), i = .int .i64 j ∧ a + 1 ≤ j ∧ d'.size = n ∧ Bx (insOuter ltC a b j d' = RES) ∧ Bx (SRC blk S d' wr) ∧ Bx (Upd (fun x => x = blk) w wr)) (fun i _ => b - (intOf i).toNat)
  case atStart => exact ⟨a + 1, d, rfl, Nat.le_refl _, HS.out, HO, H0, ⟨Upd.refl _ _⟩⟩
  case round =>
    obtain ⟨i, d1, rfl, hai, hd1, HQ, HR, hU⟩ := hrel
    clear w0'
    by_cases hlt : i < b
    · have hltI : (i : Int) < (b : Int) := by omega
      have wi : IntKind.i64.wrap ((i : Int) + 1) = ((i + 1 : Nat) : Int) := by rw [IntKind.wrap_i64]; omega
      have HQ1 := Bx.mk ((insO_goC a b i d1 hlt).symm.trans HQ.out)
      obtain ⟨INN, hinn⟩ : ∃ INN, insInner ltC a i d1 = INN := ⟨_, rfl⟩
      have HI := Bx.mk hinn
      clear HQ hinn
      repeat' (first | fail | go_values | go_skip | go_guarded | go_step | go_upon | go_back)
      go_loopw [9] (fun jv wr => ∃ (j : Nat) (d' : Array C4), jv = .int .i64 j ∧ j ≤ i ∧ d'.size = n ∧ Bx (insInner ltC a j d' = INN) ∧ Bx (SRC blk S d' wr) ∧ Bx (Upd (fun x => x = blk) w wr)) (fun jv _ => (intOf jv).toNat)
      case atStart => exact ⟨i, d1, rfl, Nat.le_refl _, hd1, HI, HR, hU⟩
      case round =>
        obtain ⟨j, d2, rfl, hji, hd2, HJ, HR2, hU2⟩ := hrel
        by_cases hja : a < j
        · obtain ⟨q, hqe⟩ : ∃ q, q + 1 = j := ⟨j - 1, by omega⟩
          have wqe : IntKind.i64.wrap ((j : Int) - 1) = (q : Int) := by rw [IntKind.wrap_i64]; omega
          have hjaI : (a : Int) < (j : Int) := by omega
          have hjn : (j : Int) < (n : Int) := by omega
          have hqn : (q : Int) < (n : Int) := by omega
          have hqj : q < j := by omega
          have hjm : j < n := by omega
          have hqm : q < n := by omega
          obtain ⟨x, hx⟩ : ∃ x, d2[j]! = x := ⟨_, rfl⟩
          obtain ⟨y, hy⟩ : ∃ y, d2[q]! = y := ⟨_, rfl⟩
          have gx : ∀ (z : After wr) c v, (encC x)[c]? = some v → z.to.cell? ⟨blk, j * 4 + c, none⟩ = some v := fun z => (HR2.out.blk z.h (fun q => q)).get j x (by omega) hx
          have gy : ∀ (z : After wr) c v, (encC y)[c]? = some v → z.to.cell? ⟨blk, q * 4 + c, none⟩ = some v := fun z => (HR2.out.blk z.h (fun q => q)).get q y (by omega) hy
          have ca0 : ∀ z : After wr, z.to.cell? ⟨blk, j * 4, none⟩ = some (.int .u8 x.k) := fun z => gx z 0 _ rfl
          have ca1 : ∀ z : After wr, z.to.cell? ⟨blk, j * 4 + 1, none⟩ = some (.int .i32 x.a) := fun z => gx z 1 _ rfl
          have ca2 : ∀ z : After wr, z.to.cell? ⟨blk, j * 4 + 2, none⟩ = some (.int .i32 x.b) := fun z => gx z 2 _ rfl
          have ca3 : ∀ z : After wr, z.to.cell? ⟨blk, j * 4 + 3, none⟩ = some (.int .i32 x.c) := fun z => gx z 3 _ rfl
          have cb0 : ∀ z : After wr, z.to.cell? ⟨blk, q * 4, none⟩ = some (.int .u8 y.k) := fun z => gy z 0 _ rfl
          have cb1 : ∀ z : After wr, z.to.cell? ⟨blk, q * 4 + 1, none⟩ = some (.int .i32 y.a) := fun z => gy z 1 _ rfl
          have cb2 : ∀ z : After wr, z.to.cell? ⟨blk, q * 4 + 2, none⟩ = some (.int .i32 y.b) := fun z => gy z 2 _ rfl
          have cb3 : ∀ z : After wr, z.to.cell? ⟨blk, q * 4 + 3, none⟩ = some (.int .i32 y.c) := fun z => gy z 3 _ rfl
          have hC := Bx.mk (HL.out x y)
          have hlt2 := cmpN_lt x.k y.k
          have hltx : decide (x.k < y.k) = ltC x y := rfl
          rw [hltx] at hlt2
          obtain ⟨cc, hcc⟩ : ∃ cc, cmpN x.k y.k = cc := ⟨_, rfl⟩
          rw [hcc] at hC hlt2
          clear gx gy hcc hltx
          cases hl : ltC x y with
          | true =>
            have HJ2 := Bx.mk ((insI_goC a j q d2 hqe hja (by rw [hx, hy]; exact hl)).symm.trans HJ.out)
            rw [hl] at hlt2
            have hcn : cc < 0 := of_decide_eq_true hlt2
            have HX := Bx.mk hx
            have HY := Bx.mk hy
            clear hx hy HJ hl
            repeat' (first | fail | go_values | go_skip | go_guarded | go_step | go_upon | go_back)
            (refine wp_region_calm (by kernel_rfl) (by kernel_rfl) ?_; (repeat (go_big_quiet_step ((go_at_call 51; refine Calls.calm (hC.out _))))); refine wpQuiet_nil ?_; intro wq hq)
            clear ca0 ca1 ca2 ca3
            clear cb0 cb1 cb2 cb3
            have HR3 := HR2.out.blk hq (fun q => q)
            have U3 : Upd (fun x => x = blk) w wq := hU2.out.trans (New.upd hq)
            clear hq hC hlt2 HR2 hU2
            have gx := HR3.get j x (by omega) HX.out
            have gy := HR3.get q y (by omega) HY.out
            have ca0 : wq.cell? ⟨blk, j * 4, none⟩ = some (.int .u8 x.k) := gx 0 _ rfl
            have ca1 : wq.cell? ⟨blk, j * 4 + 1, none⟩ = some (.int .i32 x.a) := gx 1 _ rfl
            have ca2 : wq.cell? ⟨blk, j * 4 + 2, none⟩ = some (.int .i32 x.b) := gx 2 _ rfl
            have ca3 : wq.cell? ⟨blk, j * 4 + 3, none⟩ = some (.int .i32 x.c) := gx 3 _ rfl
            have cb0 : wq.cell? ⟨blk, q * 4, none⟩ = some (.int .u8 y.k) := gy 0 _ rfl
            have cb1 : wq.cell? ⟨blk, q * 4 + 1, none⟩ = some (.int .i32 y.a) := gy 1 _ rfl
            have cb2 : wq.cell? ⟨blk, q * 4 + 2, none⟩ = some (.int .i32 y.b) := gy 2 _ rfl
            have cb3 : wq.cell? ⟨blk, q * 4 + 3, none⟩ = some (.int .i32 y.c) := gy 3 _ rfl
            have f0 := HR3.own.frz
            have og1 := Own1.set HR3.own (j * 4) (.int .u8 y.k)
            obtain ⟨xg1, cg1⟩ := og1.cell (j * 4 + 1) (by omega)
            have fg1 := og1.frz
            have og2 := Own1.set og1 (j * 4 + 1) (.int .i32 y.a)
            obtain ⟨xg2, cg2⟩ := og2.cell (j * 4 + 2) (by omega)
            have fg2 := og2.frz
            have og3 := Own1.set og2 (j * 4 + 2) (.int .i32 y.b)
            obtain ⟨xg3, cg3⟩ := og3.cell (j * 4 + 3) (by omega)
            have fg3 := og3.frz
            have og4 := Own1.set og3 (j * 4 + 3) (.int .i32 y.c)
            obtain ⟨xg4, cg4⟩ := og4.cell (q * 4) (by omega)
            have fg4 := og4.frz
            have og5 := Own1.set og4 (q * 4) (.int .u8 x.k)
            obtain ⟨xg5, cg5⟩ := og5.cell (q * 4 + 1) (by omega)
            have fg5 := og5.frz
            have og6 := Own1.set og5 (q * 4 + 1) (.int .i32 x.a)
            obtain ⟨xg6, cg6⟩ := og6.cell (q * 4 + 2) (by omega)
            have fg6 := og6.frz
            have og7 := Own1.set og6 (q * 4 + 2) (.int .i32 x.b)
            obtain ⟨xg7, cg7⟩ := og7.cell (q * 4 + 3) (by omega)
            have fg7 := og7.frz
            clear og7 og6 og5 og4 og3 og2 og1
            have HR4 := Bx.mk (HR3.swap j q x y (by omega) (by omega) HX.out HY.out).drew
            have U4 := Bx.mk ((((((((U3.setCell (p := ⟨blk, j * 4, none⟩) (.inl rfl) (.int .u8 y.k)).setCell (p := ⟨blk, j * 4 + 1, none⟩) (.inl rfl) (.int .i32 y.a)).setCell (p := ⟨blk, j * 4 + 2, none⟩) (.inl rfl) (.int .i32 y.b)).setCell (p := ⟨blk, j * 4 + 3, none⟩) (.inl rfl) (.int .i32 y.c)).setCell (p := ⟨blk, q * 4, none⟩) (.inl rfl) (.int .u8 x.k)).setCell (p := ⟨blk, q * 4 + 1, none⟩) (.inl rfl) (.int .i32 x.a)).setCell (p := ⟨blk, q * 4 + 2, none⟩) (.inl rfl) (.int .i32 x.b)).setCell (p := ⟨blk, q * 4 + 3, none⟩) (.inl rfl) (.int .i32 x.c)).drew
            clear gx gy HR3 U3
            repeat' (first | fail | go_values | go_skip | go_guarded | go_step | go_upon | go_back)
            go_big_region
            clear ca0 ca1 ca2 ca3
            clear cb0 cb1 cb2 cb3
            clear cg1 fg1 cg2 fg2 cg3 fg3 cg4 fg4 cg5 fg5 cg6 fg6 cg7 fg7
            generalize ((((((((wq.setCell ⟨blk, j * 4, none⟩ (.int .u8 y.k)).setCell ⟨blk, j * 4 + 1, none⟩ (.int .i32 y.a)).setCell ⟨blk, j * 4 + 2, none⟩ (.int .i32 y.b)).setCell ⟨blk, j * 4 + 3, none⟩ (.int .i32 y.c)).setCell ⟨blk, q * 4, none⟩ (.int .u8 x.k)).setCell ⟨blk, q * 4 + 1, none⟩ (.int .i32 x.a)).setCell ⟨blk, q * 4 + 2, none⟩ (.int .i32 x.b)).setCell ⟨blk, q * 4 + 3, none⟩ (.int .i32 x.c)).drew = w5 at *
            repeat' (first | fail | go_values | go_skip | go_guarded | go_step | go_upon | go_back)
            go_roundw
            case rel => exact ⟨q, swp d2 j q, rfl, by omega, by rw [swp_size]; exact hd2, HJ2, HR4, U4⟩
            case measure => simp [intOf]; omega
          | false =>
            have HJ2 := Bx.mk ((insI_stopC a j d2 (.inr ⟨q, hqe, by rw [hx, hy]; exact hl⟩)).symm.trans HJ.out)
            rw [hl] at hlt2
            have hcn : ¬ cc < 0 := of_decide_eq_false hlt2
            clear hx hy HJ hl
            repeat' (first | fail | go_values | go_skip | go_guarded | go_step | go_upon | go_back)
            (refine wp_region_calm (by kernel_rfl) (by kernel_rfl) ?_; (repeat (go_big_quiet_step ((go_at_call 51; refine Calls.calm (hC.out _))))); refine wpQuiet_nil ?_; intro wq hq)
            clear ca0 ca1 ca2 ca3
            clear cb0 cb1 cb2 cb3
            have HR3 := Bx.mk (HR2.out.blk hq (fun q => q))
            have U3 := Bx.mk (show Upd (fun x => x = blk) w wq from hU2.out.trans (New.upd hq))
            clear hq hC hlt2
            repeat' (first | fail | go_values | go_skip | go_guarded | go_step | go_upon | go_back)
            go_roundw
            case rel => exact ⟨i + 1, d2, by go_num, by omega, hd2, ⟨by rw [HJ2.out, ← HI.out]; exact HQ1.out⟩, HR3, U3⟩
            case measure => simp [intOf]; omega
        · have hjaI : ¬ (a : Int) < (j : Int) := by omega
          have HJ2 := Bx.mk ((insI_stopC a j d2 (.inl (by omega))).symm.trans HJ.out)
          clear HJ
          repeat' (first | fail | go_values | go_skip | go_guarded | go_step | go_upon | go_back)
          (refine wp_region_calm (by kernel_rfl) (by kernel_rfl) ?_; (repeat (go_big_quiet_step ((fail)))); refine wpQuiet_nil ?_; intro wq hq)
          have HR3 := Bx.mk (HR2.out.blk hq (fun q => q))
          have U3 := Bx.mk (show Upd (fun x => x = blk) w wq from hU2.out.trans (New.upd hq))
          clear hq
          repeat' (first | fail | go_values | go_skip | go_guarded | go_step | go_upon | go_back)
          go_roundw
          case rel => exact ⟨i + 1, d2, by go_num, by omega, hd2, ⟨by rw [HJ2.out, ← HI.out]; exact HQ1.out⟩, HR3, U3⟩
          case measure => simp [intOf]; omega
    · have hltI : ¬ (i : Int) < (b : Int) := by omega
      repeat' (first | fail | go_values | go_skip | go_guarded | go_step | go_upon | go_back)
      go_returns
      exact ⟨rfl, by rw [← HQ.out, insO_stopC a b i d1 hlt]; exact HR.out, hU.out⟩
end Go.Proofs.Ytdnkdmdmekdfkaa
