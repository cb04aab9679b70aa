/- insertionSortOrdered at IDs: walked. -/
import Derived.Test.YtohflgpkimnodaaSo1
import Derived.Test.YtohflgpkimnodaaCalm
import Derived.BigRegion
import Derived.Deep.LoopGhost
namespace Go.Proofs.Ytohflgpkimnodaa
open Go.RowKit Go.Sort
theorem insInner_go' (a j q : Nat) (d : Array Nat) (hj : q + 1 = j) (h : a < j) (hl : ltN d[j]! d[q]! = true) : insInner ltN a j d = insInner ltN a q (swp d j q) := by
  subst hj
  rw [insInner, if_pos]
  simp [hl]; omega
theorem insInner_stop' (a j : Nat) (d : Array Nat) (h : j ≤ a ∨ ∃ q, q + 1 = j ∧ ltN d[j]! d[q]! = false) : insInner ltN a j d = d := by
  cases j with
  | zero => rfl
  | succ j =>
    rw [insInner, if_neg]
    rcases h with h | ⟨q, hq, h⟩
    · simp; omega
    · obtain rfl : q = j := by omega
      simp [h]
theorem insOuter_go' (a b i : Nat) (d : Array Nat) (h : i < b) : insOuter ltN a b i d = insOuter ltN a b (i + 1) (insInner ltN a i d) := by rw [insOuter, if_pos h]
theorem insOuter_stop' (a b i : Nat) (d : Array Nat) (h : ¬ i < b) : insOuter ltN a b i d = d := by rw [insOuter, if_neg h]
set_option maxRecDepth 20000 in
set_option maxHeartbeats 4000000 in
theorem ins_any {w : World} {blk cap : Nat} {d : Array Nat} (h : SR blk cap d w) (hblk : blk < w.heap.size) (n c a b : Nat) (hn : d.size = n) (hab : a ≤ b) (hb : b ≤ n) (hsz : n < 4611686018427387904) :
    Calls Try.prog 43 #[.slice (some ⟨blk, 0, none⟩) n c, .int .i64 a, .int .i64 b] w fun e w' => e = .returned (.tuple #[]) ∧ SR blk cap (insertionSort ltN d a b) w' ∧ Upd (fun x => x = blk) w w' := by
  have HL := Bx.mk (fun (x y : Nat) w => Less_any x y w)
  have H0 := Bx.mk h
  have HS := Bx.mk hn
  obtain ⟨RES, hres⟩ : ∃ RES, insertionSort ltN d a b = RES := ⟨_, rfl⟩
  rw [hres]
  have HO := Bx.mk (show insOuter ltN a b (a + 1) d = RES from hres)
  have w0' : IntKind.i64.wrap ((a : Int) + 1) = ((a + 1 : Nat) : Int) := by rw [IntKind.wrap_i64]; omega
  clear h hn hres
  go_enter Try.func43, Try.ntmps43
  repeat' (first | fail | go_values | go_skip | go_guarded | go_step | go_upon | go_back)
  go_loopw [6] (fun i wr => ∃ (j : Nat) (d' : Array Nat), i = .int .i64 j ∧ a + 1 ≤ j ∧ d'.size = n ∧ Bx (insOuter ltN a b j d' = RES) ∧ Bx (SR blk cap d' wr) ∧ Upd (fun x => x = blk) w wr) (fun i _ => b - (intOf i).toNat)
  case atStart => exact ⟨a + 1, d, rfl, Nat.le_refl _, HS.out, HO, H0, Upd.refl _ _⟩
  case round =>
    obtain ⟨i, d1, rfl, hai, hd1, HQ, HR, hU⟩ := hrel
    clear w0'
    by_cases hlt : i < b
    · have hltI : (i : Int) < (b : Int) := by omega
      have HQ1 := Bx.mk ((insOuter_go' a b i d1 hlt).symm.trans HQ.out)
      obtain ⟨INN, hinn⟩ : ∃ INN, insInner ltN a i d1 = INN := ⟨_, rfl⟩
      have HI := Bx.mk hinn
      clear HQ hinn
      repeat' (first | fail | go_values | go_skip | go_guarded | go_step | go_upon | go_back)
      go_loopw [7] (fun jv wr => ∃ (j : Nat) (d' : Array Nat), jv = .int .i64 j ∧ j ≤ i ∧ d'.size = n ∧ Bx (insInner ltN a j d' = INN) ∧ Bx (SR blk cap d' wr) ∧ Upd (fun x => x = blk) w wr) (fun jv _ => (intOf jv).toNat)
      case atStart => exact ⟨i, d1, rfl, Nat.le_refl _, hd1, HI, HR, hU⟩
      case round =>
        obtain ⟨j, d2, rfl, hji, hd2, HJ, HR2, hU2⟩ := hrel
        by_cases hja : a < j
        · obtain ⟨q, hqe⟩ : ∃ q, q + 1 = j := ⟨j - 1, by omega⟩
          have wqe : IntKind.i64.wrap ((j : Int) - 1) = (q : Int) := by rw [IntKind.wrap_i64]; omega
          have hjaI : (a : Int) < (j : Int) := by omega
          have hjn : (j : Int) < (n : Int) := by omega
          have hqn : (q : Int) < (n : Int) := by omega
          have hqj : q < j := by omega
          obtain ⟨x, hx⟩ : ∃ x, d2[j]! = x := ⟨_, rfl⟩
          obtain ⟨y, hy⟩ : ∃ y, d2[q]! = y := ⟨_, rfl⟩
          have k1 : ∀ z : After wr, z.to.cell? ⟨blk, j, none⟩ = some (.int .u32 (x : Nat)) := fun z => by rw [← hx]; exact (HR2.out.blk z.h (fun q => q)).cell j (by omega)
          have k2 : ∀ z : After wr, z.to.cell? ⟨blk, q, none⟩ = some (.int .u32 (y : Nat)) := fun z => by rw [← hy]; exact (HR2.out.blk z.h (fun q => q)).cell q (by omega)
          cases hl : ltN x y with
          | true =>
            have HJ2 := Bx.mk ((insInner_go' a j q d2 hqe hja (by rw [hx, hy]; exact hl)).symm.trans HJ.out)
            have hL := fun w => hl ▸ HL.out x y w
            have HX := Bx.mk hx
            have HY := Bx.mk hy
            clear hx hy HJ hl
            repeat' (first | fail | go_values | go_skip | go_guarded | go_step | go_upon | go_back)
            (refine wp_region_calm (by kernel_rfl) (by kernel_rfl) ?_; (repeat (go_big_quiet_step ((go_at_call 49; refine Calls.calm_same (hL _))))); refine wpQuiet_nil ?_; intro wq hq)
            repeat' (first | fail | go_values | go_skip | go_guarded | go_step | go_upon | go_back)
            have HR3 := HR2.out.blk hq (fun q => q)
            have U3 : Upd (fun x => x = blk) w wq := hU2.trans (New.upd hq)
            have c1 : wq.cell? ⟨blk, j, none⟩ = some (.int .u32 (x : Nat)) := by rw [← HX.out]; exact HR3.cell j (by omega)
            have c2 : wq.cell? ⟨blk, q, none⟩ = some (.int .u32 (y : Nat)) := by rw [← HY.out]; exact HR3.cell q (by omega)
            have f1 := HR3.frz j
            have f2 := HR3.frz q
            have HR4 := Bx.mk (HR3.swap j q x y (by omega) (by omega) HX.out HY.out)
            have U4 := Bx.mk ((U3.setCell (p := ⟨blk, j, none⟩) (.inl rfl) (.int .u32 (y : Nat))).setCell (p := ⟨blk, q, none⟩) (.inl rfl) (.int .u32 (x : Nat)))
            have c3 : (wq.setCell ⟨blk, j, none⟩ (.int .u32 (y : Nat))).cell? ⟨blk, q, none⟩ = some (.int .u32 (y : Nat)) := by
              have := (HR3.set j y (by omega)).cell q (by simpa using (show q < d2.size by omega))
              rw [this, ← HY.out]
              simp [Array.getElem!_eq_getD, Array.getD, show q < d2.size by omega, Array.getElem_setIfInBounds, show ¬ j = q by omega]
            have f3 : ∀ o, (wq.setCell ⟨blk, j, none⟩ (.int .u32 (y : Nat))).frozen? ⟨blk, o, none⟩ = false := (HR3.set j y (by omega)).frz
            clear HR3 hq k1 k2 hL U3
            go_big_region
            have HR5 := Bx.mk HR4.out.drew
            have U5 := Bx.mk U4.out.drew
            clear HR4 U4 c1 c2 c3 f1 f2 f3
            generalize ((wq.setCell ⟨blk, j, none⟩ (.int .u32 (y : Nat))).setCell ⟨blk, q, none⟩ (.int .u32 (x : Nat))).drew = w5 at *
            repeat' (first | fail | go_values | go_skip | go_guarded | go_step | go_upon | go_back)
            go_roundw
            case rel => exact ⟨q, swp d2 j q, rfl, by omega, by rw [size_swp']; exact hd2, HJ2, HR5, U5.out⟩
            case measure => simp [intOf]; omega
          | false =>
            have HJ2 := Bx.mk ((insInner_stop' a j d2 (.inr ⟨q, hqe, by rw [hx, hy]; exact hl⟩)).symm.trans HJ.out)
            have hL := fun w => hl ▸ HL.out x y w
            clear hx hy HJ hl
            repeat' (first | fail | go_values | go_skip | go_guarded | go_step | go_upon | go_back)
            (refine wp_region_calm (by kernel_rfl) (by kernel_rfl) ?_; (repeat (go_big_quiet_step ((go_at_call 49; refine Calls.calm_same (hL _))))); refine wpQuiet_nil ?_; intro wq hq)
            have HR3 := Bx.mk (HR2.out.blk hq (fun q => q))
            have U3 : Upd (fun x => x = blk) w wq := hU2.trans (New.upd hq)
            clear k1 k2 hL
            repeat' (first | fail | go_values | go_skip | go_guarded | go_step | go_upon | go_back)
            go_roundw
            case rel => exact ⟨i + 1, d2, by go_num, by omega, hd2, ⟨by rw [HJ2.out, ← HI.out]; exact HQ1.out⟩, HR3, U3⟩
            case measure => simp [intOf]; omega
        · have hjaI : ¬ (a : Int) < (j : Int) := by omega
          have HJ2 := Bx.mk ((insInner_stop' a j d2 (.inl (by omega))).symm.trans HJ.out)
          clear HJ
          repeat' (first | fail | go_values | go_skip | go_guarded | go_step | go_upon | go_back)
          (refine wp_region_calm (by kernel_rfl) (by kernel_rfl) ?_; (repeat (go_big_quiet_step ((fail)))); refine wpQuiet_nil ?_; intro wq hq)
          have HR3 := Bx.mk (HR2.out.blk hq (fun q => q))
          have U3 : Upd (fun x => x = blk) w wq := hU2.trans (New.upd hq)
          repeat' (first | fail | go_values | go_skip | go_guarded | go_step | go_upon | go_back)
          go_roundw
          case rel => exact ⟨i + 1, d2, by go_num, by omega, hd2, ⟨by rw [HJ2.out, ← HI.out]; exact HQ1.out⟩, HR3, U3⟩
          case measure => simp [intOf]; omega
    · have hltI : ¬ (i : Int) < (b : Int) := by omega
      repeat' (first | fail | go_values | go_skip | go_guarded | go_step | go_upon | go_back)
      go_returns
      exact ⟨rfl, by rw [← HQ.out, insOuter_stop' a b i d1 hlt]; exact HR.out, hU⟩
end Go.Proofs.Ytohflgpkimnodaa
