/- The reference's Box and Used: walked. -/
import Derived.Test.YtaliadekdpbfdaaRf3
namespace Go.Proofs.Ytaliadekdpbfdaa
open Go.RowKit
theorem infoIDB : (Try.prog.info? 27).map (fun i => (i.zero, i.size, i.bytes)) = some (some (.int .u32 0), 1, 4) := by kernel_rfl
theorem src_idB (w : World) (i : Nat) : Src Try.prog 1 34 (.slice (some ⟨w.heap.size, 0, none⟩) 1 1) 1 (idv [i]) (w.alloc (.cells #[.int .u32 i] 27)) :=
  (rd_new w (idv [i]) 27).src Try.underlying34 (fun h => by cases h) rfl (idv_one _)
def inBx (x0 y0 x1 y1 : Int) (s : Int × Int) : Bool := decide (x0 ≤ s.1 ∧ s.1 ≤ x1 ∧ y0 ≤ s.2 ∧ s.2 ≤ y1)
theorem crefOf_u (x : Int) (w : World) (h : -2147483648 ≤ x ∧ x ≤ 2147483647) : Calls Try.prog 10 #[.int .i32 x] w fun e w' => e = .returned (.int .i64 (cell x)) ∧ w' = w := refOf_any x w h.1 h.2
set_option maxRecDepth 20000 in
set_option maxHeartbeats 8000000 in
theorem refBox_any (v : Value) (L : List SpQ) (hv : ∀ q ∈ L, spOk q) (hl : L.length ≤ 1000) (w : World) (hS : SpL w v L) (x0 y0 x1 y1 : Int) (xs : List Nat) (hx : selL (inBx x0 y0 x1 y1) L = xs) (n : Nat) (hn : xs.length = n) :
    Calls Try.prog 23 #[v, .int .i64 x0, .int .i64 y0, .int .i64 x1, .int .i64 y1] w fun e w' => ∃ A c, e = .returned (.slice A n c) ∧ Rd w' A (idv xs) ∧ New w w' := by
  obtain ⟨A, c, rfl, hc, hA, hr⟩ := hS
  obtain ⟨m, hm⟩ : ∃ m, L.length = m := ⟨_, rfl⟩
  rw [hm] at hc hA hl ⊢
  have HM := Bx.mk hm
  have HR := Bx.mk hr
  have HO := Bx.mk hv
  have HX := Bx.mk hx
  have HN := Bx.mk hn
  obtain ⟨p, hp⟩ : ∃ p, inBx x0 y0 x1 y1 = p := ⟨_, rfl⟩
  rw [hp] at HX
  have HPP := Bx.mk hp
  clear hm hr hv hx hn hc hA hp
  go_enter Try.func23, Try.ntmps23
  repeat' (first | fail | go_values | go_skip | go_guarded | go_step | go_upon | go_back)
  go_loopw [11, 18] (fun l iv wr => ∃ (j : Nat), iv = .int .i64 j ∧ j ≤ m ∧ Bx (wr.ownsRow w.heap.size 27 1 l (selL p (L.take j)).length (idv (selL p (L.take j)))) ∧ Bx (New w wr)) (fun _ iv _ => m - (intOf iv).toNat)
  case atStart => exact ⟨0, rfl, Nat.zero_le _, ⟨World.ownsRow_nil _ _ _ _⟩, ⟨Upd.refl _ _⟩⟩
  case round =>
    obtain ⟨j, rfl, hj, HW, HU⟩ := hrel
    by_cases hlt : j < m
    · have hltI : (j : Int) < (m : Int) := by omega
      have hjL : j < L.length := by rw [HM.out]; exact hlt
      obtain ⟨b, o, rfl, e0, e1, e2⟩ := sp_at (HR.out.new HU.out) j hjL
      have hq' := HO.out L[j] (List.getElem_mem hjL)
      have hle : (selL p (L.take j)).length ≤ j := by have := sel_len p (L.take j); rw [List.length_take] at this; omega
      obtain ⟨⟨i0, u0, v0⟩, hqe⟩ : ∃ q, L[j] = q := ⟨_, rfl⟩
      rw [hqe] at e0 e1 e2 hq'
      dsimp only at e0 e1 e2
      have B0 := box_at' wr #[.int .u32 i0, .int .i32 u0, .int .i32 v0] 51 0 _ rfl
      have B1 := box_at' wr #[.int .u32 i0, .int .i32 u0, .int .i32 v0] 51 1 _ rfl
      have B2 := box_at' wr #[.int .u32 i0, .int .i32 u0, .int .i32 v0] 51 2 _ rfl
      have AL2 := (Upd.refl Nowhere wr).alloc (.cells #[.int .u32 i0, .int .i32 u0, .int .i32 v0] 51)
      have BAL := Bx.mk AL2
      have BB0 := Bx.mk B0
      obtain ⟨wB, hwB⟩ : ∃ wB, wr.alloc (.cells #[.int .u32 i0, .int .i32 u0, .int .i32 v0] 51) = wB := ⟨_, rfl⟩
      have k1 : ∀ z : After (wr.alloc (.cells #[.int .u32 i0, .int .i32 u0, .int .i32 v0] 51)), z.to.cell? ⟨wr.heap.size, 1, none⟩ = some (.int .i32 u0) := fun z => z.h.cell B1 (fun q => q)
      have k2 : ∀ z : After (wr.alloc (.cells #[.int .u32 i0, .int .i32 u0, .int .i32 v0] 51)), z.to.cell? ⟨wr.heap.size, 2, none⟩ = some (.int .i32 v0) := fun z => z.h.cell B2 (fun q => q)
      have O1 := Bx.mk (fun w => crefOf_u u0 w hq'.2.1)
      have O2 := Bx.mk (fun w => crefOf_u v0 w hq'.2.2)
      have HP : p (cellsOf L[j]) = decide (x0 ≤ cell u0 ∧ cell u0 ≤ x1 ∧ y0 ≤ cell v0 ∧ cell v0 ≤ y1) := by rw [← HPP.out, hqe]; rfl
      have HIL := Bx.mk (show L[j].1 = i0 by rw [hqe])
      obtain ⟨cx, hcx⟩ : ∃ cx, cell u0 = cx := ⟨_, rfl⟩
      obtain ⟨cy, hcy⟩ : ∃ cy, cell v0 = cy := ⟨_, rfl⟩
      rw [hcx] at O1 HP
      rw [hcy] at O2 HP
      clear hcx hcy hqe hq' hwB wB AL2
      by_cases g0 : x0 ≤ cx
      · by_cases g1 : cx ≤ x1
        · by_cases g2 : y0 ≤ cy
          · by_cases g3 : cy ≤ y1
            · have HG := Bx.mk (sel_take_go p L j hjL (by rw [HP]; simp [g0, g1, g2, g3]))
              clear HP
              repeat' (first | fail | go_values | go_skip | go_guarded | go_step | go_upon | go_back)
              (refine wp_region_calm (by kernel_rfl) (by kernel_rfl) ?_; (repeat (go_big_quiet_step ((go_at_call 10; first | with_reducible refine Calls.calm_same (O1.out _) | with_reducible refine Calls.calm_same (O2.out _))))); refine wpQuiet_nil ?_; intro wq hq)
              have hN := (HU.out.trans BAL.out).trans hq
              have hox := (own_new (own_new HW.out BAL.out) hq).alloc (.cells #[.int .u32 i0] 27)
              have hs := src_idB wq i0
              have F0 := hq.cell BB0.out (fun q => q)
              clear k1 k2
              obtain ⟨k, hk⟩ : ∃ k, (selL p (L.take j)).length = k := ⟨_, rfl⟩
              have HK := Bx.mk hk
              rw [hk] at hox hle
              clear hk HW
              repeat' (first | (at_builtin; refine wpList_appN _ rfl _ _ 34 34 rfl _ 27 (.int .u32 0) 1 4 Try.underlying34 infoIDB rfl _ _ _ hox rfl _ _ _ hs rfl _ (hN.alloc _) ?c1 ?c2 ?_; (case c1 => unfold maxLen; omega); (case c2 => omega); intro v5 w5 ho5 hu5 hk5 hv5) | go_values | go_skip | go_guarded | go_step | go_upon | go_back)
              refine ⟨⟨j + 1, by go_num, by omega, ⟨?_⟩, ⟨hu5⟩⟩, by simp [intOf]; omega⟩
              rw [HG.out, HIL.out, idv_append, List.length_append, HK.out]
              exact ho5
            · have HG := Bx.mk (sel_take_skip p L j hjL (by rw [HP]; simp [g3]))
              clear HP
              repeat' (first | fail | go_values | go_skip | go_guarded | go_step | go_upon | go_back)
              (refine wp_region_calm (by kernel_rfl) (by kernel_rfl) ?_; (repeat (go_big_quiet_step ((go_at_call 10; first | with_reducible refine Calls.calm_same (O1.out _) | with_reducible refine Calls.calm_same (O2.out _))))); refine wpQuiet_nil ?_; intro wq hq)
              have hox := own_new (own_new HW.out BAL.out) hq
              clear k1 k2
              repeat' (first | fail | go_values | go_skip | go_guarded | go_step | go_upon | go_back)
              go_roundw
              case rel => exact ⟨j + 1, by go_num, by omega, ⟨by rw [HG.out]; exact hox⟩, ⟨(HU.out.trans BAL.out).trans hq⟩⟩
              case measure => simp [intOf]; omega
          · have HG := Bx.mk (sel_take_skip p L j hjL (by rw [HP]; simp [g2]))
            clear HP
            repeat' (first | fail | go_values | go_skip | go_guarded | go_step | go_upon | go_back)
            (refine wp_region_calm (by kernel_rfl) (by kernel_rfl) ?_; (repeat (go_big_quiet_step ((go_at_call 10; first | with_reducible refine Calls.calm_same (O1.out _) | with_reducible refine Calls.calm_same (O2.out _))))); refine wpQuiet_nil ?_; intro wq hq)
            have hox := own_new (own_new HW.out BAL.out) hq
            clear k1 k2
            repeat' (first | fail | go_values | go_skip | go_guarded | go_step | go_upon | go_back)
            go_roundw
            case rel => exact ⟨j + 1, by go_num, by omega, ⟨by rw [HG.out]; exact hox⟩, ⟨(HU.out.trans BAL.out).trans hq⟩⟩
            case measure => simp [intOf]; omega
        · have HG := Bx.mk (sel_take_skip p L j hjL (by rw [HP]; simp [g1]))
          clear HP
          repeat' (first | fail | go_values | go_skip | go_guarded | go_step | go_upon | go_back)
          (refine wp_region_calm (by kernel_rfl) (by kernel_rfl) ?_; (repeat (go_big_quiet_step ((go_at_call 10; first | with_reducible refine Calls.calm_same (O1.out _) | with_reducible refine Calls.calm_same (O2.out _))))); refine wpQuiet_nil ?_; intro wq hq)
          have hox := own_new (own_new HW.out BAL.out) hq
          clear k1 k2
          repeat' (first | fail | go_values | go_skip | go_guarded | go_step | go_upon | go_back)
          go_roundw
          case rel => exact ⟨j + 1, by go_num, by omega, ⟨by rw [HG.out]; exact hox⟩, ⟨(HU.out.trans BAL.out).trans hq⟩⟩
          case measure => simp [intOf]; omega
      · have HG := Bx.mk (sel_take_skip p L j hjL (by rw [HP]; simp [g0]))
        clear HP
        repeat' (first | fail | go_values | go_skip | go_guarded | go_step | go_upon | go_back)
        (refine wp_region_calm (by kernel_rfl) (by kernel_rfl) ?_; (repeat (go_big_quiet_step ((go_at_call 10; first | with_reducible refine Calls.calm_same (O1.out _) | with_reducible refine Calls.calm_same (O2.out _))))); refine wpQuiet_nil ?_; intro wq hq)
        have hox := own_new (own_new HW.out BAL.out) hq
        clear k1 k2
        repeat' (first | fail | go_values | go_skip | go_guarded | go_step | go_upon | go_back)
        go_roundw
        case rel => exact ⟨j + 1, by go_num, by omega, ⟨by rw [HG.out]; exact hox⟩, ⟨(HU.out.trans BAL.out).trans hq⟩⟩
        case measure => simp [intOf]; omega
    · have hltI : ¬ (j : Int) < (m : Int) := by omega
      obtain rfl : j = m := by omega
      have HT := Bx.mk (show L.take j = L from List.take_of_length_le (by rw [HM.out]; exact Nat.le_refl _))
      have HW2 := HW.out
      rw [HT.out, HX.out, HN.out] at HW2
      obtain ⟨A2, c2, rfl, h3, _, h4, _⟩ := own_rd HW2
      clear HW HW2 HT
      repeat' (first | fail | go_values | go_skip | go_guarded | go_step | go_upon | go_back)
      go_returns
      exact ⟨A2, c2, rfl, h4, HU.out⟩
end Go.Proofs.Ytaliadekdpbfdaa
