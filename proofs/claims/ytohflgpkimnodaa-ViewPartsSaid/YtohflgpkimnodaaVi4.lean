/- view.Cells, and the reference's: walked. -/
import Derived.Test.YtohflgpkimnodaaVi3
namespace Go.Proofs.Ytohflgpkimnodaa
open Go.RowKit

def pvs (L : List (Int × Int)) : List Value := L.flatMap fun p => [Value.int .i64 p.1, Value.int .i64 p.2]
theorem pvs_append (a b : List (Int × Int)) : pvs (a ++ b) = pvs a ++ pvs b := by simp [pvs]
theorem pvs_one (x y : Int) : pvs [(x, y)] = [Value.int .i64 x, Value.int .i64 y] := rfl
theorem pvs_length (a : List (Int × Int)) : (pvs a).length = a.length * 2 := by
  induction a with
  | nil => rfl
  | cons p a ih => simp only [pvs, List.flatMap_cons, List.length_append, List.length_cons, List.length_nil] at *; rw [ih]; omega
theorem infop : (Try.prog.info? 31).map (fun i => (i.zero, i.size, i.bytes)) = some (some (.agg #[.int .i64 0, .int .i64 0]), 2, 16) := by kernel_rfl
theorem src_pair (w : World) (x y : Int) : Src Try.prog 2 25 (.slice (some ⟨w.heap.size, 0, none⟩) 1 1) 1 [.int .i64 x, .int .i64 y] (w.alloc (.cells #[.int .i64 x, .int .i64 y] 31)) :=
  (rd_new w [.int .i64 x, .int .i64 y] 31).src Try.underlying25 (fun h => by cases h) rfl (by simp [Value.oneCell'])

theorem cells_step (x0 : Int) (ys : List Int) (i : Nat) (y0 : Int) (j : Nat) : pvs (Vi.cols (Vi.iR x0 i) ys ++ Vi.col (x0 + i) (Vi.iR y0 j)) ++ [Value.int .i64 (x0 + i), Value.int .i64 (y0 + j)] = pvs (Vi.cols (Vi.iR x0 i) ys ++ Vi.col (x0 + i) (Vi.iR y0 (j + 1))) := by
  rw [← pvs_one, ← pvs_append, Vi.iR_succ, Vi.col_snoc, List.append_assoc]
theorem cells_row (x0 : Int) (ys : List Int) (i : Nat) : Vi.cols (Vi.iR x0 i) ys ++ Vi.col (x0 + i) ys = Vi.cols (Vi.iR x0 (i + 1)) ys := by
  rw [Vi.iR_succ, Vi.cols_snoc]
theorem col_nil (x : Int) : Vi.col x (Vi.iR 0 0) = [] := rfl

set_option maxHeartbeats 800000 in
theorem Cells_any (g : Vi.Reg) (w : World) :
    Calls Try.prog 9 #[regV g] w (RetRow 31 2 (Vi.cells g).length (pvs (Vi.cells g)) w) := by
  have hd : New w (w.alloc (.cells #[.bool g.on, .int .i64 g.cx, .int .i64 g.cy, .int .i64 g.r] 23)) := (Upd.refl _ _).alloc _
  have hc := open_any g
  by_cases ho : Vi.opened g = true
  · obtain ⟨h1, h2⟩ : g.on = true ∧ Vi.ok g = true := by unfold Vi.opened at ho; simpa using ho
    have hb := fun w => vbox_any g w h2
    obtain ⟨⟨a1, a2⟩, ⟨b1, b2⟩, r1, r2⟩ := ok_bounds h2
    obtain ⟨nx, hnx, hx1, hx2, hx3⟩ : ∃ nx : Nat, Vi.wide g.cx g.r = nx ∧ Vi.keep (g.cx + g.r) = Vi.keep (g.cx - g.r) + nx - 1 ∧ -32 ≤ Vi.keep (g.cx - g.r) ∧ nx ≤ 64 := ⟨_, rfl, by unfold Vi.wide Vi.keep; omega, by unfold Vi.keep; omega, by unfold Vi.wide Vi.keep; omega⟩
    obtain ⟨ny, hny, hy1, hy2, hy3⟩ : ∃ ny : Nat, Vi.wide g.cy g.r = ny ∧ Vi.keep (g.cy + g.r) = Vi.keep (g.cy - g.r) + ny - 1 ∧ -32 ≤ Vi.keep (g.cy - g.r) ∧ ny ≤ 64 := ⟨_, rfl, by unfold Vi.wide Vi.keep; omega, by unfold Vi.keep; omega, by unfold Vi.wide Vi.keep; omega⟩
    have hx4 : Vi.keep (g.cx - g.r) ≤ 31 := by unfold Vi.keep; omega
    have hy4 : Vi.keep (g.cy - g.r) ≤ 31 := by unfold Vi.keep; omega
    have e : Vi.cells g = Vi.cols (Vi.iR (Vi.keep (g.cx - g.r)) nx) (Vi.iR (Vi.keep (g.cy - g.r)) ny) := by unfold Vi.cells; rw [if_pos ho, hnx, hny]
    rw [ho] at hc
    rw [e]
    rw [hx1, hy1] at hb
    clear e ho h2 a1 a2 b1 b2 r1 r2 hnx hny hx1 hy1
    generalize Vi.keep (g.cx - g.r) = x0 at *
    generalize Vi.keep (g.cy - g.r) = y0 at *
    unfold regV at *
    obtain ⟨on, cx, cy, r⟩ := g
    dsimp only at *
    subst h1
    have hr4 := (rd_new w [.bool true, .int .i64 cx, .int .i64 cy, .int .i64 r] 23)
    go_enter Try.func9, Try.ntmps9
    go_wp2_with (first | ((go_at_call 23; (with_reducible refine (hc _).mono ?_); rintro e w2 ⟨rfl, hu2⟩; dsimp only); obtain ⟨D0, D1, D2, D3⟩ := four_cells (hr4.new hu2)) | (go_at_call 24; (with_reducible refine (hb _).mono ?_); rintro e w3 ⟨rfl, hu3⟩; dsimp only))
    have hu := (hd.trans hu2).trans hu3
    clear hu2 hu3 hd D0 D1 D2 D3 hr4 hc hb
    go_loopw [3, 8] (fun l x wr => ∃ i : Nat, i ≤ nx ∧ x = .int .i64 (x0 + i) ∧ New w wr ∧ wr.ownsRow w.heap.size 31 2 l (i * ny) (pvs (Vi.cols (Vi.iR x0 i) (Vi.iR y0 ny)))) (fun _ x _ => (x0 + nx - intOf x).toNat)
    case atStart => exact ⟨0, Nat.zero_le _, by go_num, hu, by rw [Nat.zero_mul]; exact World.ownsRow_nil _ _ _ _⟩
    case round =>
      clear hu
      obtain ⟨i, hi, rfl, hu, ho⟩ := hrel
      by_cases hlt : i < nx
      · go_wp2
        rw [show decide (x0 + (i : Int) ≤ x0 + (nx : Int) - 1) = true from decide_eq_true (by omega)]
        obtain ⟨wo, hwo⟩ : ∃ wo : World, wo = wr := ⟨_, rfl⟩
        have HR := Bx.mk (cells_row x0 (Vi.iR y0 ny) i)
        go_loopw [3, 9] (fun l y wr => ∃ j : Nat, j ≤ ny ∧ y = .int .i64 (y0 + j) ∧ New w wr ∧ wr.ownsRow w.heap.size 31 2 l (i * ny + j) (pvs (Vi.cols (Vi.iR x0 i) (Vi.iR y0 ny) ++ Vi.col (x0 + i) (Vi.iR y0 j)))) (fun _ y _ => (y0 + ny - intOf y).toNat)
        case atStart => exact ⟨0, Nat.zero_le _, by go_num, hu, by
          rw [show Vi.col (x0 + i) (Vi.iR y0 0) = [] from rfl, List.append_nil]; exact ho⟩
        case round =>
          clear hu ho hwo
          obtain ⟨j, hj, rfl, hu1, ho1⟩ := hrel
          by_cases hltj : j < ny
          · have ho2 := own_new ho1 ((Upd.refl _ wr).alloc (.cells #[.int .i64 (x0 + i), .int .i64 (y0 + j)] 31))
            have hs := src_pair wr (x0 + i) (y0 + j)
            have hm : i * ny ≤ 4096 := Nat.le_trans (Nat.mul_le_mul (show i ≤ 64 by omega) hy3) (by decide)
            have HS := Bx.mk (cells_step x0 (Vi.iR y0 ny) i y0 j)
            generalize i * ny = M at hm ho1 ho2
            go_wp2_with (at_builtin; refine wpList_appN _ rfl _ _ 25 25 rfl _ 31 (.agg #[.int .i64 0, .int .i64 0]) 2 16 Try.underlying25 infop rfl _ _ _ ho2 rfl _ _ _ hs rfl _ (hu1.alloc _) ?c1 ?c2 ?_; (case c1 => unfold maxLen; omega); (case c2 => omega); intro v1 w1 ho3 hu3 hk3 hv3)
            go_roundw
            case rel => exact ⟨j + 1, by omega, by go_num, hu3, by rw [← HS.out]; exact ho3⟩
            case measure => simp [intOf]; omega
          · obtain rfl : j = ny := by omega
            go_wp2
            go_roundw
            case rel => exact ⟨i + 1, by omega, by go_num, hu1, by rw [← HR.out, Nat.succ_mul]; exact ho1⟩
            case measure => simp [intOf]; omega
      · obtain rfl : i = nx := by omega
        go_wp2
        go_ret
        exact ⟨_, rfl, by rw [Vi.cols_length, Vi.iR_length, Vi.iR_length]; exact ho, hu⟩
  · have e : Vi.cells g = [] := if_neg ho
    rw [e]
    rw [Bool.not_eq_true] at ho
    rw [ho] at hc
    clear e ho
    unfold regV at *
    obtain ⟨on, cx, cy, r⟩ := g
    dsimp only at *
    go_enter Try.func9, Try.ntmps9
    go_wp2_with (first | (go_at_call 23; (with_reducible refine (hc _).mono ?_); rintro e w2 ⟨rfl, hu2⟩; dsimp only))
    go_ret
    exact ⟨_, rfl, World.ownsRow_nil _ _ _ _, hd.trans hu2⟩

theorem colF_step (g : Vi.Reg) (x y0 : Int) (j : Nat) : Vi.colF g x (Vi.iR y0 (j + 1)) = Vi.colF g x (Vi.iR y0 j) ++ if Vi.has g x (y0 + j) then [(x, y0 + (j : Int))] else [] := by
  rw [Vi.iR_succ]
  simp only [Vi.colF, Vi.col, List.filter_append, List.map_append]
  congr 1
  simp only [List.filter_cons, List.filter_nil]
  split <;> rfl
theorem colF_length (g : Vi.Reg) (x y0 : Int) (j : Nat) : (Vi.colF g x (Vi.iR y0 j)).length ≤ j := by
  rw [Vi.colF, Vi.col_length]
  exact Nat.le_trans (List.length_filter_le _ _) (by rw [Vi.iR_length]; exact Nat.le_refl _)
def colsF (g : Vi.Reg) (i : Nat) : List (Int × Int) := (Vi.iR (-32) i).flatMap fun x => Vi.colF g x (Vi.iR (-32) 64)
theorem colsF_step (g : Vi.Reg) (i : Nat) : colsF g (i + 1) = colsF g i ++ Vi.colF g (-32 + i) (Vi.iR (-32) 64) := by
  rw [colsF, Vi.iR_succ (-32) i, List.flatMap_append, colsF]; simp only [List.flatMap_cons, List.flatMap_nil, List.append_nil]
theorem colsF_length (g : Vi.Reg) (i : Nat) : (colsF g i).length ≤ i * 64 := by
  induction i with
  | zero => simp [colsF, Vi.iR]
  | succ i ih => rw [colsF_step, List.length_append, Nat.succ_mul]; have := colF_length g (-32 + i) (-32) 64; omega
theorem colsF_all (g : Vi.Reg) : colsF g 64 = Vi.cells g := Vi.cells_ref g

set_option maxHeartbeats 800000 in
theorem refCells_any (g : Vi.Reg) (w : World) :
    Calls Try.prog 10 #[regV g] w (RetRow 31 2 (Vi.cells g).length (pvs (Vi.cells g)) w) := by
  have hd : New w (w.alloc (.cells #[.bool g.on, .int .i64 g.cx, .int .i64 g.cy, .int .i64 g.r] 23)) := (Upd.refl _ _).alloc _
  have hr4 := (rd_new w [.bool g.on, .int .i64 g.cx, .int .i64 g.cy, .int .i64 g.r] 23)
  have hc : ∀ x y w, Small x → Small y → Calls Try.prog 25 #[regV g, .int .i64 x, .int .i64 y] w fun e w' => e = .returned (.bool (Vi.has g x y)) ∧ New w w' := fun x y w => Has_any g x y w
  rw [← colsF_all]
  have HL := Bx.mk (colsF_length g)
  have HS := Bx.mk (colsF_step g)
  have HJ := Bx.mk (colF_length g)
  have HC := Bx.mk (colF_step g)
  have H0 := Bx.mk (show ∀ x, Vi.colF g x (Vi.iR (-32) 0) = [] from fun _ => rfl)
  have HZ := Bx.mk (show colsF g 0 = [] from rfl)
  generalize colsF g = F at *
  generalize Vi.colF g = G at *
  generalize Vi.has g = h at *
  unfold regV at *
  obtain ⟨on, cx, cy, r⟩ := g
  dsimp only at *
  go_enter Try.func10, Try.ntmps10
  go_wp2
  generalize w.alloc (.cells #[.bool on, .int .i64 cx, .int .i64 cy, .int .i64 r] 23) = wA at *
  go_loopw [3, 4] (fun l x wr => ∃ i : Nat, i ≤ 64 ∧ x = .int .i64 (-32 + i) ∧ New wA wr ∧ wr.ownsRow wA.heap.size 31 2 l (F i).length (pvs (F i))) (fun _ x _ => (32 - intOf x).toNat)
  case atStart => exact ⟨0, Nat.zero_le _, by go_num, .refl _ _, by rw [HZ.out]; exact World.ownsRow_nil _ _ _ _⟩
  case round =>
    obtain ⟨i, hi, rfl, hu, ho⟩ := hrel
    by_cases hlt : i < 64
    · go_wp2
      rw [show decide (-32 + (i : Int) ≤ 31) = true from decide_eq_true (by omega)]
      obtain ⟨wo, hwo⟩ : ∃ wo : World, wo = wr := ⟨_, rfl⟩
      go_loopw [3, 5] (fun l y wr => ∃ j : Nat, j ≤ 64 ∧ y = .int .i64 (-32 + j) ∧ New wA wr ∧ wr.ownsRow wA.heap.size 31 2 l ((F i).length + (G (-32 + i) (Vi.iR (-32) j)).length) (pvs (F i ++ G (-32 + i) (Vi.iR (-32) j)))) (fun _ y _ => (32 - intOf y).toNat)
      case atStart => exact ⟨0, Nat.zero_le _, by go_num, hu, by rw [H0.out, List.append_nil]; exact ho⟩
      case round =>
        clear hu ho hwo
        obtain ⟨j, hj, rfl, hu1, ho1⟩ := hrel
        by_cases hltj : j < 64
        · have hx1 : Small (-32 + (i : Int)) := by unfold Small; omega
          have hy1 : Small (-32 + (j : Int)) := by unfold Small; omega
          have hca := fun w => hc (-32 + (i : Int)) (-32 + (j : Int)) w hx1 hy1
          have HCa := Bx.mk (HC.out (-32 + (i : Int)) (-32) j)
          have hl : (F i).length ≤ 4096 := Nat.le_trans (HL.out i) (by omega)
          have hk : (G (-32 + i) (Vi.iR (-32) j)).length ≤ 64 := Nat.le_trans (HJ.out _ _ _) (by omega)
          clear hx1 hy1
          generalize h (-32 + (i : Int)) (-32 + (j : Int)) = b at *
          obtain ⟨D0, D1, D2, D3⟩ := four_cells (hr4.new hu1)
          cases b
          · rw [if_neg (by decide), List.append_nil] at HCa
            go_wp2_with (first | (go_at_call 25; (with_reducible refine (hca _).mono ?_); rintro e w2 ⟨rfl, hu2⟩; dsimp only))
            go_roundw
            case rel => exact ⟨j + 1, by omega, by go_num, hu1.trans hu2, by rw [HCa.out]; exact own_new ho1 hu2⟩
            case measure => simp [intOf]; omega
          · rw [if_pos rfl] at HCa
            have hd1 := hd
            generalize hN : (F i).length + (G (-32 + i) (Vi.iR (-32) j)).length = N at ho1
            have hN1 : N ≤ 4160 := by omega
            have HN := Bx.mk hN
            clear hN hl hk
            go_wp2_with (first | (at_builtin; refine wpList_appN _ rfl _ _ 25 25 rfl _ 31 (.agg #[.int .i64 0, .int .i64 0]) 2 16 Try.underlying25 infop rfl _ _ _ ho2 rfl _ _ _ hs rfl _ ((hu1.trans hu2).alloc _) ?c1 ?c2 ?_; (case c1 => unfold maxLen; omega); (case c2 => omega); intro v1 w1 ho3 hu3 hk3 hv3) | ((go_at_call 25; (with_reducible refine (hca _).mono ?_); rintro e w2 ⟨rfl, hu2⟩; dsimp only); have ho2 := own_new (own_new ho1 hu2) ((Upd.refl _ w2).alloc (.cells #[.int .i64 (-32 + i), .int .i64 (-32 + j)] 31)); have hs := src_pair w2 (-32 + i) (-32 + j)))
            go_roundw
            case rel => exact ⟨j + 1, by omega, by go_num, hu3, by
              rw [HCa.out, List.length_append, ← Nat.add_assoc, HN.out, ← List.append_assoc, pvs_append _ [_], pvs_one]; exact ho3⟩
            case measure => simp [intOf]; omega
        · obtain rfl : j = 64 := by omega
          go_wp2
          go_roundw
          case rel => exact ⟨i + 1, by omega, by go_num, hu1, by rw [HS.out, List.length_append]; exact ho1⟩
          case measure => simp [intOf]; omega
    · obtain rfl : i = 64 := by omega
      go_wp2
      go_ret
      exact ⟨_, rfl, own_lower ho hd.size, hd.trans hu⟩
end Go.Proofs.Ytohflgpkimnodaa
