/- Whether it is a component: the walk of Check. -/
import Derived.Test.YtdnkdmdmekdfkaaSc2
namespace Go.Proofs.Ytdnkdmdmekdfkaa
open Go.RowKit

set_option maxRecDepth 20000 in
theorem field_fields (s : ByteArray) (b : Bool) (A : Option Addr) (n c : Nat) (w : World) : (Instr.field 105 (.agg #[.string s, .bool b, .slice A n c]) 2).run Try.prog w = .ok (.slice A n c) w := by first | rfl | simp [Instr.field, go_sem]
set_option maxRecDepth 20000 in
theorem field_told (s : ByteArray) (b : Bool) (A : Option Addr) (n c : Nat) (w : World) : (Instr.field 105 (.agg #[.string s, .bool b, .slice A n c]) 1).run Try.prog w = .ok (.bool b) w := by first | rfl | simp [Instr.field, go_sem]
set_option maxRecDepth 20000 in
theorem field_name (s : ByteArray) (b : Bool) (A : Option Addr) (n c : Nat) (w : World) : (Instr.field 105 (.agg #[.string s, .bool b, .slice A n c]) 0).run Try.prog w = .ok (.string s) w := by first | rfl | simp [Instr.field, go_sem]
/-- out of a field's range -/
def outOf (p : Fld × Int) : Bool := decide (p.2 < p.1.lo) || decide (p.1.hi < p.2)
def chk (k : Nat) (F : List Int) : Int :=
  if (flds k).length = 0 then 1 else if (F.drop (flds k).length).any (fun x => decide (x ≠ 0)) then 4 else if ((flds k).zip F).any outOf then 5 else 0
theorem flds_len (k : Nat) : (flds k).length ≤ 3 := by
  rcases six k with rfl | rfl | rfl | rfl | rfl | rfl | h6
  all_goals first | decide | (rw [flds_big k h6]; decide)
theorem fcells_get (L : List Fld) (i : Nat) (h : i < L.length) : (fcells L)[i * 3]? = some (.string L[i].s) ∧ (fcells L)[i * 3 + 1]? = some (.int .i32 L[i].lo) ∧ (fcells L)[i * 3 + 2]? = some (.int .i32 L[i].hi) := by
  induction L generalizing i with
  | nil => exact absurd h (Nat.not_lt_zero _)
  | cons q L ih =>
    cases i with
    | zero => exact ⟨rfl, rfl, rfl⟩
    | succ i =>
      obtain ⟨h1, h2, h3⟩ := ih i (by simpa using h)
      rw [show (i + 1) * 3 = i * 3 + 3 by omega, show i * 3 + 3 + 1 = (i * 3 + 1) + 3 by omega, show i * 3 + 3 + 2 = (i * 3 + 2) + 3 by omega]
      exact ⟨h1, h2, h3⟩
theorem Rd.three {w : World} {A : Option Addr} {L : List Fld} (h : Rd w A (fcells L)) (i : Nat) (hi : i < L.length) : ∃ b off, A = some ⟨b, off, none⟩ ∧ w.cell? ⟨b, off + i * 3, none⟩ = some (.string L[i].s) ∧ w.cell? ⟨b, off + i * 3 + 1, none⟩ = some (.int .i32 L[i].lo) ∧ w.cell? ⟨b, off + i * 3 + 2, none⟩ = some (.int .i32 L[i].hi) := by
  obtain ⟨g0, g1, g2⟩ := fcells_get L i hi
  rcases h with h | ⟨b, off, h, hc⟩
  · rw [h] at g0; cases g0
  · exact ⟨b, off, h, hc _ _ g0, hc _ _ g1, hc _ _ g2⟩
theorem zip_any_take (L : List Fld) (F : List Int) (j : Nat) (h : j < L.length) (h' : j < F.length) : ((L.zip F).take (j + 1)).any outOf = (((L.zip F).take j).any outOf || outOf (L[j], F[j])) := by
  rw [List.take_succ_eq_append_getElem (by simp; omega), List.any_append]; simp
theorem zip_any_of (L : List Fld) (F : List Int) (j : Nat) (h : j < L.length) (h' : j < F.length) (ho : outOf (L[j], F[j]) = true) : (L.zip F).any outOf = true := by
  refine List.any_eq_true.2 ⟨(L[j], F[j]), ?_, ho⟩
  have : (L.zip F)[j]'(by simp; omega) = (L[j], F[j]) := by simp
  rw [← this]; exact List.getElem_mem _

/-- a component as it lies in memory -/
def compC (k : Nat) (a b c : Int) : Array Value := #[.int .u8 k, .int .i32 a, .int .i32 b, .int .i32 c]

set_option maxRecDepth 4000 in
set_option maxHeartbeats 4000000 in
theorem Check_any (k : Nat) (a b c : Int) (w : World) (hk : k < 256) :
    Calls Try.prog 76 #[.agg #[.int .u8 k, .int .i32 a, .int .i32 b, .int .i32 c]] w fun e w' => e = .returned (.int .i64 (chk k [a, b, c])) ∧ New w w' := by
  have hB : ∀ j, j < 3 → (w.alloc (.cells #[.int .u8 k, .int .i32 a, .int .i32 b, .int .i32 c] 46)).cell? ⟨w.heap.size, 1 + j, none⟩ = some (.int .i32 ([a, b, c].getD j 0)) := by
    intro j hj
    rw [World.cell?, heap_alloc_new]
    have : j = 0 ∨ j = 1 ∨ j = 2 := by omega
    rcases this with rfl | rfl | rfl <;> rfl
  have HB := Bx.mk hB
  clear hB
  have hlen := flds_len k
  have h3 : (flds k).length = 0 ∨ (flds k).length = 1 ∨ (flds k).length = 2 ∨ (flds k).length = 3 := by omega
  have HC := Bx.mk (show chk k [a, b, c] = if (flds k).length = 0 then 1 else if ([a, b, c].drop (flds k).length).any (fun x => decide (x ≠ 0)) then 4 else if ((flds k).zip [a, b, c]).any outOf then 5 else 0 from rfl)
  have HO := Bx.mk (fun w => of_any k w hk)
  have hff := field_fields
  generalize flds k = fs at *
  rcases h3 with h | h | h | h
  · rw [HC.out, if_pos h]
    go_enter Try.func76, Try.ntmps76
    repeat' (first | (go_at_call 77; (with_reducible refine (HO.out _).mono ?_); rintro e w1 ⟨A, rfl, hr, hu⟩; rw [h]; dsimp only) | go_values | go_skip | go_guarded | go_step | go_upon | go_back)
    go_ret
    exact ⟨rfl, ((Upd.refl _ w).alloc _).trans hu⟩
  · -- 1 of three
    have HK := Bx.mk (show chk k [a, b, c] = if ([b, c] : List Int).any (fun x => decide (x ≠ 0)) then 4 else if (fs.zip [a, b, c]).any outOf then 5 else 0 by rw [HC.out, h, if_neg (by decide)]; rfl)
    have HH := Bx.mk h
    clear HC
    go_enter Try.func76, Try.ntmps76
    repeat' (first | (go_at_call 77; (with_reducible refine (HO.out _).mono ?_); rintro e w1 ⟨A, rfl, hr, hu⟩; rw [h]; dsimp only) | go_values | go_skip | go_guarded | go_step | go_upon | go_back)
    clear h hlen HO hff
    have hBw : ∀ j, j < 3 → w1.cell? ⟨w.heap.size, 1 + j, none⟩ = some (.int .i32 ([a, b, c].getD j 0)) := fun j hj => hu.cell (HB.out j hj) (fun q => q)
    have HBw := Bx.mk hBw
    clear hBw
    have hN1 : New w w1 := ((Upd.refl _ w).alloc _).trans hu
    go_loop [5, 20] (fun _ i => ∃ j : Nat, j ≤ 2 ∧ i = .int .i64 j ∧ Bx ((([b, c] : List Int).take j).any (fun x => decide (x ≠ 0)) = false)) (fun _ i => 2 - (intOf i).toNat)
    case atStart => exact ⟨0, by omega, rfl, ⟨rfl⟩⟩
    case round =>
      obtain ⟨j, hj, rfl, HJ⟩ := hrel
      by_cases hlt : j < 2
      · have hcell := HBw.out (1 + j) (by omega)
        rw [← Nat.add_assoc, show [a, b, c].getD (1 + j) 0 = ([b, c] : List Int).getD j 0 by
          have : j = 0 ∨ j = 1 := by omega
          rcases this with rfl | rfl <;> first | rfl | omega] at hcell
        have HT := Bx.mk (show (([b, c] : List Int).take (j + 1)).any (fun x => decide (x ≠ 0)) = ((([b, c] : List Int).take j).any (fun x => decide (x ≠ 0)) || decide (([b, c] : List Int).getD j 0 ≠ 0)) by
          have : j = 0 ∨ j = 1 := by omega
          rcases this with rfl | rfl <;> first | (simp; done) | omega)
        have HA := Bx.mk (show ([b, c] : List Int).getD j 0 ≠ 0 → ([b, c] : List Int).any (fun x => decide (x ≠ 0)) = true by
          have : j = 0 ∨ j = 1 := by omega
          intro hne
          rcases this with rfl | rfl <;> first | omega | (simp at hne ⊢; simp [hne]; done))
        generalize ([b, c] : List Int).getD j 0 = y at *
        have hjM : (j : Int) < 2 := by omega
        by_cases hy : y = 0
        · repeat' (first | fail | go_values | go_skip | go_guarded | go_step | go_upon | go_back)
          go_round
          case rel => exact ⟨j + 1, by omega, by go_num, ⟨by rw [HT.out, HJ.out, hy]; rfl⟩⟩
          case measure => simp [intOf]; omega
        · have HE := Bx.mk (show chk k [a, b, c] = 4 by rw [HK.out, if_pos (HA.out hy)])
          repeat' (first | fail | go_values | go_skip | go_guarded | go_step | go_upon | go_back)
          go_ret
          exact ⟨by rw [HE.out]; rfl, hN1⟩
      · obtain rfl : j = 2 := by omega
        have HK2 := Bx.mk (show chk k [a, b, c] = if (fs.zip [a, b, c]).any outOf then 5 else 0 by
          have h1 := HJ.out
          rw [show ([b, c] : List Int).take 2 = [b, c] from rfl] at h1
          rw [HK.out, h1]; rfl)
        clear HK HJ hlt hj
        repeat' (first | fail | go_values | go_skip | go_guarded | go_step | go_upon | go_back)
        go_loopw [29] (fun i wr => ∃ j : Nat, j ≤ 1 ∧ i = .int .i64 j ∧ New w1 wr ∧ Bx (((fs.zip [a, b, c]).take j).any outOf = false)) (fun i _ => 1 - (intOf i).toNat)
        case atStart => exact ⟨0, by omega, rfl, Upd.refl _ _, ⟨rfl⟩⟩
        case round =>
          obtain ⟨j, hj, rfl, hN, HJ⟩ := hrel
          by_cases hlt : j < 1
          · have hjf : j < fs.length := by rw [HH.out]; exact hlt
            obtain ⟨b0, off, rfl, hs0, hs1, hs2⟩ := (hr.new hN).three j hjf
            have hx0 := hN.cell (HBw.out j (by omega)) (fun q => q)
            have HT := Bx.mk (zip_any_take fs [a, b, c] j hjf (by simp; omega))
            have HZ := Bx.mk (zip_any_of fs [a, b, c] j hjf (by simp; omega))
            rw [show [a, b, c].getD j 0 = [a, b, c][j]'(by simp; omega) by rw [List.getD_eq_getElem?_getD, List.getElem?_eq_getElem (by simp; omega)]; rfl] at hx0
            have HO := Bx.mk (show outOf (fs[j], [a, b, c][j]'(by simp; omega)) = (decide ([a, b, c][j]'(by simp; omega) < fs[j].lo) || decide (fs[j].hi < [a, b, c][j]'(by simp; omega))) from rfl)
            generalize [a, b, c][j]'(by simp; omega) = x at *
            generalize fs[j] = f at *
            obtain ⟨s, lo, hi⟩ := f
            simp only at hs0 hs1 hs2 HO
            have hA0 : (wr.alloc (.cells #[.string s, .int .i32 lo, .int .i32 hi] 114)).cell? ⟨wr.heap.size, 1, none⟩ = some (.int .i32 lo) := by rw [World.cell?, heap_alloc_new]; rfl
            have hA1 : (wr.alloc (.cells #[.string s, .int .i32 lo, .int .i32 hi] 114)).cell? ⟨wr.heap.size, 2, none⟩ = some (.int .i32 hi) := by rw [World.cell?, heap_alloc_new]; rfl
            have hx1 := (((Upd.refl Nowhere wr).alloc (.cells #[.string s, .int .i32 lo, .int .i32 hi] 114))).cell hx0 (fun q => q)
            have hj3 : (j : Int) < 3 := by omega
            have hjn : (j : Int) < 1 := by omega
            have hNa := hN.alloc (.cells #[.string s, .int .i32 lo, .int .i32 hi] 114)
            by_cases hlo : x < lo
            · have hd : decide (x < lo) = true := decide_eq_true hlo
              have HE := Bx.mk (show chk k [a, b, c] = 5 by rw [HK2.out, if_pos (HZ.out (by rw [HO.out, hd]; rfl))])
              repeat' (first | fail | go_values | go_skip | go_guarded | go_step | go_upon | go_back)
              generalize wr.alloc (.cells #[.string s, .int .i32 lo, .int .i32 hi] 114) = wa at *
              go_quiet (fail)
              repeat' (first | fail | go_values | go_skip | go_guarded | go_step | go_upon | go_back)
              go_ret
              exact ⟨by rw [HE.out]; rfl, (hN1.trans hNa).drewN _⟩
            · have hd : decide (x < lo) = false := decide_eq_false hlo
              by_cases hhi : hi < x
              · have hd2 : decide (hi < x) = true := decide_eq_true hhi
                have HE := Bx.mk (show chk k [a, b, c] = 5 by rw [HK2.out, if_pos (HZ.out (by rw [HO.out, hd, hd2]; rfl))])
                repeat' (first | fail | go_values | go_skip | go_guarded | go_step | go_upon | go_back)
                generalize wr.alloc (.cells #[.string s, .int .i32 lo, .int .i32 hi] 114) = wa at *
                go_quiet (fail)
                repeat' (first | fail | go_values | go_skip | go_guarded | go_step | go_upon | go_back)
                go_ret
                exact ⟨by rw [HE.out]; rfl, (hN1.trans hNa).drewN _⟩
              · have hd2 : decide (hi < x) = false := decide_eq_false hhi
                repeat' (first | fail | go_values | go_skip | go_guarded | go_step | go_upon | go_back)
                generalize wr.alloc (.cells #[.string s, .int .i32 lo, .int .i32 hi] 114) = wa at *
                go_quiet (fail)
                repeat' (first | fail | go_values | go_skip | go_guarded | go_step | go_upon | go_back)
                go_roundw
                case rel => exact ⟨j + 1, by omega, by go_num, hNa.drewN _, ⟨by rw [HT.out, HJ.out, HO.out, hd, hd2]; rfl⟩⟩
                case measure => simp [intOf]; omega
          · obtain rfl : j = 1 := by omega
            have HE := Bx.mk (show chk k [a, b, c] = 0 by
              have h1 := HJ.out
              rw [List.take_of_length_le (by rw [List.length_zip, HH.out]; simp)] at h1
              rw [HK2.out, h1]; rfl)
            repeat' (first | fail | go_values | go_skip | go_guarded | go_step | go_upon | go_back)
            go_ret
            exact ⟨by rw [HE.out]; rfl, hN1.trans hN⟩
  · -- 2 of three
    have HK := Bx.mk (show chk k [a, b, c] = if ([c] : List Int).any (fun x => decide (x ≠ 0)) then 4 else if (fs.zip [a, b, c]).any outOf then 5 else 0 by rw [HC.out, h, if_neg (by decide)]; rfl)
    have HH := Bx.mk h
    clear HC
    go_enter Try.func76, Try.ntmps76
    repeat' (first | (go_at_call 77; (with_reducible refine (HO.out _).mono ?_); rintro e w1 ⟨A, rfl, hr, hu⟩; rw [h]; dsimp only) | go_values | go_skip | go_guarded | go_step | go_upon | go_back)
    clear h hlen HO hff
    have hBw : ∀ j, j < 3 → w1.cell? ⟨w.heap.size, 1 + j, none⟩ = some (.int .i32 ([a, b, c].getD j 0)) := fun j hj => hu.cell (HB.out j hj) (fun q => q)
    have HBw := Bx.mk hBw
    clear hBw
    have hN1 : New w w1 := ((Upd.refl _ w).alloc _).trans hu
    go_loop [5, 20] (fun _ i => ∃ j : Nat, j ≤ 1 ∧ i = .int .i64 j ∧ Bx ((([c] : List Int).take j).any (fun x => decide (x ≠ 0)) = false)) (fun _ i => 1 - (intOf i).toNat)
    case atStart => exact ⟨0, by omega, rfl, ⟨rfl⟩⟩
    case round =>
      obtain ⟨j, hj, rfl, HJ⟩ := hrel
      by_cases hlt : j < 1
      · have hcell := HBw.out (2 + j) (by omega)
        rw [← Nat.add_assoc, show [a, b, c].getD (2 + j) 0 = ([c] : List Int).getD j 0 by
          have : j = 0 ∨ j = 1 := by omega
          rcases this with rfl | rfl <;> first | rfl | omega] at hcell
        have HT := Bx.mk (show (([c] : List Int).take (j + 1)).any (fun x => decide (x ≠ 0)) = ((([c] : List Int).take j).any (fun x => decide (x ≠ 0)) || decide (([c] : List Int).getD j 0 ≠ 0)) by
          have : j = 0 ∨ j = 1 := by omega
          rcases this with rfl | rfl <;> first | (simp; done) | omega)
        have HA := Bx.mk (show ([c] : List Int).getD j 0 ≠ 0 → ([c] : List Int).any (fun x => decide (x ≠ 0)) = true by
          have : j = 0 ∨ j = 1 := by omega
          intro hne
          rcases this with rfl | rfl <;> first | omega | (simp at hne ⊢; simp [hne]; done))
        generalize ([c] : List Int).getD j 0 = y at *
        have hjM : (j : Int) < 1 := by omega
        by_cases hy : y = 0
        · repeat' (first | fail | go_values | go_skip | go_guarded | go_step | go_upon | go_back)
          go_round
          case rel => exact ⟨j + 1, by omega, by go_num, ⟨by rw [HT.out, HJ.out, hy]; rfl⟩⟩
          case measure => simp [intOf]; omega
        · have HE := Bx.mk (show chk k [a, b, c] = 4 by rw [HK.out, if_pos (HA.out hy)])
          repeat' (first | fail | go_values | go_skip | go_guarded | go_step | go_upon | go_back)
          go_ret
          exact ⟨by rw [HE.out]; rfl, hN1⟩
      · obtain rfl : j = 1 := by omega
        have HK2 := Bx.mk (show chk k [a, b, c] = if (fs.zip [a, b, c]).any outOf then 5 else 0 by
          have h1 := HJ.out
          rw [show ([c] : List Int).take 1 = [c] from rfl] at h1
          rw [HK.out, h1]; rfl)
        clear HK HJ hlt hj
        repeat' (first | fail | go_values | go_skip | go_guarded | go_step | go_upon | go_back)
        go_loopw [29] (fun i wr => ∃ j : Nat, j ≤ 2 ∧ i = .int .i64 j ∧ New w1 wr ∧ Bx (((fs.zip [a, b, c]).take j).any outOf = false)) (fun i _ => 2 - (intOf i).toNat)
        case atStart => exact ⟨0, by omega, rfl, Upd.refl _ _, ⟨rfl⟩⟩
        case round =>
          obtain ⟨j, hj, rfl, hN, HJ⟩ := hrel
          by_cases hlt : j < 2
          · have hjf : j < fs.length := by rw [HH.out]; exact hlt
            obtain ⟨b0, off, rfl, hs0, hs1, hs2⟩ := (hr.new hN).three j hjf
            have hx0 := hN.cell (HBw.out j (by omega)) (fun q => q)
            have HT := Bx.mk (zip_any_take fs [a, b, c] j hjf (by simp; omega))
            have HZ := Bx.mk (zip_any_of fs [a, b, c] j hjf (by simp; omega))
            rw [show [a, b, c].getD j 0 = [a, b, c][j]'(by simp; omega) by rw [List.getD_eq_getElem?_getD, List.getElem?_eq_getElem (by simp; omega)]; rfl] at hx0
            have HO := Bx.mk (show outOf (fs[j], [a, b, c][j]'(by simp; omega)) = (decide ([a, b, c][j]'(by simp; omega) < fs[j].lo) || decide (fs[j].hi < [a, b, c][j]'(by simp; omega))) from rfl)
            generalize [a, b, c][j]'(by simp; omega) = x at *
            generalize fs[j] = f at *
            obtain ⟨s, lo, hi⟩ := f
            simp only at hs0 hs1 hs2 HO
            have hA0 : (wr.alloc (.cells #[.string s, .int .i32 lo, .int .i32 hi] 114)).cell? ⟨wr.heap.size, 1, none⟩ = some (.int .i32 lo) := by rw [World.cell?, heap_alloc_new]; rfl
            have hA1 : (wr.alloc (.cells #[.string s, .int .i32 lo, .int .i32 hi] 114)).cell? ⟨wr.heap.size, 2, none⟩ = some (.int .i32 hi) := by rw [World.cell?, heap_alloc_new]; rfl
            have hx1 := (((Upd.refl Nowhere wr).alloc (.cells #[.string s, .int .i32 lo, .int .i32 hi] 114))).cell hx0 (fun q => q)
            have hj3 : (j : Int) < 3 := by omega
            have hjn : (j : Int) < 2 := by omega
            have hNa := hN.alloc (.cells #[.string s, .int .i32 lo, .int .i32 hi] 114)
            by_cases hlo : x < lo
            · have hd : decide (x < lo) = true := decide_eq_true hlo
              have HE := Bx.mk (show chk k [a, b, c] = 5 by rw [HK2.out, if_pos (HZ.out (by rw [HO.out, hd]; rfl))])
              repeat' (first | fail | go_values | go_skip | go_guarded | go_step | go_upon | go_back)
              generalize wr.alloc (.cells #[.string s, .int .i32 lo, .int .i32 hi] 114) = wa at *
              go_quiet (fail)
              repeat' (first | fail | go_values | go_skip | go_guarded | go_step | go_upon | go_back)
              go_ret
              exact ⟨by rw [HE.out]; rfl, (hN1.trans hNa).drewN _⟩
            · have hd : decide (x < lo) = false := decide_eq_false hlo
              by_cases hhi : hi < x
              · have hd2 : decide (hi < x) = true := decide_eq_true hhi
                have HE := Bx.mk (show chk k [a, b, c] = 5 by rw [HK2.out, if_pos (HZ.out (by rw [HO.out, hd, hd2]; rfl))])
                repeat' (first | fail | go_values | go_skip | go_guarded | go_step | go_upon | go_back)
                generalize wr.alloc (.cells #[.string s, .int .i32 lo, .int .i32 hi] 114) = wa at *
                go_quiet (fail)
                repeat' (first | fail | go_values | go_skip | go_guarded | go_step | go_upon | go_back)
                go_ret
                exact ⟨by rw [HE.out]; rfl, (hN1.trans hNa).drewN _⟩
              · have hd2 : decide (hi < x) = false := decide_eq_false hhi
                repeat' (first | fail | go_values | go_skip | go_guarded | go_step | go_upon | go_back)
                generalize wr.alloc (.cells #[.string s, .int .i32 lo, .int .i32 hi] 114) = wa at *
                go_quiet (fail)
                repeat' (first | fail | go_values | go_skip | go_guarded | go_step | go_upon | go_back)
                go_roundw
                case rel => exact ⟨j + 1, by omega, by go_num, hNa.drewN _, ⟨by rw [HT.out, HJ.out, HO.out, hd, hd2]; rfl⟩⟩
                case measure => simp [intOf]; omega
          · obtain rfl : j = 2 := by omega
            have HE := Bx.mk (show chk k [a, b, c] = 0 by
              have h1 := HJ.out
              rw [List.take_of_length_le (by rw [List.length_zip, HH.out]; simp)] at h1
              rw [HK2.out, h1]; rfl)
            repeat' (first | fail | go_values | go_skip | go_guarded | go_step | go_upon | go_back)
            go_ret
            exact ⟨by rw [HE.out]; rfl, hN1.trans hN⟩
  · -- 3 of three
    have HK := Bx.mk (show chk k [a, b, c] = if ([] : List Int).any (fun x => decide (x ≠ 0)) then 4 else if (fs.zip [a, b, c]).any outOf then 5 else 0 by rw [HC.out, h, if_neg (by decide)]; rfl)
    have HH := Bx.mk h
    clear HC
    go_enter Try.func76, Try.ntmps76
    repeat' (first | (go_at_call 77; (with_reducible refine (HO.out _).mono ?_); rintro e w1 ⟨A, rfl, hr, hu⟩; rw [h]; dsimp only) | go_values | go_skip | go_guarded | go_step | go_upon | go_back)
    clear h hlen HO hff
    have hBw : ∀ j, j < 3 → w1.cell? ⟨w.heap.size, 1 + j, none⟩ = some (.int .i32 ([a, b, c].getD j 0)) := fun j hj => hu.cell (HB.out j hj) (fun q => q)
    have HBw := Bx.mk hBw
    clear hBw
    have hN1 : New w w1 := ((Upd.refl _ w).alloc _).trans hu
    go_loop [5, 20] (fun _ i => ∃ j : Nat, j ≤ 0 ∧ i = .int .i64 j ∧ Bx ((([] : List Int).take j).any (fun x => decide (x ≠ 0)) = false)) (fun _ i => 0 - (intOf i).toNat)
    case atStart => exact ⟨0, by omega, rfl, ⟨rfl⟩⟩
    case round =>
      obtain ⟨j, hj, rfl, HJ⟩ := hrel
      by_cases hlt : j < 0
      · exact absurd hlt (Nat.not_lt_zero _)
      · obtain rfl : j = 0 := by omega
        have HK2 := Bx.mk (show chk k [a, b, c] = if (fs.zip [a, b, c]).any outOf then 5 else 0 by
          have h1 := HJ.out
          rw [show ([] : List Int).take 0 = [] from rfl] at h1
          rw [HK.out, h1]; rfl)
        clear HK HJ hlt hj
        repeat' (first | fail | go_values | go_skip | go_guarded | go_step | go_upon | go_back)
        go_loopw [29] (fun i wr => ∃ j : Nat, j ≤ 3 ∧ i = .int .i64 j ∧ New w1 wr ∧ Bx (((fs.zip [a, b, c]).take j).any outOf = false)) (fun i _ => 3 - (intOf i).toNat)
        case atStart => exact ⟨0, by omega, rfl, Upd.refl _ _, ⟨rfl⟩⟩
        case round =>
          obtain ⟨j, hj, rfl, hN, HJ⟩ := hrel
          by_cases hlt : j < 3
          · have hjf : j < fs.length := by rw [HH.out]; exact hlt
            obtain ⟨b0, off, rfl, hs0, hs1, hs2⟩ := (hr.new hN).three j hjf
            have hx0 := hN.cell (HBw.out j (by omega)) (fun q => q)
            have HT := Bx.mk (zip_any_take fs [a, b, c] j hjf (by simp; omega))
            have HZ := Bx.mk (zip_any_of fs [a, b, c] j hjf (by simp; omega))
            rw [show [a, b, c].getD j 0 = [a, b, c][j]'(by simp; omega) by rw [List.getD_eq_getElem?_getD, List.getElem?_eq_getElem (by simp; omega)]; rfl] at hx0
            have HO := Bx.mk (show outOf (fs[j], [a, b, c][j]'(by simp; omega)) = (decide ([a, b, c][j]'(by simp; omega) < fs[j].lo) || decide (fs[j].hi < [a, b, c][j]'(by simp; omega))) from rfl)
            generalize [a, b, c][j]'(by simp; omega) = x at *
            generalize fs[j] = f at *
            obtain ⟨s, lo, hi⟩ := f
            simp only at hs0 hs1 hs2 HO
            have hA0 : (wr.alloc (.cells #[.string s, .int .i32 lo, .int .i32 hi] 114)).cell? ⟨wr.heap.size, 1, none⟩ = some (.int .i32 lo) := by rw [World.cell?, heap_alloc_new]; rfl
            have hA1 : (wr.alloc (.cells #[.string s, .int .i32 lo, .int .i32 hi] 114)).cell? ⟨wr.heap.size, 2, none⟩ = some (.int .i32 hi) := by rw [World.cell?, heap_alloc_new]; rfl
            have hx1 := (((Upd.refl Nowhere wr).alloc (.cells #[.string s, .int .i32 lo, .int .i32 hi] 114))).cell hx0 (fun q => q)
            have hj3 : (j : Int) < 3 := by omega
            have hjn : (j : Int) < 3 := by omega
            have hNa := hN.alloc (.cells #[.string s, .int .i32 lo, .int .i32 hi] 114)
            by_cases hlo : x < lo
            · have hd : decide (x < lo) = true := decide_eq_true hlo
              have HE := Bx.mk (show chk k [a, b, c] = 5 by rw [HK2.out, if_pos (HZ.out (by rw [HO.out, hd]; rfl))])
              repeat' (first | fail | go_values | go_skip | go_guarded | go_step | go_upon | go_back)
              generalize wr.alloc (.cells #[.string s, .int .i32 lo, .int .i32 hi] 114) = wa at *
              go_quiet (fail)
              repeat' (first | fail | go_values | go_skip | go_guarded | go_step | go_upon | go_back)
              go_ret
              exact ⟨by rw [HE.out]; rfl, (hN1.trans hNa).drewN _⟩
            · have hd : decide (x < lo) = false := decide_eq_false hlo
              by_cases hhi : hi < x
              · have hd2 : decide (hi < x) = true := decide_eq_true hhi
                have HE := Bx.mk (show chk k [a, b, c] = 5 by rw [HK2.out, if_pos (HZ.out (by rw [HO.out, hd, hd2]; rfl))])
                repeat' (first | fail | go_values | go_skip | go_guarded | go_step | go_upon | go_back)
                generalize wr.alloc (.cells #[.string s, .int .i32 lo, .int .i32 hi] 114) = wa at *
                go_quiet (fail)
                repeat' (first | fail | go_values | go_skip | go_guarded | go_step | go_upon | go_back)
                go_ret
                exact ⟨by rw [HE.out]; rfl, (hN1.trans hNa).drewN _⟩
              · have hd2 : decide (hi < x) = false := decide_eq_false hhi
                repeat' (first | fail | go_values | go_skip | go_guarded | go_step | go_upon | go_back)
                generalize wr.alloc (.cells #[.string s, .int .i32 lo, .int .i32 hi] 114) = wa at *
                go_quiet (fail)
                repeat' (first | fail | go_values | go_skip | go_guarded | go_step | go_upon | go_back)
                go_roundw
                case rel => exact ⟨j + 1, by omega, by go_num, hNa.drewN _, ⟨by rw [HT.out, HJ.out, HO.out, hd, hd2]; rfl⟩⟩
                case measure => simp [intOf]; omega
          · obtain rfl : j = 3 := by omega
            have HE := Bx.mk (show chk k [a, b, c] = 0 by
              have h1 := HJ.out
              rw [List.take_of_length_le (by rw [List.length_zip, HH.out]; simp)] at h1
              rw [HK2.out, h1]; rfl)
            repeat' (first | fail | go_values | go_skip | go_guarded | go_step | go_upon | go_back)
            go_ret
            exact ⟨by rw [HE.out]; rfl, hN1.trans hN⟩
end Go.Proofs.Ytdnkdmdmekdfkaa
