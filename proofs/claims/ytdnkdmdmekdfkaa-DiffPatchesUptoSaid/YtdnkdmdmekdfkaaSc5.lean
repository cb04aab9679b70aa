/- The reference's Check; awake. -/
import Derived.Test.YtdnkdmdmekdfkaaSc4
namespace Go.Proofs.Ytdnkdmdmekdfkaa
open Go.RowKit

/-- from n on all are nought, up to j -/
def zeroTo (F : List Int) (n j : Nat) : Prop := ∀ i, n ≤ i → i < j → F.getD i 0 = 0
theorem chk_zero (k : Nat) (a b c : Int) (h0 : (flds k).length ≠ 0) (hz : zeroTo [a, b, c] (flds k).length 3) : chk k [a, b, c] = if ((flds k).zip [a, b, c]).any outOf then 5 else 0 := by
  have hl := flds_len k
  rw [chk, if_neg h0, if_neg]
  generalize (flds k).length = n at *
  have : n = 1 ∨ n = 2 ∨ n = 3 := by omega
  rcases this with rfl | rfl | rfl
  · have h1 := hz 1 (by omega) (by omega); have h2 := hz 2 (by omega) (by omega); simp at h1 h2; simp [h1, h2]
  · have h2 := hz 2 (by omega) (by omega); simp at h2; simp [h2]
  · simp
theorem chk_form (k : Nat) (a b c : Int) (h0 : (flds k).length ≠ 0) (i : Nat) (h1 : (flds k).length ≤ i) (h2 : i < 3) (hx : [a, b, c].getD i 0 ≠ 0) : chk k [a, b, c] = 4 := by
  rw [chk, if_neg h0, if_pos]
  refine List.any_eq_true.2 ⟨[a, b, c].getD i 0, ?_, by simpa using hx⟩
  rw [List.getD_eq_getElem?_getD, List.getElem?_eq_getElem (by simp; omega), Option.getD_some]
  refine List.mem_iff_getElem.2 ⟨i - (flds k).length, by simp; omega, ?_⟩
  rw [List.getElem_drop]; congr 1; omega

set_option maxRecDepth 4000 in
set_option maxHeartbeats 4000000 in
theorem refCheck_any (k : Nat) (a b c : Int) (w : World) (hk : k < 256) :
    Calls Try.prog 61 #[.agg #[.int .u8 k, .int .i32 a, .int .i32 b, .int .i32 c]] w fun e w' => e = .returned (.int .i64 (chk k [a, b, c])) ∧ New w w' := by
  have hK : (w.alloc (.cells #[.int .u8 k, .int .i32 a, .int .i32 b, .int .i32 c] 46)).cell? ⟨w.heap.size, 0, none⟩ = some (.int .u8 k) := by
    rw [World.cell?, heap_alloc_new]; rfl
  have hB : ∀ j, j < 3 → (w.alloc (.cells #[.int .u8 k, .int .i32 a, .int .i32 b, .int .i32 c] 46)).cell? ⟨w.heap.size, 1 + j, none⟩ = some (.int .i32 ([a, b, c].getD j 0)) := by
    intro j hj
    rw [World.cell?, heap_alloc_new]
    have : j = 0 ∨ j = 1 ∨ j = 2 := by omega
    rcases this with rfl | rfl | rfl <;> rfl
  have HB := Bx.mk hB
  have HK := Bx.mk hK
  clear hB hK
  have hlen := flds_len k
  have HC := Bx.mk (fun w => refCount_any k w hk)
  by_cases h0 : (flds k).length = 0
  · have HE := Bx.mk (show chk k [a, b, c] = 1 from if_pos h0)
    rw [HE.out]
    go_enter Try.func61, Try.ntmps61
    repeat' (first | (go_at_call 74; (with_reducible refine (HC.out _).mono ?_); rintro e w1 ⟨rfl, hu⟩; rw [h0]; dsimp only) | go_values | go_skip | go_guarded | go_step | go_upon | go_back)
    go_ret
    exact ⟨rfl, ((Upd.refl _ w).alloc _).trans hu⟩
  · have HR := Bx.mk (fun i w => refRange_any k i w hk)
    have HZ := Bx.mk (chk_zero k a b c h0)
    have HF := Bx.mk (chk_form k a b c h0)
    have HG := Bx.mk (fun i h => rng_ok k i h)
    have HT := Bx.mk (fun j h h' => zip_any_take (flds k) [a, b, c] j h h')
    have HA := Bx.mk (fun j h h' => zip_any_of (flds k) [a, b, c] j h h')
    obtain ⟨n, hn⟩ : ∃ n, (flds k).length = n := ⟨_, rfl⟩
    have HL := Bx.mk hn
    rw [hn] at h0 hlen HC HZ HF
    clear hn
    have hn0 : ¬ (n : Int) = 0 := by omega
    go_enter Try.func61, Try.ntmps61
    repeat' (first | (go_at_call 74; (with_reducible refine (HC.out _).mono ?_); rintro e w1 ⟨rfl, hu⟩; dsimp only) | go_values | go_skip | go_guarded | go_step | go_upon | go_back)
    have hN1 : New w w1 := ((Upd.refl _ w).alloc _).trans hu
    have HBw := Bx.mk (fun j hj => hu.cell (HB.out j hj) (fun q => q))
    have HKw := Bx.mk (hu.cell HK.out (fun q => q))
    clear hu HB HK HC
    go_loop [4] (fun i => ∃ j : Nat, n ≤ j ∧ j ≤ 3 ∧ i = .int .i64 j ∧ Bx (zeroTo [a, b, c] n j)) (fun i => 3 - (intOf i).toNat)
    case atStart => exact ⟨n, by omega, hlen, rfl, ⟨fun i h1 h2 => by omega⟩⟩
    case round =>
      obtain ⟨j, hnj, hj3, rfl, HJ⟩ := hrel
      by_cases hlt : j < 3
      · have hcell := HBw.out j hlt
        have HJ1 := Bx.mk (show [a, b, c].getD j 0 = 0 → zeroTo [a, b, c] n (j + 1) from fun h i h1 h2 => by
          by_cases hij : i = j
          · rw [hij]; exact h
          · exact HJ.out i h1 (by omega))
        have HF1 := Bx.mk (show [a, b, c].getD j 0 ≠ 0 → chk k [a, b, c] = 4 from fun h => HF.out j hnj hlt h)
        generalize [a, b, c].getD j 0 = y at *
        by_cases hy : y = 0
        · repeat' (first | fail | go_values | go_skip | go_guarded | go_step | go_upon | go_back)
          go_round
          case rel => exact ⟨j + 1, by omega, by omega, by go_num, ⟨HJ1.out hy⟩⟩
          case measure => simp [intOf]; omega
        · have HE := Bx.mk (HF1.out hy)
          repeat' (first | fail | go_values | go_skip | go_guarded | go_step | go_upon | go_back)
          go_ret
          exact ⟨by rw [HE.out]; rfl, hN1⟩
      · obtain rfl : j = 3 := by omega
        have HK2 := Bx.mk (HZ.out HJ.out)
        clear HJ HZ HF hlt
        repeat' (first | fail | go_values | go_skip | go_guarded | go_step | go_upon | go_back)
        go_loopw [25] (fun i wr => ∃ j : Nat, j ≤ n ∧ i = .int .i64 j ∧ New w1 wr ∧ Bx ((((flds k).zip [a, b, c]).take j).any outOf = false)) (fun i _ => n - (intOf i).toNat)
        case atStart => exact ⟨0, by omega, rfl, Upd.refl _ _, ⟨rfl⟩⟩
        case round =>
          obtain ⟨j, hj, rfl, hN, HJ⟩ := hrel
          by_cases hlt : j < n
          · have hjf : j < (flds k).length := by rw [HL.out]; exact hlt
            have hx0 := hN.cell (HBw.out j (by omega)) (fun q => q)
            have hk0 := hN.cell HKw.out (fun q => q)
            have HT1 := Bx.mk (HT.out j hjf (by simp; omega))
            have HZ1 := Bx.mk (HA.out j hjf (by simp; omega))
            rw [show [a, b, c].getD j 0 = [a, b, c][j]'(by simp; omega) by rw [List.getD_eq_getElem?_getD, List.getElem?_eq_getElem (by simp; omega)]; rfl] at hx0
            have HO := Bx.mk (show outOf ((flds k)[j], [a, b, c][j]'(by simp; omega)) = (decide ([a, b, c][j]'(by simp; omega) < (flds k)[j].lo) || decide ((flds k)[j].hi < [a, b, c][j]'(by simp; omega))) from rfl)
            obtain ⟨e1, e2, e3⟩ := HG.out j hjf
            have hR := HR.out (j : Int)
            rw [e1, e2, e3] at hR
            clear e1 e2 e3
            have HR1 := Bx.mk hR
            clear hR
            generalize [a, b, c][j]'(by simp; omega) = x at *
            generalize (flds k)[j] = f at *
            obtain ⟨s, lo, hi⟩ := f
            simp only at HO HR1
            by_cases hlo : x < lo
            · have HE := Bx.mk (show chk k [a, b, c] = 5 by rw [HK2.out, if_pos (HZ1.out (by rw [HO.out, decide_eq_true hlo]; rfl))])
              repeat' (first | (go_at_call 75; (with_reducible refine (HR1.out _).mono ?_); rintro e w2 ⟨rfl, hu2⟩; have hx1 := hu2.cell hx0 (fun q => q); dsimp only) | go_values | go_skip | go_guarded | go_step | go_upon | go_back)
              go_ret
              exact ⟨by rw [HE.out]; rfl, (hN1.trans hN).trans hu2⟩
            · by_cases hhi : hi < x
              · have HE := Bx.mk (show chk k [a, b, c] = 5 by rw [HK2.out, if_pos (HZ1.out (by rw [HO.out, decide_eq_false hlo, decide_eq_true hhi]; rfl))])
                repeat' (first | (go_at_call 75; (with_reducible refine (HR1.out _).mono ?_); rintro e w2 ⟨rfl, hu2⟩; have hx1 := hu2.cell hx0 (fun q => q); dsimp only) | go_values | go_skip | go_guarded | go_step | go_upon | go_back)
                go_ret
                exact ⟨by rw [HE.out]; rfl, (hN1.trans hN).trans hu2⟩
              · repeat' (first | (go_at_call 75; (with_reducible refine (HR1.out _).mono ?_); rintro e w2 ⟨rfl, hu2⟩; have hx1 := hu2.cell hx0 (fun q => q); dsimp only) | go_values | go_skip | go_guarded | go_step | go_upon | go_back)
                go_roundw
                case rel => exact ⟨j + 1, by omega, by go_num, hN.trans hu2, ⟨by rw [HT1.out, HJ.out, HO.out, decide_eq_false hlo, decide_eq_false hhi]; rfl⟩⟩
                case measure => simp [intOf]; omega
          · obtain rfl : j = n := by omega
            have HE := Bx.mk (show chk k [a, b, c] = 0 by
              have h1 := HJ.out
              rw [List.take_of_length_le (by rw [List.length_zip, HL.out]; simp; omega)] at h1
              rw [HK2.out, h1]; rfl)
            repeat' (first | fail | go_values | go_skip | go_guarded | go_step | go_upon | go_back)
            go_ret
            exact ⟨by rw [HE.out]; rfl, hN1.trans hN⟩
end Go.Proofs.Ytdnkdmdmekdfkaa
