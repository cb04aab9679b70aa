/- The walks of fields. -/
import Derived.Test.YtcflbeifklhiaaaSc7
import Derived.Laws.ResultCell
namespace Go.Proofs.Ytcflbeifklhiaaa
open Go.RowKit

def fldS (k : Nat) (i : Int) : ByteArray := if 0 ≤ i then (((flds k)[i.toNat]?).map Fld.s).getD ⟨#[]⟩ else ⟨#[]⟩
def fldV (k : Nat) (i : Int) : Value := .agg #[.string (fldS k i), .int .i32 (rngLo k i), .int .i32 (rngHi k i)]
theorem fldS_bad (k : Nat) (i : Int) (h : ¬ (0 ≤ i ∧ i < (flds k).length)) : fldS k i = ⟨#[]⟩ := by
  unfold fldS; split
  · rw [List.getElem?_eq_none (by omega)]; rfl
  · rfl
theorem fldS_ok (k i : Nat) (h : i < (flds k).length) : fldS k i = (flds k)[i].s := by
  rw [fldS, if_pos (by omega), Int.toNat_natCast, List.getElem?_eq_getElem h]; rfl

theorem at_results (tmps : Array Value) (w : World) (g : Nat) (cs : Array Value) (fr : Nat × Nat) (hp : tmps.getD 4 undef = .pointer (some ⟨g, 0, none⟩)) (hg : w.heap[g]? = some (.cells cs 59 fr)) (hs : cs.size = 3) :
    (results Try.f33 tmps).run Try.prog w = .ok (.tuple #[.agg cs, tmps.getD 5 undef]) w := by
  have hp' : tmps[4]?.getD undef = .pointer (some ⟨g, 0, none⟩) := by simpa using hp
  have hr := run_loadVar_row (P := Try.prog) w g 59 59 cs fr _ hg Try.underlying59 rfl (by rw [hs]; kernel_rfl)
  rw [results_cell_tmp Try.results33, hp]
  simp [asAddr, hr]
theorem new3 {w w1 : World} (hu : New (w.alloc (.cells #[.string ⟨#[]⟩, .int .i32 0, .int .i32 0] 59)) w1) : w1.heap[w.heap.size]? = some (.cells #[.string ⟨#[]⟩, .int .i32 0, .int .i32 0] 59 (0, 0)) := hu.blk (heap_alloc_new _ _) (fun q => q)
theorem at3 {w : World} {B : Nat} {a b c : Value} (h : w.heap[B]? = some (.cells #[a, b, c] 59 (0, 0))) : w.cell? ⟨B, 0, none⟩ = some a ∧ w.cell? ⟨B, 1, none⟩ = some b ∧ w.cell? ⟨B, 2, none⟩ = some c ∧ ∀ o, w.frozen? ⟨B, o, none⟩ = false := by
  refine ⟨by rw [World.cell?, h]; rfl, by rw [World.cell?, h]; rfl, by rw [World.cell?, h]; rfl, fun o => by simp [World.frozen?, h]⟩
theorem set3' {w : World} {B : Nat} {a b c : Value} (h : w.heap[B]? = some (.cells #[a, b, c] 59 (0, 0))) (x y z : Value) : (((w.setCell ⟨B, 0, none⟩ x).setCell ⟨B, 1, none⟩ y).setCell ⟨B, 2, none⟩ z).heap[B]? = some (.cells #[x, y, z] 59 (0, 0)) :=
  heap_setCell_same _ B 2 _ _ z (heap_setCell_same _ B 1 _ _ y (heap_setCell_same _ B 0 _ _ x h))

set_option maxHeartbeats 1000000 in
theorem at_any (k : Nat) (i : Int) (w : World) (hk : k < 256) :
    Calls Try.prog 33 #[.int .u8 k, .int .i64 i] w fun e w' => e = .returned (.tuple #[fldV k i, .bool (decide (0 ≤ i ∧ i < (flds k).length))]) ∧ New w w' := by
  have hff := field_fields
  by_cases hi : 0 ≤ i ∧ i < (flds k).length
  · obtain ⟨j, rfl⟩ := Int.eq_ofNat_of_zero_le hi.1
    have hj : j < (flds k).length := by omega
    obtain ⟨e1, e2, -⟩ := rng_ok k j hj
    have e3 := fldS_ok k j hj
    have HE := Bx.mk (show fldV k j = .agg #[.string (flds k)[j].s, .int .i32 (flds k)[j].lo, .int .i32 (flds k)[j].hi] by rw [fldV, e1, e2, e3])
    have HD := Bx.mk (show decide (0 ≤ (j : Int) ∧ (j : Int) < (flds k).length) = true from decide_eq_true hi)
    rw [HE.out, HD.out]
    have HO := Bx.mk (fun w => of_any k w hk)
    have hjl : (j : Int) < ((flds k).length : Int) := by omega
    clear hi e1 e2 e3 HE HD
    generalize flds k = fs at *
    go_enter Try.func33, Try.ntmps33
    repeat' (first | (go_at_call 32; go_loud ((with_reducible refine (HO.out _).mono ?_); rintro e w1 ⟨A, rfl, hr, hu⟩; (obtain ⟨b0, off, rfl, hs0, hs1, hs2⟩ := hr.three j hj); have hob := new3 hu; (obtain ⟨k0, k1, k2, kf⟩ := at3 hob); dsimp only)) | go_values | go_skip | go_guarded | go_step | go_upon | go_back)
    refine bodyPost_ret (at_results _ _ w.heap.size _ (0, 0) rfl (set3' hob _ _ _) rfl) rfl ?_
    exact ⟨rfl, (((((Upd.refl Nowhere w).alloc _).trans hu).setCell (p := ⟨w.heap.size, 0, none⟩) (.inr (Nat.le_refl _)) _).setCell (p := ⟨w.heap.size, 1, none⟩) (.inr (Nat.le_refl _)) _).setCell (p := ⟨w.heap.size, 2, none⟩) (.inr (Nat.le_refl _)) _⟩
  · have e1 := fldS_bad k i hi
    obtain ⟨e2, e3, -⟩ := rng_bad k i hi
    have HE := Bx.mk (show fldV k i = .agg #[.string ⟨#[]⟩, .int .i32 0, .int .i32 0] by rw [fldV, e1, e2, e3])
    have HD := Bx.mk (show decide (0 ≤ i ∧ i < (flds k).length) = false from decide_eq_false hi)
    rw [HE.out, HD.out]
    have HO := Bx.mk (fun w => of_any k w hk)
    by_cases h0 : i < 0
    · clear hi
      go_enter Try.func33, Try.ntmps33
      repeat' (first | (go_at_call 32; go_loud ((with_reducible refine (HO.out _).mono ?_); rintro e w1 ⟨A, rfl, hr, hu⟩; have hob := new3 hu; (obtain ⟨k0, k1, k2, kf⟩ := at3 hob); dsimp only)) | go_values | go_skip | go_guarded | go_step | go_upon | go_back)
      refine bodyPost_ret (at_results _ _ w.heap.size _ (0, 0) rfl (set3' hob _ _ _) rfl) rfl ?_
      exact ⟨rfl, (((((Upd.refl Nowhere w).alloc _).trans hu).setCell (p := ⟨w.heap.size, 0, none⟩) (.inr (Nat.le_refl _)) _).setCell (p := ⟨w.heap.size, 1, none⟩) (.inr (Nat.le_refl _)) _).setCell (p := ⟨w.heap.size, 2, none⟩) (.inr (Nat.le_refl _)) _⟩
    · have hge : ((flds k).length : Int) ≤ i := by omega
      clear hi
      go_enter Try.func33, Try.ntmps33
      repeat' (first | (go_at_call 32; go_loud ((with_reducible refine (HO.out _).mono ?_); rintro e w1 ⟨A, rfl, hr, hu⟩; have hob := new3 hu; (obtain ⟨k0, k1, k2, kf⟩ := at3 hob); dsimp only)) | go_values | go_skip | go_guarded | go_step | go_upon | go_back)
      refine bodyPost_ret (at_results _ _ w.heap.size _ (0, 0) rfl (set3' hob _ _ _) rfl) rfl ?_
      exact ⟨rfl, (((((Upd.refl Nowhere w).alloc _).trans hu).setCell (p := ⟨w.heap.size, 0, none⟩) (.inr (Nat.le_refl _)) _).setCell (p := ⟨w.heap.size, 1, none⟩) (.inr (Nat.le_refl _)) _).setCell (p := ⟨w.heap.size, 2, none⟩) (.inr (Nat.le_refl _)) _⟩

theorem Range_any (k : Nat) (i : Int) (w : World) (hk : k < 256) :
    Calls Try.prog 24 #[.int .u8 k, .int .i64 i] w fun e w' => e = .returned (.tuple #[.int .i32 (rngLo k i), .int .i32 (rngHi k i), .int .i64 (rngE k i)]) ∧ New w w' := by
  have HA := Bx.mk (fun w => at_any k i w hk)
  by_cases hi : 0 ≤ i ∧ i < (flds k).length
  · have HE := Bx.mk (show rngE k i = 0 from if_pos hi)
    rw [HE.out]
    rw [decide_eq_true hi, fldV] at HA
    generalize rngLo k i = lo at *
    generalize rngHi k i = hi at *
    generalize fldS k i = s at *
    go_enter Try.func24, Try.ntmps24
    repeat' (first | (go_at_call 33; go_loud ((with_reducible refine (HA.out _).mono ?_); rintro e w1 ⟨rfl, hu⟩; dsimp only)) | go_values | go_skip | go_guarded | go_step | go_upon | go_back)
    go_quiet (fail)
    repeat' (first | fail | go_values | go_skip | go_guarded | go_step | go_upon | go_back)
    go_returns
    exact ⟨rfl, (hu.alloc _).drewN _⟩
  · obtain ⟨e1, e2, e3⟩ := rng_bad k i hi
    rw [e1, e2, e3]
    rw [decide_eq_false hi, fldV, e1, e2, fldS_bad k i hi] at HA
    go_enter Try.func24, Try.ntmps24
    repeat' (first | (go_at_call 33; go_loud ((with_reducible refine (HA.out _).mono ?_); rintro e w1 ⟨rfl, hu⟩; dsimp only)) | go_values | go_skip | go_guarded | go_step | go_upon | go_back)
    go_returns
    exact ⟨rfl, hu.alloc _⟩
theorem Field_any (k : Nat) (i : Int) (w : World) (hk : k < 256) :
    Calls Try.prog 26 #[.int .u8 k, .int .i64 i] w fun e w' => e = .returned (.string (fldS k i)) ∧ New w w' := by
  have HA := Bx.mk (fun w => at_any k i w hk)
  rw [fldV] at HA
  generalize rngLo k i = lo at *
  generalize rngHi k i = hi at *
  generalize fldS k i = s at *
  generalize decide (0 ≤ i ∧ i < ((flds k).length : Int)) = b at *
  go_enter Try.func26, Try.ntmps26
  repeat' (first | (go_at_call 33; go_loud ((with_reducible refine (HA.out _).mono ?_); rintro e w1 ⟨rfl, hu⟩; dsimp only)) | go_values | go_skip | go_guarded | go_step | go_upon | go_back)
  go_ret
  exact ⟨rfl, hu.alloc _⟩

set_option maxHeartbeats 4000000 in
theorem refBits_any (k : Nat) (w : World) (hk : k < 256) :
    Calls Try.prog 31 #[.int .u8 k] w fun e w' => e = .returned (.int .i64 (sumW (flds k))) ∧ New w w' := by
  have HC := Bx.mk (fun w => refCount_any k w hk)
  have HR := Bx.mk (fun (j : Nat) (h : j < (flds k).length) w => by
    have hR := refRange_any k (j : Int) w hk
    obtain ⟨e1, e2, e3⟩ := rng_ok k j h
    rw [e1, e2, e3] at hR
    exact hR)
  have HL := Bx.mk (flds_len k)
  have HBd := Bx.mk (flds_bd k)
  generalize flds k = fs at *
  obtain ⟨n, hn⟩ : ∃ n, fs.length = n := ⟨_, rfl⟩
  have HN := Bx.mk hn
  have hn3 : n ≤ 3 := by have := HL.out; omega
  rw [hn] at HC
  clear hn
  go_enter Try.func31, Try.ntmps31
  repeat' (first | (go_at_call 12; go_loud ((with_reducible refine (HC.out _).mono ?_); rintro e w1 ⟨rfl, hu⟩; dsimp only)) | go_values | go_skip | go_guarded | go_step | go_upon | go_back)
  go_loopw [3, 10] (fun s i wr => ∃ j z : Nat, j ≤ n ∧ i = .int .i64 j ∧ s = .int .i64 z ∧ Bx (z = sumW (fs.take j)) ∧ New w1 wr) (fun _ i _ => n - (intOf i).toNat)
  case atStart => exact ⟨0, 0, by omega, rfl, rfl, ⟨rfl⟩, Upd.refl _ _⟩
  case round =>
    obtain ⟨j, z, hj, rfl, rfl, HZ, hN⟩ := hrel
    by_cases hlt : j < n
    · have hjf : j < fs.length := by rw [HN.out]; exact hlt
      have BR := Bx.mk (HR.out j hjf)
      have HS := Bx.mk (sumW_take fs j hjf)
      have hzl : z ≤ 192 := by
        rw [HZ.out]
        have h1 := sumW_le (fs.take j)
        have h2 := HL.out
        rw [List.length_take] at h1
        omega
      have hb := HBd.out fs[j] (List.getElem_mem hjf)
      generalize fs[j] = f at *
      obtain ⟨s, lo, hi⟩ := f
      simp only at HS hb BR
      have hw64 := wid_le lo hi
      obtain ⟨h1, h2, h3, h4⟩ := hb
      repeat' (first | (first | (go_at_call 13; go_loud ((with_reducible refine (BR.out _).mono ?_); rintro e w2 ⟨rfl, hu2⟩; dsimp only)) | (go_at_call 35; go_loud ((with_reducible refine (refWidth_any lo hi _ (by omega) (by omega) (by omega) (by omega)).mono ?_); rintro e w3 ⟨rfl, rfl⟩; dsimp only))) | go_values | go_skip | go_guarded | go_step | go_upon | go_back)
      go_roundw
      case rel => exact ⟨j + 1, z + wid lo hi, by omega, by go_num, by go_num, ⟨by rw [HS.out, HZ.out]⟩, hN.trans hu2⟩
      case measure => simp [intOf]; omega
    · obtain rfl : j = n := by omega
      have HE := Bx.mk (show z = sumW fs by rw [HZ.out, List.take_of_length_le (by rw [HN.out]; exact Nat.le_refl _)])
      repeat' (first | fail | go_values | go_skip | go_guarded | go_step | go_upon | go_back)
      go_ret
      exact ⟨by rw [← HE.out]; rfl, hu.trans hN⟩
end Go.Proofs.Ytcflbeifklhiaaa
