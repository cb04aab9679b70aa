/- The walks of fields. -/
import Derived.Test.YtpfdbkfjjjiamaaSc7
import Derived.Laws.ResultCell
namespace Go.Proofs.Ytpfdbkfjjjiamaa
open Go.RowKit

def fldS (k : Nat) (i : Int) : ByteArray := if 0 ≤ i then (((flds k)[i.toNat]?).map Fld.s).getD ⟨#[]⟩ else ⟨#[]⟩
def fldV (k : Nat) (i : Int) : Value := .agg #[.string (fldS k i), .int .i32 (rngLo k i), .int .i32 (rngHi k i)]
theorem fldS_bad (k : Nat) (i : Int) (h : ¬ (0 ≤ i ∧ i < (flds k).length)) : fldS k i = ⟨#[]⟩ := by
  unfold fldS; split
  · rw [List.getElem?_eq_none (by omega)]; rfl
  · rfl
theorem fldS_ok (k i : Nat) (h : i < (flds k).length) : fldS k i = (flds k)[i].s := by
  rw [fldS, if_pos (by omega), Int.toNat_natCast, List.getElem?_eq_getElem h]; rfl

theorem at_results (tmps : Array Value) (w : World) (g : Nat) (cs : Array Value) (fr : Nat × Nat) (hp : tmps.getD 4 undef = .pointer (some ⟨g, 0, none⟩)) (hg : w.heap[g]? = some (.cells cs 101 fr)) (hs : cs.size = 3) :
    (results Try.f62 tmps).run Try.prog w = .ok (.tuple #[.agg cs, tmps.getD 5 undef]) w := by
  have hp' : tmps[4]?.getD undef = .pointer (some ⟨g, 0, none⟩) := by simpa using hp
  have hr := run_loadVar_row (P := Try.prog) w g 101 101 cs fr _ hg Try.underlying101 rfl (by rw [hs]; kernel_rfl)
  rw [results_cell_tmp Try.results62, hp]
  simp [asAddr, hr]
theorem new3 {w w1 : World} (hu : New (w.alloc (.cells #[.string ⟨#[]⟩, .int .i32 0, .int .i32 0] 101)) w1) : w1.heap[w.heap.size]? = some (.cells #[.string ⟨#[]⟩, .int .i32 0, .int .i32 0] 101 (0, 0)) := hu.blk (heap_alloc_new _ _) (fun q => q)
theorem at3 {w : World} {B : Nat} {a b c : Value} (h : w.heap[B]? = some (.cells #[a, b, c] 101 (0, 0))) : w.cell? ⟨B, 0, none⟩ = some a ∧ w.cell? ⟨B, 1, none⟩ = some b ∧ w.cell? ⟨B, 2, none⟩ = some c ∧ ∀ o, w.frozen? ⟨B, o, none⟩ = false := by
  refine ⟨by rw [World.cell?, h]; rfl, by rw [World.cell?, h]; rfl, by rw [World.cell?, h]; rfl, fun o => by simp [World.frozen?, h]⟩
theorem set3' {w : World} {B : Nat} {a b c : Value} (h : w.heap[B]? = some (.cells #[a, b, c] 101 (0, 0))) (x y z : Value) : (((w.setCell ⟨B, 0, none⟩ x).setCell ⟨B, 1, none⟩ y).setCell ⟨B, 2, none⟩ z).heap[B]? = some (.cells #[x, y, z] 101 (0, 0)) :=
  heap_setCell_same _ B 2 _ _ z (heap_setCell_same _ B 1 _ _ y (heap_setCell_same _ B 0 _ _ x h))

set_option maxRecDepth 4000 in
set_option maxHeartbeats 1000000 in
theorem at_any (k : Nat) (i : Int) (w : World) (hk : k < 256) :
    Calls Try.prog 62 #[.int .u8 k, .int .i64 i] w fun e w' => e = .returned (.tuple #[fldV k i, .bool (decide (0 ≤ i ∧ i < (flds k).length))]) ∧ New w w' := by
  have hff := field_fields
  by_cases hi : 0 ≤ i ∧ i < (flds k).length
  · obtain ⟨j, rfl⟩ := Int.eq_ofNat_of_zero_le hi.1
    have hj : j < (flds k).length := by omega
    obtain ⟨e1, e2, -⟩ := rng_ok k j hj
    have e3 := fldS_ok k j hj
    have HE := Bx.mk (show fldV k j = .agg #[.string (flds k)[j].s, .int .i32 (flds k)[j].lo, .int .i32 (flds k)[j].hi] by rw [fldV, e1, e2, e3])
    have HD := Bx.mk (show decide (0 ≤ (j : Int) ∧ (j : Int) < (flds k).length) = true from decide_eq_true hi)
    rw [HE.out, HD.out]
    have HO := Bx.mk (fun w => of_any k w hk)
    have hjl : (j : Int) < ((flds k).length : Int) := by omega
    clear hi e1 e2 e3 HE HD
    generalize flds k = fs at *
    go_enter Try.func62, Try.ntmps62
    repeat' (first | (go_at_call 54; (with_reducible refine (HO.out _).mono ?_); rintro e w1 ⟨A, rfl, hr, hu⟩; (obtain ⟨b0, off, rfl, hs0, hs1, hs2⟩ := hr.three j hj); have hob := new3 hu; (obtain ⟨k0, k1, k2, kf⟩ := at3 hob); dsimp only) | go_values | go_skip | go_guarded | go_step | go_upon | go_back)
    refine bodyPost_ret (at_results _ _ w.heap.size _ (0, 0) rfl (set3' hob _ _ _) rfl) rfl ?_
    exact ⟨rfl, (((((Upd.refl Nowhere w).alloc _).trans hu).setCell (p := ⟨w.heap.size, 0, none⟩) (.inr (Nat.le_refl _)) _).setCell (p := ⟨w.heap.size, 1, none⟩) (.inr (Nat.le_refl _)) _).setCell (p := ⟨w.heap.size, 2, none⟩) (.inr (Nat.le_refl _)) _⟩
  · have e1 := fldS_bad k i hi
    obtain ⟨e2, e3, -⟩ := rng_bad k i hi
    have HE := Bx.mk (show fldV k i = .agg #[.string ⟨#[]⟩, .int .i32 0, .int .i32 0] by rw [fldV, e1, e2, e3])
    have HD := Bx.mk (show decide (0 ≤ i ∧ i < (flds k).length) = false from decide_eq_false hi)
    rw [HE.out, HD.out]
    have HO := Bx.mk (fun w => of_any k w hk)
    by_cases h0 : i < 0
    · clear hi
      go_enter Try.func62, Try.ntmps62
      repeat' (first | (go_at_call 54; (with_reducible refine (HO.out _).mono ?_); rintro e w1 ⟨A, rfl, hr, hu⟩; have hob := new3 hu; (obtain ⟨k0, k1, k2, kf⟩ := at3 hob); dsimp only) | go_values | go_skip | go_guarded | go_step | go_upon | go_back)
      refine bodyPost_ret (at_results _ _ w.heap.size _ (0, 0) rfl (set3' hob _ _ _) rfl) rfl ?_
      exact ⟨rfl, (((((Upd.refl Nowhere w).alloc _).trans hu).setCell (p := ⟨w.heap.size, 0, none⟩) (.inr (Nat.le_refl _)) _).setCell (p := ⟨w.heap.size, 1, none⟩) (.inr (Nat.le_refl _)) _).setCell (p := ⟨w.heap.size, 2, none⟩) (.inr (Nat.le_refl _)) _⟩
    · have hge : ((flds k).length : Int) ≤ i := by omega
      clear hi
      go_enter Try.func62, Try.ntmps62
      repeat' (first | (go_at_call 54; (with_reducible refine (HO.out _).mono ?_); rintro e w1 ⟨A, rfl, hr, hu⟩; have hob := new3 hu; (obtain ⟨k0, k1, k2, kf⟩ := at3 hob); dsimp only) | go_values | go_skip | go_guarded | go_step | go_upon | go_back)
      refine bodyPost_ret (at_results _ _ w.heap.size _ (0, 0) rfl (set3' hob _ _ _) rfl) rfl ?_
      exact ⟨rfl, (((((Upd.refl Nowhere w).alloc _).trans hu).setCell (p := ⟨w.heap.size, 0, none⟩) (.inr (Nat.le_refl _)) _).setCell (p := ⟨w.heap.size, 1, none⟩) (.inr (Nat.le_refl _)) _).setCell (p := ⟨w.heap.size, 2, none⟩) (.inr (Nat.le_refl _)) _⟩

theorem Range_any (k : Nat) (i : Int) (w : World) (hk : k < 256) :
    Calls Try.prog 57 #[.int .u8 k, .int .i64 i] w fun e w' => e = .returned (.tuple #[.int .i32 (rngLo k i), .int .i32 (rngHi k i), .int .i64 (rngE k i)]) ∧ New w w' := by
  have HA := Bx.mk (fun w => at_any k i w hk)
  by_cases hi : 0 ≤ i ∧ i < (flds k).length
  · have HE := Bx.mk (show rngE k i = 0 from if_pos hi)
    rw [HE.out]
    rw [decide_eq_true hi, fldV] at HA
    generalize rngLo k i = lo at *
    generalize rngHi k i = hi at *
    generalize fldS k i = s at *
    go_enter Try.func57, Try.ntmps57
    repeat' (first | (go_at_call 62; (with_reducible refine (HA.out _).mono ?_); rintro e w1 ⟨rfl, hu⟩; dsimp only) | go_values | go_skip | go_guarded | go_step | go_upon | go_back)
    go_quiet (fail)
    repeat' (first | fail | go_values | go_skip | go_guarded | go_step | go_upon | go_back)
    go_returns
    exact ⟨rfl, (hu.alloc _).drewN _⟩
  · obtain ⟨e1, e2, e3⟩ := rng_bad k i hi
    rw [e1, e2, e3]
    rw [decide_eq_false hi, fldV, e1, e2, fldS_bad k i hi] at HA
    go_enter Try.func57, Try.ntmps57
    repeat' (first | (go_at_call 62; (with_reducible refine (HA.out _).mono ?_); rintro e w1 ⟨rfl, hu⟩; dsimp only) | go_values | go_skip | go_guarded | go_step | go_upon | go_back)
    go_returns
    exact ⟨rfl, hu.alloc _⟩
end Go.Proofs.Ytpfdbkfjjjiamaa
