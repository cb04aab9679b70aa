/- The law of the ends of ranges. -/
import Derived.Test.YtcflbeifklhiaaaSc6
namespace Go.Proofs.Ytcflbeifklhiaaa
open Go.RowKit

def lowJ (k j : Nat) : List Int := (List.range 3).map fun t => if t < j then rngLo k t else 0
def endV (k n j : Nat) : Int := [rngLo k n, rngHi k n, rngLo k n - 1, rngHi k n + 1].getD j 0
def endE (j : Nat) : Int := [0, 0, 5, 5].getD j 0
theorem six' (k : Nat) (h : k < 6) : k = 0 ∨ k = 1 ∨ k = 2 ∨ k = 3 ∨ k = 4 ∨ k = 5 := by omega
theorem ends_chk : ∀ k, k < 6 → ∀ n, n < (flds k).length → ∀ j, j < 4 → chk k ((lowJ k (flds k).length).set n (endV k n j)) = endE j := by
  intro k hk
  rcases six' k hk with rfl | rfl | rfl | rfl | rfl | rfl <;> decide
theorem flds_pos : ∀ k, k < 6 → 0 < (flds k).length := by
  intro k hk
  rcases six' k hk with rfl | rfl | rfl | rfl | rfl | rfl <;> decide
theorem set3 (a b c y : Int) (n : Nat) (hn : n < 3) : ∃ a' b' c' : Int, [a, b, c].set n y = [a', b', c'] ∧ ∀ k : Int, (#[Value.int .u8 k, Value.int .i32 a, Value.int .i32 b, Value.int .i32 c] : Array Value).setIfInBounds (1 + n) (.int .i32 y) = #[Value.int .u8 k, Value.int .i32 a', Value.int .i32 b', Value.int .i32 c'] := by
  have : n = 0 ∨ n = 1 ∨ n = 2 := by omega
  rcases this with rfl | rfl | rfl
  · exact ⟨y, b, c, rfl, fun _ => rfl⟩
  · exact ⟨a, y, c, rfl, fun _ => rfl⟩
  · exact ⟨a, b, y, rfl, fun _ => rfl⟩
theorem lowJ_succ (k j : Nat) (hj : j < 3) : lowJ k (j + 1) = (lowJ k j).set j (rngLo k j) := by
  have : j = 0 ∨ j = 1 ∨ j = 2 := by omega
  rcases this with rfl | rfl | rfl <;> simp [lowJ, List.range, List.range.loop]

theorem slot3 {w : World} {B : Nat} {k a b c : Int} {j : Nat} (h : w.heap[B]? = some (.cells #[.int .u8 k, .int .i32 a, .int .i32 b, .int .i32 c] 24 (0, 0))) (hj : j < 3) : ∃ y, w.cell? ⟨B, 1 + j, none⟩ = some y := by
  rw [World.cell?, h]
  have : j = 0 ∨ j = 1 ∨ j = 2 := by omega
  rcases this with rfl | rfl | rfl <;> exact ⟨_, rfl⟩
theorem ends_row (w : World) (lo hi : Int) (q : Nat) (hq : q < 4) : (w.alloc (.cells #[.int .i32 lo, .int .i64 0, .int .i32 hi, .int .i64 0, .int .i32 (lo - 1), .int .i64 5, .int .i32 (hi + 1), .int .i64 5] 33)).cell? ⟨w.heap.size, q * 2, none⟩ = some (.int .i32 ([lo, hi, lo - 1, hi + 1].getD q 0)) ∧
    (w.alloc (.cells #[.int .i32 lo, .int .i64 0, .int .i32 hi, .int .i64 0, .int .i32 (lo - 1), .int .i64 5, .int .i32 (hi + 1), .int .i64 5] 33)).cell? ⟨w.heap.size, q * 2 + 1, none⟩ = some (.int .i64 (endE q)) := by
  rw [World.cell?, World.cell?, heap_alloc_new]
  have : q = 0 ∨ q = 1 ∨ q = 2 ∨ q = 3 := by omega
  rcases this with rfl | rfl | rfl | rfl <;> exact ⟨rfl, rfl⟩
set_option maxHeartbeats 4000000 in
theorem ends_any (kd i0 : Nat) (w : World) (hkd : kd < 256) (hi0 : i0 < 256) :
    Calls Try.prog 4 #[.int .u8 kd, .int .u8 i0] w fun e w' => e = .returned (.bool true) ∧ New w w' := by
  obtain ⟨k, hk⟩ : ∃ k, kd % 6 = k := ⟨_, rfl⟩
  have hk6 : k < 6 := by omega
  have ek : (kd : Int) % 6 = (k : Int) := by omega
  have hpos := flds_pos k hk6
  have hlen := flds_len k
  have HC := Bx.mk (fun w => refCount_any k w (by omega))
  have HR := Bx.mk (fun (j : Nat) (h : j < (flds k).length) w => by
    have hR := refRange_any k (j : Int) w (by omega)
    rw [(rng_ok k j h).2.2] at hR
    exact hR)
  have HX := Bx.mk (fun n h j hj => ends_chk k hk6 n h j hj)
  have HBd := Bx.mk (fun (j : Nat) (h : j < (flds k).length) => show (-1000000 ≤ rngLo k j ∧ rngLo k j ≤ 1000000 ∧ -1000000 ≤ rngHi k j ∧ rngHi k j ≤ 1000000) by
    obtain ⟨e1, e2, -⟩ := rng_ok k j h
    rw [e1, e2]
    exact flds_bd k _ (List.getElem_mem h))
  generalize (flds k).length = n0 at *
  obtain ⟨n, hn⟩ : ∃ n, i0 % n0 = n := ⟨_, rfl⟩
  have hnn : n < n0 := by rw [← hn]; exact Nat.mod_lt _ hpos
  have en : (i0 : Int) % (n0 : Int) = (n : Int) := by rw [← hn, Int.natCast_emod]
  have hn0 : (n0 : Int) ≠ 0 := by omega
  clear hk hn
  go_enter Try.func4, Try.ntmps4
  repeat' (first | (first | (go_at_call 9; go_loud ((with_reducible refine (awake_any _).mono ?_); rintro e w1 ⟨rfl, hu1⟩; dsimp only)) | (go_at_call 12; go_loud ((with_reducible refine (HC.out _).mono ?_); rintro e w2 ⟨rfl, hu2⟩; dsimp only))) | go_values | go_skip | go_guarded | go_step | go_upon | go_back)
  have hw1 := hu1.size
  have hobj : w2.heap[w1.heap.size]? = some (.cells #[.int .u8 k, .int .i32 0, .int .i32 0, .int .i32 0] 24 (0, 0)) := hu2.blk (heap_alloc_new _ _) (fun q => q)
  have hN2 : New w w2 := (hu1.alloc _).trans hu2
  clear hu2
  generalize w1.heap.size = B at *
  go_loopw [22] (fun i wr => ∃ (j : Nat) (a b c : Int), j ≤ n0 ∧ i = .int .i64 j ∧ wr.heap[B]? = some (.cells #[.int .u8 k, .int .i32 a, .int .i32 b, .int .i32 c] 24 (0, 0)) ∧ Bx ([a, b, c] = lowJ k j) ∧ New w wr) (fun i _ => n0 - (intOf i).toNat)
  case atStart => exact ⟨0, 0, 0, 0, by omega, rfl, hobj, ⟨rfl⟩, hN2⟩
  case round =>
    obtain ⟨j, a, b, c, hj, rfl, ho, HJ, hN⟩ := hrel
    by_cases hlt : j < n0
    · have hj3 : j < 3 := by omega
      obtain ⟨a', b', c', hs, hset⟩ := set3 a b c (rngLo k j) j hj3
      have HS := Bx.mk (show [a', b', c'] = lowJ k (j + 1) by rw [← hs, HJ.out, ← lowJ_succ k j hj3])
      have hst := hset k
      have BR := Bx.mk (HR.out j hlt)
      have hj3i : (j : Int) < 3 := by omega
      clear hs hset
      generalize rngLo k j = lo at *
      have F1 : ∀ w', New wr w' → w'.heap[B]? = some (.cells #[.int .u8 k, .int .i32 a, .int .i32 b, .int .i32 c] 24 (0, 0)) := fun w' h => h.blk ho (fun q => q)
      have BF := Bx.mk F1
      clear F1
      repeat' (first | (go_at_call 13; go_loud ((with_reducible refine (BR.out _).mono ?_); rintro e w3 ⟨rfl, hu3⟩; have ho3 := BF.out w3 hu3; have hc3 : ∀ o, w3.frozen? ⟨B, o, none⟩ = false := (fun o => by simp [World.frozen?, ho3]); (obtain ⟨y0, hy0⟩ := slot3 ho3 hj3); dsimp only)) | go_values | go_skip | go_guarded | go_step | go_upon | go_back)
      go_roundw
      case rel =>
        refine ⟨j + 1, a', b', c', by omega, by go_num, ?_, HS, (hN.trans hu3).setCell (p := ⟨B, 1 + j, none⟩) (.inr hw1) _⟩
        rw [heap_setCell_same _ _ _ _ _ _ ho3, hst]
      case measure => simp [intOf]; omega
    · obtain rfl : j = n0 := by omega
      have BR := Bx.mk (HR.out n hnn)
      have hbd := HBd.out n hnn
      have hn3 : n < 3 := by omega
      have hn3i : (n : Int) < 3 := by omega
      have HX1 := Bx.mk (fun q (h : q < 4) => HX.out n hnn q h)
      have HV := Bx.mk (show ∀ q, endV k n q = [rngLo k n, rngHi k n, rngLo k n - 1, rngHi k n + 1].getD q 0 from fun _ => rfl)
      generalize rngLo k n = lo at *
      generalize rngHi k n = hi at *
      obtain ⟨b1, b2, b3, b4⟩ := hbd
      repeat' (first | (first | (go_at_call 12; go_loud ((with_reducible refine (HC.out _).mono ?_); rintro e w4 ⟨rfl, hu4⟩; have ho4 := hu4.blk ho (fun q => q); dsimp only)) | (go_at_call 13; go_loud ((with_reducible refine (BR.out _).mono ?_); rintro e w5 ⟨rfl, hu5⟩; have ho5 := hu5.blk ho4 (fun q => q); dsimp only))) | go_values | go_skip | go_guarded | go_step | go_upon | go_back)
      have hlt5 := (Array.getElem?_eq_some_iff.1 ho5).1
      have hrow := fun q (hq : q < 4) => ends_row w5 lo hi q hq
      have ho6 := (Below.heap_alloc w5 (.cells #[.int .i32 lo, .int .i64 0, .int .i32 hi, .int .i64 0, .int .i32 (lo - 1), .int .i64 5, .int .i32 (hi + 1), .int .i64 5] 33) B hlt5).trans ho5
      have hN6 := ((hN.trans hu4).trans hu5).alloc (.cells #[.int .i32 lo, .int .i64 0, .int .i32 hi, .int .i64 0, .int .i32 (lo - 1), .int .i64 5, .int .i32 (hi + 1), .int .i64 5] 33)
      have HRow := Bx.mk hrow
      have hCB : w5.heap.size ≠ B := by omega
      clear hrow ho4 ho5 ho hobj hu4 hu5 BR HC HR HX HBd
      generalize w5.alloc (.cells #[.int .i32 lo, .int .i64 0, .int .i32 hi, .int .i64 0, .int .i32 (lo - 1), .int .i64 5, .int .i32 (hi + 1), .int .i64 5] 33) = w6 at *
      generalize w5.heap.size = C at *
      go_loopw [60] (fun i wr => ∃ (q : Nat) (a b c : Int), q ≤ 4 ∧ i = .int .i64 q ∧ wr.heap[B]? = some (.cells #[.int .u8 k, .int .i32 a, .int .i32 b, .int .i32 c] 24 (0, 0)) ∧ Bx (∀ y, [a, b, c].set n y = (lowJ k j).set n y) ∧ Upd (fun b => b = B) w6 wr) (fun i _ => 4 - (intOf i).toNat)
      case atStart => exact ⟨0, a, b, c, by omega, rfl, ho6, ⟨fun y => by rw [HJ.out]⟩, Upd.refl _ _⟩
      case round =>
        obtain ⟨q, a, b, c, hqq, rfl, ho, HY, hU⟩ := hrel
        by_cases hltq : q < 4
        · obtain ⟨r0, r1⟩ := HRow.out q hltq
          have c0 := hU.cell r0 (fun h => hCB h)
          have c1 := hU.cell r1 (fun h => hCB h)
          obtain ⟨a', b', c', hs, hset⟩ := set3 a b c ([lo, hi, lo - 1, hi + 1].getD q 0) n hn3
          have HE := Bx.mk (show chk k [a', b', c'] = endE q by rw [← hs, HY.out, ← HV.out]; exact HX1.out q hltq)
          have HY2 := Bx.mk (show ∀ y, [a', b', c'].set n y = (lowJ k j).set n y from fun y => by rw [← hs, List.set_set, HY.out])
          have hst := Bx.mk (hset k)
          have hq4 : (q : Int) < 4 := by omega
          clear r0 r1 hs hset
          generalize [lo, hi, lo - 1, hi + 1].getD q 0 = v at *
          generalize endE q = e at *
          have hlt6 := (Array.getElem?_eq_some_iff.1 ho).1
          have hoa := (Below.heap_alloc wr (.cells #[.int .i32 v, .int .i64 e] 33) B hlt6).trans ho
          have hfa : ∀ o, (wr.alloc (.cells #[.int .i32 v, .int .i64 e] 33)).frozen? ⟨B, o, none⟩ = false := fun o => by simp [World.frozen?, hoa]
          obtain ⟨y0, hy0⟩ := slot3 hoa hn3
          have hX1 : (wr.alloc (.cells #[.int .i32 v, .int .i64 e] 33)).cell? ⟨wr.heap.size, 1, none⟩ = some (.int .i64 e) := by rw [World.cell?, heap_alloc_new]; rfl
          have hX0 : (wr.alloc (.cells #[.int .i32 v, .int .i64 e] 33)).cell? ⟨wr.heap.size, 0, none⟩ = some (.int .i32 v) := by rw [World.cell?, heap_alloc_new]; rfl
          have hUa := hU.alloc (.cells #[.int .i32 v, .int .i64 e] 33)
          have hXB : wr.heap.size ≠ B := by omega
          repeat' (first | fail | go_values | go_skip | go_guarded | go_step | go_upon | go_back)
          have hob : ((wr.setCell ⟨B, 1 + n, none⟩ (.int .i32 v)).alloc (.cells #[.int .i32 v, .int .i64 e] 33)).heap[B]? = some (.cells #[.int .u8 k, .int .i32 a', .int .i32 b', .int .i32 c'] 24 (0, 0)) := by
            rw [Below.heap_alloc _ _ _ (by simpa using hlt6), heap_setCell_same _ _ _ _ _ _ ho, hst.out]
          have hXb : ((wr.setCell ⟨B, 1 + n, none⟩ (.int .i32 v)).alloc (.cells #[.int .i32 v, .int .i64 e] 33)).cell? ⟨wr.heap.size, 1, none⟩ = some (.int .i64 e) := by
            have h1 := heap_alloc_new (wr.setCell ⟨B, 1 + n, none⟩ (.int .i32 v)) (.cells #[.int .i32 v, .int .i64 e] 33)
            rw [World.size_setCell] at h1
            rw [World.cell?, h1]; rfl
          have hUb := (hU.setCell (p := ⟨B, 1 + n, none⟩) (.inl rfl) (.int .i32 v)).alloc (.cells #[.int .i32 v, .int .i64 e] 33)
          clear hoa hfa hy0 hX1 hX0 hUa
          generalize (wr.setCell ⟨B, 1 + n, none⟩ (.int .i32 v)).alloc (.cells #[.int .i32 v, .int .i64 e] 33) = wb at *
          have C0 : ∀ x : After wb, x.to.cell? ⟨B, 0, none⟩ = some (.int .u8 k) := fun x => by rw [World.cell?, x.h.blk hob (fun q => q)]; rfl
          have C1 : ∀ x : After wb, x.to.cell? ⟨B, 1, none⟩ = some (.int .i32 a') := fun x => by rw [World.cell?, x.h.blk hob (fun q => q)]; rfl
          have C2 : ∀ x : After wb, x.to.cell? ⟨B, 2, none⟩ = some (.int .i32 b') := fun x => by rw [World.cell?, x.h.blk hob (fun q => q)]; rfl
          have C3 : ∀ x : After wb, x.to.cell? ⟨B, 3, none⟩ = some (.int .i32 c') := fun x => by rw [World.cell?, x.h.blk hob (fun q => q)]; rfl
          have CX := fun x : After wb => x.h.cell hXb (fun q => q)
          have hk256 : k < 256 := by omega
          (refine wp_region_calm (by kernel_rfl) (by kernel_rfl) ?_; (repeat (go_big_quiet_step ((go_at_call 10; refine Calls.calm (Check_e k k a' b' c' _ hk256 rfl e HE.out))))); refine wpQuiet_nil ?_; intro wq hq)
          repeat' (first | fail | go_values | go_skip | go_guarded | go_step | go_upon | go_back)
          go_roundw
          case rel => exact ⟨q + 1, a', b', c', by omega, by go_num, hq.blk hob (fun q => q), HY2, hUb.trans hq.upd⟩
          case measure => simp [intOf]; omega
        · obtain rfl : q = 4 := by omega
          repeat' (first | fail | go_values | go_skip | go_guarded | go_step | go_upon | go_back)
          go_ret
          exact ⟨rfl, hN6.then hU (fun b hb => .inr (by have h1 : b = B := hb; omega))⟩
end Go.Proofs.Ytcflbeifklhiaaa
