/- The bits of a kind; awake; the law of checks. -/
import Derived.Test.YtcflbeifklhiaaaSc5
namespace Go.Proofs.Ytcflbeifklhiaaa
open Go.RowKit

theorem flds_bd (k : Nat) : ∀ f ∈ flds k, -1000000 ≤ f.lo ∧ f.lo ≤ 1000000 ∧ -1000000 ≤ f.hi ∧ f.hi ≤ 1000000 := by
  intro f hf
  rcases six k with rfl | rfl | rfl | rfl | rfl | rfl | h6
  case' inr.inr.inr.inr.inr.inr => rw [flds_big k h6] at hf; cases hf
  all_goals
    simp [flds] at hf
    first
    | (rcases hf with rfl | rfl | rfl <;> decide)
    | (rcases hf with rfl | rfl <;> decide)
    | (subst hf; decide)
def sumW (l : List Fld) : Nat := (l.map fun f => wid f.lo f.hi).sum
theorem wid_le (lo hi : Int) : wid lo hi ≤ 64 := by unfold wid; split; omega; exact bitLen_le _
theorem sumW_take (l : List Fld) (j : Nat) (h : j < l.length) : sumW (l.take (j + 1)) = sumW (l.take j) + wid l[j].lo l[j].hi := by
  unfold sumW
  rw [List.take_succ_eq_append_getElem h, List.map_append, List.sum_append]
  simp only [List.map_cons, List.map_nil, List.sum_cons, List.sum_nil, Nat.add_zero]
theorem sumW_le (l : List Fld) : sumW l ≤ 64 * l.length := by
  induction l with
  | nil => exact Nat.le_refl _
  | cons f l ih => have := wid_le f.lo f.hi; simp only [sumW, List.map_cons, List.sum_cons, List.length_cons] at ih ⊢; omega

set_option maxHeartbeats 4000000 in
theorem Bits_any (k : Nat) (w : World) (hk : k < 256) :
    Calls Try.prog 30 #[.int .u8 k] w fun e w' => e = .returned (.int .i64 (sumW (flds k))) ∧ New w w' := by
  have HO := Bx.mk (fun w => of_any k w hk)
  have HL := Bx.mk (flds_len k)
  have HBd := Bx.mk (flds_bd k)
  have hff := field_fields
  generalize flds k = fs at *
  obtain ⟨n, hn⟩ : ∃ n, fs.length = n := ⟨_, rfl⟩
  have HN := Bx.mk hn
  have hn3 : n ≤ 3 := by have := HL.out; omega
  go_enter Try.func30, Try.ntmps30
  repeat' (first | (go_at_call 32; go_loud ((with_reducible refine (HO.out _).mono ?_); rintro e w1 ⟨A, rfl, hr, hu⟩; rw [hn]; dsimp only)) | go_values | go_skip | go_guarded | go_step | go_upon | go_back)
  clear hn
  go_loopw [3, 10] (fun s i wr => ∃ j z : Nat, j ≤ n ∧ i = .int .i64 j ∧ s = .int .i64 z ∧ Bx (z = sumW (fs.take j)) ∧ New w1 wr) (fun _ i _ => n - (intOf i).toNat)
  case atStart => exact ⟨0, 0, by omega, rfl, rfl, ⟨rfl⟩, Upd.refl _ _⟩
  case round =>
    obtain ⟨j, z, hj, rfl, rfl, HZ, hN⟩ := hrel
    by_cases hlt : j < n
    · have hjf : j < fs.length := by rw [HN.out]; exact hlt
      obtain ⟨b0, off, rfl, hs0, hs1, hs2⟩ := (hr.new hN).three j hjf
      have HS := Bx.mk (sumW_take fs j hjf)
      have hzl : z ≤ 192 := by
        rw [HZ.out]
        have h1 := sumW_le (fs.take j)
        have h2 := HL.out
        rw [List.length_take] at h1
        omega
      have hb := HBd.out fs[j] (List.getElem_mem hjf)
      generalize fs[j] = f at *
      obtain ⟨s, lo, hi⟩ := f
      simp only at hs0 hs1 hs2 HS hb
      have hw64 := wid_le lo hi
      obtain ⟨h1, h2, h3, h4⟩ := hb
      repeat' (first | (go_at_call 34; go_loud ((with_reducible refine (Width_any lo hi _ (by omega) (by omega) (by omega) (by omega)).mono ?_); rintro e w2 ⟨rfl, rfl⟩; dsimp only)) | go_values | go_skip | go_guarded | go_step | go_upon | go_back)
      go_roundw
      case rel => exact ⟨j + 1, z + wid lo hi, by omega, by go_num, by go_num, ⟨by rw [HS.out, HZ.out]⟩, hN.alloc _⟩
      case measure => simp [intOf]; omega
    · obtain rfl : j = n := by omega
      have HE := Bx.mk (show z = sumW fs by rw [HZ.out, List.take_of_length_le (by rw [HN.out]; exact Nat.le_refl _)])
      repeat' (first | fail | go_values | go_skip | go_guarded | go_step | go_upon | go_back)
      go_ret
      exact ⟨by rw [← HE.out]; rfl, hu.trans hN⟩

theorem Check_e (k : Nat) (K a b c : Int) (w : World) (hk : k < 256) (hK : K = (k : Int)) (E : Int) (hE : chk k [a, b, c] = E) :
    Calls Try.prog 10 #[.agg #[.int .u8 K, .int .i32 a, .int .i32 b, .int .i32 c]] w fun e w' => e = .returned (.int .i64 E) ∧ New w w' := by subst hK; subst hE; exact Check_any k a b c w hk
theorem refCheck_e (k : Nat) (K a b c : Int) (w : World) (hk : k < 256) (hK : K = (k : Int)) (E : Int) (hE : chk k [a, b, c] = E) :
    Calls Try.prog 11 #[.agg #[.int .u8 K, .int .i32 a, .int .i32 b, .int .i32 c]] w fun e w' => e = .returned (.int .i64 E) ∧ New w w' := by subst hK; subst hE; exact refCheck_any k a b c w hk
theorem Bits_e (k : Nat) (K : Int) (w : World) (hk : k < 256) (hK : K = (k : Int)) (E : Int) (hE : (sumW (flds k) : Int) = E) :
    Calls Try.prog 30 #[.int .u8 K] w fun e w' => e = .returned (.int .i64 E) ∧ New w w' := by subst hK; subst hE; exact Bits_any k w hk

set_option maxHeartbeats 1000000 in
theorem awake_any (w : World) : Calls Try.prog 9 #[] w fun e w' => e = .returned (.bool true) ∧ New w w' := by
  have E1 := Bx.mk (show chk 3 [3, 0, 5] = 0 by decide)
  have E2 := Bx.mk (show chk 3 [3, 1001, 5] = 5 by decide)
  have E3 := Bx.mk (show chk 2 [3, 1, 0] = 4 by decide)
  have E4 := Bx.mk (show (sumW (flds 0) : Int) = 40 by decide +kernel)
  go_enter Try.func9, Try.ntmps9
  repeat' (first | (first
    | (go_at_call 10; go_loud ((with_reducible refine (Check_e 3 3 3 0 5 _ (by decide) (by decide) 0 E1.out).mono ?_); rintro e w1 ⟨rfl, hu1⟩; dsimp only))
    | (go_at_call 10; go_loud ((with_reducible refine (Check_e 3 3 3 1001 5 _ (by decide) (by decide) 5 E2.out).mono ?_); rintro e w2 ⟨rfl, hu2⟩; dsimp only))
    | (go_at_call 10; go_loud ((with_reducible refine (Check_e 2 2 3 1 0 _ (by decide) (by decide) 4 E3.out).mono ?_); rintro e w3 ⟨rfl, hu3⟩; dsimp only))
    | (go_at_call 30; go_loud ((with_reducible refine (Bits_e 0 0 _ (by decide) (by decide) 40 E4.out).mono ?_); rintro e w4 ⟨rfl, hu4⟩; dsimp only))) | go_values | go_skip | go_guarded | go_step | go_upon | go_back)
  go_ret
  exact ⟨rfl, ((hu1.trans hu2).trans hu3).trans hu4⟩
end Go.Proofs.Ytcflbeifklhiaaa
