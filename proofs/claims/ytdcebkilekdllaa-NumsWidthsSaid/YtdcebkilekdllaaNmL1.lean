/- The law of widths. -/
import Derived.Test.YtdcebkilekdllaaNm1
namespace Go.Proofs.Ytdcebkilekdllaa
open Go.RowKit

theorem bitLen_iff (k : Nat) : ∀ x, x < 18446744073709551616 → (Lib.bitLen x ≤ k ↔ x < 2 ^ k) := by
  induction k with
  | zero =>
    intro x hx
    rcases Nat.eq_zero_or_pos x with rfl | h
    · simp [bitLen_zero]
    · have := bitLen_half x h hx
      constructor <;> intro h2
      · omega
      · simp at h2; omega
  | succ k ih =>
    intro x hx
    rcases Nat.eq_zero_or_pos x with rfl | h
    · simp [bitLen_zero, Nat.pow_pos]
    · rw [bitLen_half x h hx, Nat.add_le_add_iff_right, ih (x / 2) (by omega), Nat.pow_succ, Nat.div_lt_iff_lt_mul (by omega)]
theorem bitLen_lt (x : Nat) (hx : x < 18446744073709551616) : x < 2 ^ Lib.bitLen x := (bitLen_iff _ x hx).1 (Nat.le_refl _)
theorem widths (lo hi : Int) (more : Nat) (h : ¬ hi < lo) (h1 : -9223372036854775808 ≤ lo) (h4 : hi ≤ 9223372036854775807) (hm : more < 256) (K : Int) (hK : K = hi ∨ K = hi + more) (hK2 : K ≤ 9223372036854775807) :
    wid lo hi ≤ wid lo K ∧ wid lo K ≤ max (wid lo hi) 8 + 1 ∧ wid lo hi ≤ 64 ∧ (hi - lo).toNat < 2 ^ wid lo hi := by
  rw [wid_pos h, wid_pos (show ¬ K < lo by omega)]
  obtain ⟨d, hd⟩ : ∃ d : Nat, hi - lo = d := ⟨(hi - lo).toNat, by omega⟩
  obtain ⟨d', hd'⟩ : ∃ d : Nat, K - lo = d := ⟨(K - lo).toNat, by omega⟩
  rw [hd, hd', Int.toNat_natCast, Int.toNat_natCast]
  have hdl : d < 18446744073709551616 := by omega
  have hdl' : d' < 18446744073709551616 := by omega
  have b1 := bitLen_lt d hdl
  have b2 := bitLen_lt d' hdl'
  refine ⟨(bitLen_iff _ d hdl).2 (by omega), (bitLen_iff _ d' hdl').2 ?_, bitLen_le d, b1⟩
  have hp1 : 2 ^ Lib.bitLen d ≤ 2 ^ max (Lib.bitLen d) 8 := Nat.pow_le_pow_right (by omega) (Nat.le_max_left _ _)
  have hp2 : 2 ^ 8 ≤ 2 ^ max (Lib.bitLen d) 8 := Nat.pow_le_pow_right (by omega) (Nat.le_max_right _ _)
  rw [Nat.pow_succ]
  generalize 2 ^ max (Lib.bitLen d) 8 = P at *
  omega

set_option maxHeartbeats 4000000 in
theorem widthsLaw_any (lo hi : Int) (more : Nat) (w : World) (h1 : -9223372036854775808 ≤ lo) (h2 : lo ≤ 9223372036854775807) (h3 : -9223372036854775808 ≤ hi) (h4 : hi ≤ 9223372036854775807) (hm : more < 256) :
    Calls Try.prog 3 #[.int .i64 lo, .int .i64 hi, .int .u8 more] w fun e w' => e = .returned (.bool true) ∧ New w w' := by
  by_cases h : hi < lo
  · have HW := Bx.mk (fun w => Width_e lo hi w h1 h2 h3 h4 0 (by rw [show wid lo hi = 0 from if_pos h]; rfl))
    clear h1 h2 h3 h4
    go_enter Try.func3, Try.ntmps3
    repeat' (first | (first | (go_at_call 11; (with_reducible refine (awake_any _).mono ?_); rintro e w1 ⟨rfl, hu1⟩; dsimp only) | (go_at_call 12; (with_reducible refine (HW.out _).mono ?_); rintro e w2 ⟨rfl, rfl⟩; dsimp only)) | go_values | go_skip | go_guarded | go_step | go_upon | go_back)
    go_ret
    exact ⟨rfl, hu1⟩
  · obtain ⟨K, hKd⟩ : ∃ K : Int, (if hi < 9223372036854775807 - more then hi + more else hi) = K := ⟨_, rfl⟩
    have hK : K = hi ∨ K = hi + more := by rw [← hKd]; split <;> simp
    have hK2 : K ≤ 9223372036854775807 := by rw [← hKd]; split <;> omega
    obtain ⟨p1, p2, p3, p4⟩ := widths lo hi more h h1 h4 hm K hK hK2
    have HW := Bx.mk (fun w => Width_any lo hi w h1 h2 h3 h4)
    have HW2 := Bx.mk (fun w => Width_any lo K w h1 h2 (by omega) hK2)
    have e : IntKind.u64.wrap (IntKind.u64.wrap hi - IntKind.u64.wrap lo) = hi - lo := by
      rw [IntKind.wrap_u64, IntKind.wrap_u64, IntKind.wrap_u64]; omega
    have e3 : IntKind.u64.wrap (hi - IntKind.u64.wrap lo) = hi - lo := by
      rw [IntKind.wrap_u64, IntKind.wrap_u64]; omega
    have he0 : 0 ≤ hi - lo := by omega
    generalize wid lo hi = n at *
    generalize wid lo K = m at *
    have hle : lo ≤ hi := by omega
    have q1 : (n : Int) ≤ (m : Int) := by omega
    have q3 : (n : Int) ≤ 64 := by omega
    by_cases hn64 : n < 64
    · by_cases hK1 : hi < 9223372036854775807 - more
      · rw [if_pos hK1] at hKd
        subst hKd
        have q4 : hi - lo < IntKind.u64.wrap (2 ^ n) := by
          rw [IntKind.wrap_u64]
          have hp := Nat.pow_lt_pow_right (show 1 < 2 by omega) hn64
          have e2 : ((2 : Int) ^ n) = ((2 ^ n : Nat) : Int) := by rw [Int.natCast_pow]; rfl
          rw [e2]; omega
        have q5 : (n : Int) < 64 := by omega
        go_enter Try.func3, Try.ntmps3
        repeat' (first | (first | (go_at_call 11; (with_reducible refine (awake_any _).mono ?_); rintro e w1 ⟨rfl, hu1⟩; dsimp only) | (go_at_call 12; (with_reducible refine (HW.out _).mono ?_); rintro e w2 ⟨rfl, rfl⟩; dsimp only) | (go_at_call 12; (with_reducible refine (HW2.out _).mono ?_); rintro e w2 ⟨rfl, rfl⟩; dsimp only)) | go_values | go_skip | go_guarded | go_step | go_upon | go_back)
        all_goals (first | (go_ret; exact ⟨rfl, hu1⟩) | (exfalso; omega))
      · rw [if_neg hK1] at hKd
        subst hKd
        have q4 : hi - lo < IntKind.u64.wrap (2 ^ n) := by
          rw [IntKind.wrap_u64]
          have hp := Nat.pow_lt_pow_right (show 1 < 2 by omega) hn64
          have e2 : ((2 : Int) ^ n) = ((2 ^ n : Nat) : Int) := by rw [Int.natCast_pow]; rfl
          rw [e2]; omega
        have q5 : (n : Int) < 64 := by omega
        go_enter Try.func3, Try.ntmps3
        repeat' (first | (first | (go_at_call 11; (with_reducible refine (awake_any _).mono ?_); rintro e w1 ⟨rfl, hu1⟩; dsimp only) | (go_at_call 12; (with_reducible refine (HW.out _).mono ?_); rintro e w2 ⟨rfl, rfl⟩; dsimp only) | (go_at_call 12; (with_reducible refine (HW2.out _).mono ?_); rintro e w2 ⟨rfl, rfl⟩; dsimp only)) | go_values | go_skip | go_guarded | go_step | go_upon | go_back)
        all_goals (first | (go_ret; exact ⟨rfl, hu1⟩) | (exfalso; omega))
    · obtain rfl : n = 64 := by omega
      clear e e3 p4
      by_cases hK1 : hi < 9223372036854775807 - more
      · rw [if_pos hK1] at hKd
        subst hKd
        go_enter Try.func3, Try.ntmps3
        repeat' (first | (first | (go_at_call 11; (with_reducible refine (awake_any _).mono ?_); rintro e w1 ⟨rfl, hu1⟩; dsimp only) | (go_at_call 12; (with_reducible refine (HW.out _).mono ?_); rintro e w2 ⟨rfl, rfl⟩; dsimp only) | (go_at_call 12; (with_reducible refine (HW2.out _).mono ?_); rintro e w2 ⟨rfl, rfl⟩; dsimp only)) | go_values | go_skip | go_guarded | go_step | go_upon | go_back)
        all_goals (first | (go_ret; exact ⟨rfl, hu1⟩) | (exfalso; omega))
      · rw [if_neg hK1] at hKd
        subst hKd
        go_enter Try.func3, Try.ntmps3
        repeat' (first | (first | (go_at_call 11; (with_reducible refine (awake_any _).mono ?_); rintro e w1 ⟨rfl, hu1⟩; dsimp only) | (go_at_call 12; (with_reducible refine (HW.out _).mono ?_); rintro e w2 ⟨rfl, rfl⟩; dsimp only) | (go_at_call 12; (with_reducible refine (HW2.out _).mono ?_); rintro e w2 ⟨rfl, rfl⟩; dsimp only)) | go_values | go_skip | go_guarded | go_step | go_upon | go_back)
        all_goals (first | (go_ret; exact ⟨rfl, hu1⟩) | (exfalso; omega))
end Go.Proofs.Ytdcebkilekdllaa
