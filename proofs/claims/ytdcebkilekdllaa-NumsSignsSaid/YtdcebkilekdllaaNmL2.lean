/- The law of signs. -/
import Derived.Test.YtdcebkilekdllaaNm2
namespace Go.Proofs.Ytdcebkilekdllaa
open Go.RowKit

theorem Zag_e (v : Nat) (V : Int) (hV : V = (v : Int)) (w : World) (hv : v < 18446744073709551616) (E : Int) (hE : zag v = E) :
    Calls Try.prog 15 #[.int .u64 V] w fun e w' => e = .returned (.int .i64 E) ∧ w' = w := by subst hV; subst hE; exact Zag_any v w hv
theorem refZig_e (n : Int) (w : World) (h1 : -9223372036854775808 ≤ n) (h2 : n ≤ 9223372036854775807) (E : Int) (hE : zig n = E) :
    Calls Try.prog 14 #[.int .i64 n] w fun e w' => e = .returned (.int .u64 E) ∧ w' = w := by subst hE; exact refZig_any n w h1 h2
theorem refZag_e (v : Nat) (w : World) (hv : v < 18446744073709551616) (E : Int) (hE : zag v = E) :
    Calls Try.prog 16 #[.int .u64 v] w fun e w' => e = .returned (.int .i64 E) ∧ w' = w := by subst hE; exact refZag_any v w hv
theorem zig_nat (n : Int) (h1 : -9223372036854775808 ≤ n) (h2 : n ≤ 9223372036854775807) : ∃ z : Nat, zig n = z ∧ z < 18446744073709551616 := by
  refine ⟨(zig n).toNat, ?_, ?_⟩ <;> (unfold zig; split <;> omega)
theorem zag_bd (v : Nat) (hv : v < 18446744073709551616) : -9223372036854775808 ≤ zag v ∧ zag v ≤ 9223372036854775807 := by unfold zag; split <;> omega

set_option maxHeartbeats 4000000 in
theorem signs_any (n m : Int) (v : Nat) (w : World) (h1 : -9223372036854775808 ≤ n) (h2 : n ≤ 9223372036854775807) (h3 : -9223372036854775808 ≤ m) (h4 : m ≤ 9223372036854775807) (hv : v < 18446744073709551616) :
    Calls Try.prog 4 #[.int .i64 n, .int .i64 m, .int .u64 v] w fun e w' => e = .returned (.bool true) ∧ New w w' := by
  obtain ⟨z, hz, hzl⟩ := zig_nat n h1 h2
  obtain ⟨z2, hz2, _⟩ := zig_nat m h3 h4
  obtain ⟨g, hg⟩ : ∃ g, zag v = g := ⟨_, rfl⟩
  have hgb := zag_bd v hv
  rw [hg] at hgb
  have C1 := Bx.mk (fun w => Zig_e n n rfl w h1 h2 z hz)
  have C2 := Bx.mk (fun w => refZig_e n w h1 h2 z hz)
  have C3 := Bx.mk (fun w => Zag_e v v rfl w hv g hg)
  have C4 := Bx.mk (fun w => refZag_e v w hv g hg)
  have C5 := Bx.mk (fun w => Zag_e z z rfl w hzl n (zag_zig n z hz))
  have C6 := Bx.mk (fun w => Zig_e g g rfl w hgb.1 hgb.2 v (by rw [← hg]; exact zig_zag v))
  have C7 := Bx.mk (fun w => Zig_e m m rfl w h3 h4 z2 hz2)
  have HZ := Bx.mk (show (0 ≤ n ∧ 0 ≤ m ∧ n ≤ m) ∨ (n < 0 ∧ m < 0 ∧ m ≤ n) → (z : Int) ≤ (z2 : Int) by
    rw [← hz, ← hz2]; unfold zig; intro h; split <;> split <;> omega)
  clear hz hz2 hg hgb h1 h2 h3 h4
  by_cases hc : (0 ≤ n ∧ 0 ≤ m ∧ n ≤ m) ∨ (n < 0 ∧ m < 0 ∧ m ≤ n)
  · have hle := HZ.out hc
    go_enter Try.func4, Try.ntmps4
    repeat' (first | (first | (go_at_call 11; (with_reducible refine (awake_any _).mono ?_); rintro e w1 ⟨rfl, hu1⟩; dsimp only) | (go_at_call 13; (with_reducible refine (C1.out _).mono ?_); rintro e w2 ⟨rfl, rfl⟩; dsimp only) | (go_at_call 13; (with_reducible refine (C6.out _).mono ?_); rintro e w2 ⟨rfl, rfl⟩; dsimp only) | (go_at_call 13; (with_reducible refine (C7.out _).mono ?_); rintro e w2 ⟨rfl, rfl⟩; dsimp only) | (go_at_call 14; (with_reducible refine (C2.out _).mono ?_); rintro e w2 ⟨rfl, rfl⟩; dsimp only) | (go_at_call 15; (with_reducible refine (C3.out _).mono ?_); rintro e w2 ⟨rfl, rfl⟩; dsimp only) | (go_at_call 15; (with_reducible refine (C5.out _).mono ?_); rintro e w2 ⟨rfl, rfl⟩; dsimp only) | (go_at_call 16; (with_reducible refine (C4.out _).mono ?_); rintro e w2 ⟨rfl, rfl⟩; dsimp only)) | go_values | go_skip | go_guarded | go_step | go_upon | go_back)
    all_goals (first | (go_ret; exact ⟨rfl, hu1⟩) | (go_ret; exact ⟨congrArg (fun z => Ending.returned (Value.bool z)) (decide_eq_true hle), hu1⟩) | (exfalso; omega))
  · go_enter Try.func4, Try.ntmps4
    repeat' (first | (first | (go_at_call 11; (with_reducible refine (awake_any _).mono ?_); rintro e w1 ⟨rfl, hu1⟩; dsimp only) | (go_at_call 13; (with_reducible refine (C1.out _).mono ?_); rintro e w2 ⟨rfl, rfl⟩; dsimp only) | (go_at_call 13; (with_reducible refine (C6.out _).mono ?_); rintro e w2 ⟨rfl, rfl⟩; dsimp only) | (go_at_call 13; (with_reducible refine (C7.out _).mono ?_); rintro e w2 ⟨rfl, rfl⟩; dsimp only) | (go_at_call 14; (with_reducible refine (C2.out _).mono ?_); rintro e w2 ⟨rfl, rfl⟩; dsimp only) | (go_at_call 15; (with_reducible refine (C3.out _).mono ?_); rintro e w2 ⟨rfl, rfl⟩; dsimp only) | (go_at_call 15; (with_reducible refine (C5.out _).mono ?_); rintro e w2 ⟨rfl, rfl⟩; dsimp only) | (go_at_call 16; (with_reducible refine (C4.out _).mono ?_); rintro e w2 ⟨rfl, rfl⟩; dsimp only)) | go_values | go_skip | go_guarded | go_step | go_upon | go_back)
    all_goals (first | (go_ret; exact ⟨rfl, hu1⟩) | (exfalso; omega))
end Go.Proofs.Ytdcebkilekdllaa
