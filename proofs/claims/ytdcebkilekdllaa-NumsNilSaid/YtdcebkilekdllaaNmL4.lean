/- The law of nil objects. -/
import Derived.Test.YtdcebkilekdllaaNm2
namespace Go.Proofs.Ytdcebkilekdllaa
open Go.RowKit

theorem zig_nat' (n : Int) (h1 : -9223372036854775808 ≤ n) (h2 : n ≤ 9223372036854775807) : ∃ z : Nat, zig n = z ∧ z < 18446744073709551616 := by
  refine ⟨(zig n).toNat, ?_, ?_⟩ <;> (unfold zig; split <;> omega)
theorem tryU_nil (F : Value) (w : World) : Calls Try.prog 46 #[.pointer none, F] w fun e w' => e = .returned (.tuple #[.int .u64 0, .int .i64 10]) ∧ w' = w := by
  go_enter Try.func46, Try.ntmps46
  repeat' (first | fail | go_values | go_skip | go_guarded | go_step | go_upon | go_back)
  go_returns
  exact ⟨rfl, rfl⟩
theorem tryI_nil (F : Value) (w : World) : Calls Try.prog 44 #[.pointer none, F] w fun e w' => e = .returned (.tuple #[.int .i64 0, .int .i64 10]) ∧ w' = w := by
  go_enter Try.func44, Try.ntmps44
  repeat' (first | fail | go_values | go_skip | go_guarded | go_step | go_upon | go_back)
  go_returns
  exact ⟨rfl, rfl⟩
theorem GetVar_nil (w : World) : Calls Try.prog 33 #[.pointer none] w fun e w' => e = .returned (.tuple #[.int .u64 0, .int .i64 10]) ∧ w' = w := by
  go_enter Try.func33, Try.ntmps33
  repeat' (first | (go_at_call 46; go_loud ((with_reducible refine (tryU_nil _ _).mono ?_); rintro e w1 ⟨rfl, rfl⟩; dsimp only)) | go_values | go_skip | go_guarded | go_step | go_upon | go_back)
  go_returns
  exact ⟨rfl, rfl⟩
theorem Zag0 (w : World) : Calls Try.prog 15 #[.int .u64 0] w fun e w' => e = .returned (.int .i64 0) ∧ w' = w := Zag_any 0 w (by decide)
theorem GetInt_nil (w : World) : Calls Try.prog 32 #[.pointer none] w fun e w' => e = .returned (.tuple #[.int .i64 0, .int .i64 10]) ∧ w' = w := by
  go_enter Try.func32, Try.ntmps32
  repeat' (first | (first | (go_at_call 33; go_loud ((with_reducible refine (GetVar_nil _).mono ?_); rintro e w1 ⟨rfl, rfl⟩; dsimp only)) | (go_at_call 15; go_loud ((with_reducible refine (Zag0 _).mono ?_); rintro e w1 ⟨rfl, rfl⟩; dsimp only))) | go_values | go_skip | go_guarded | go_step | go_upon | go_back)
  go_returns
  exact ⟨rfl, rfl⟩
theorem GetIn_nil (lo hi : Int) (w : World) : Calls Try.prog 29 #[.pointer none, .int .i64 lo, .int .i64 hi] w fun e w' => e = .returned (.tuple #[.int .i64 0, .int .i64 10]) ∧ New w w' := by
  have hmf : ∀ (fn : Fn) (first cap : Array Value) (w : World), (Instr.makeFunc fn first cap).run Try.prog w = .ok (.func fn first cap) w := fun _ _ _ _ => rfl
  by_cases h : hi < lo
  all_goals
    go_enter Try.func29, Try.ntmps29
    repeat' (first | (go_at_call 44; go_loud ((with_reducible refine (tryI_nil _ _).mono ?_); rintro e w1 ⟨rfl, rfl⟩; dsimp only)) | go_values | go_skip | go_guarded | go_step | go_upon | go_back)
    go_returns
    exact ⟨rfl, ((Upd.refl _ _).alloc _).alloc _⟩
theorem PutIn_nil (n lo hi : Int) (w : World) : Calls Try.prog 19 #[.pointer none, .int .i64 n, .int .i64 lo, .int .i64 hi] w fun e w' => e = .returned (.int .i64 10) ∧ w' = w := by
  go_enter Try.func19, Try.ntmps19
  repeat' (first | fail | go_values | go_skip | go_guarded | go_step | go_upon | go_back)
  go_ret
  exact ⟨rfl, rfl⟩
theorem PutInt_nil (n : Int) (w : World) (h1 : -9223372036854775808 ≤ n) (h2 : n ≤ 9223372036854775807) : Calls Try.prog 35 #[.pointer none, .int .i64 n] w fun e w' => e = .returned (.int .i64 10) ∧ w' = w := by
  obtain ⟨z, hz, hzl⟩ := zig_nat' n h1 h2
  have HZ := Bx.mk (fun w => Zig_e n n rfl w h1 h2 z hz)
  clear h1 h2
  go_enter Try.func35, Try.ntmps35
  repeat' (first | (first | (go_at_call 13; go_loud ((with_reducible refine (HZ.out _).mono ?_); rintro e w1 ⟨rfl, rfl⟩; dsimp only)) | (go_at_call 34; go_loud ((with_reducible refine (PutVar_nil z z _ rfl hzl).mono ?_); rintro e w1 ⟨rfl, rfl⟩; dsimp only))) | go_values | go_skip | go_guarded | go_step | go_upon | go_back)
  go_ret
  exact ⟨rfl, rfl⟩
set_option maxHeartbeats 1000000 in
theorem numsNil_any (v : Nat) (n lo hi : Int) (w : World) (hv : v < 18446744073709551616) (h1 : -9223372036854775808 ≤ n) (h2 : n ≤ 9223372036854775807) :
    Calls Try.prog 10 #[.int .u64 v, .int .i64 n, .int .i64 lo, .int .i64 hi] w fun e w' => e = .returned (.bool true) ∧ New w w' := by
  have HI := Bx.mk (fun w => PutInt_nil n w h1 h2)
  clear h1 h2
  go_enter Try.func10, Try.ntmps10
  repeat' (first | (first | (go_at_call 11; go_loud ((with_reducible refine (awake_any _).mono ?_); rintro e w3 ⟨rfl, hu3⟩; dsimp only)) | (go_at_call 33; go_loud ((with_reducible refine (GetVar_nil _).mono ?_); rintro e w1 ⟨rfl, rfl⟩; dsimp only)) | (go_at_call 32; go_loud ((with_reducible refine (GetInt_nil _).mono ?_); rintro e w1 ⟨rfl, rfl⟩; dsimp only)) | (go_at_call 29; go_loud ((with_reducible refine (GetIn_nil _ _ _).mono ?_); rintro e w2 ⟨rfl, hu2⟩; dsimp only)) | (go_at_call 34; go_loud ((with_reducible refine (PutVar_nil v v _ rfl hv).mono ?_); rintro e w1 ⟨rfl, rfl⟩; dsimp only)) | (go_at_call 35; go_loud ((with_reducible refine (HI.out _).mono ?_); rintro e w1 ⟨rfl, rfl⟩; dsimp only)) | (go_at_call 19; go_loud ((with_reducible refine (PutIn_nil _ _ _ _).mono ?_); rintro e w1 ⟨rfl, rfl⟩; dsimp only))) | go_values | go_skip | go_guarded | go_step | go_upon | go_back)
  go_ret
  exact ⟨rfl, hu2.trans hu3⟩
end Go.Proofs.Ytdcebkilekdllaa
