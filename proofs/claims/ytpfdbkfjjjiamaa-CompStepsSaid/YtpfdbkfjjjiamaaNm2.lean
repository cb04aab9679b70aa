/- Signs back; the law of signs. -/
import Derived.Test.YtpfdbkfjjjiamaaNm1
namespace Go.Proofs.Ytpfdbkfjjjiamaa
open Go.RowKit

theorem i64_xor_ones (a : Nat) (ha : a < 9223372036854775808) : bits .xor .i64 (a : Int) (-1) = -1 - (a : Int) := by
  show IntKind.i64.wrap ((BitVec.ofInt 64 (a : Int) ^^^ BitVec.ofInt 64 (-1)).toNat : Int) = _
  rw [show BitVec.ofInt 64 (-1) = BitVec.allOnes 64 from by decide, BitVec.xor_allOnes, BitVec.toNat_not, ofInt_u64 a (by omega), IntKind.wrap_i64]
  omega
theorem i64_xor_none (a : Nat) (ha : a < 9223372036854775808) : bits .xor .i64 (a : Int) 0 = (a : Int) := by
  show IntKind.i64.wrap ((BitVec.ofInt 64 (a : Int) ^^^ BitVec.ofInt 64 0).toNat : Int) = _
  rw [show BitVec.ofInt 64 0 = 0#64 from by decide, BitVec.xor_zero, ofInt_u64 a (by omega), IntKind.wrap_i64]
  omega
def zag (v : Nat) : Int := if v % 2 = 1 then -1 - ((v / 2 : Nat) : Int) else ((v / 2 : Nat) : Int)
theorem and1 (v : Nat) (hv : v < 18446744073709551616) : bits .and .u64 (v : Int) 1 = ((v % 2 : Nat) : Int) := by
  rw [show (1 : Int) = ((1 : Nat) : Int) from rfl, u64_and_nat _ _ hv (by decide), Nat.and_one_is_mod]
theorem Zag_any (v : Nat) (w : World) (hv : v < 18446744073709551616) :
    Calls Try.prog 60 #[.int .u64 v] w fun e w' => e = .returned (.int .i64 (zag v)) ∧ w' = w := by
  have hA := and1 v hv
  have eh : (v : Int) / 2 = ((v / 2 : Nat) : Int) := by omega
  have hh : v / 2 < 9223372036854775808 := by omega
  have HZ := Bx.mk (show zag v = if v % 2 = 1 then -1 - ((v / 2 : Nat) : Int) else ((v / 2 : Nat) : Int) from rfl)
  have hx1 := i64_xor_ones (v / 2) hh
  have hx0 := i64_xor_none (v / 2) hh
  have hw : IntKind.i64.wrap ((v / 2 : Nat) : Int) = ((v / 2 : Nat) : Int) := by rw [IntKind.wrap_i64]; omega
  rcases Nat.mod_two_eq_zero_or_one v with hp | hp
  · rw [hp] at hA
    have HE := Bx.mk (show zag v = ((v / 2 : Nat) : Int) by rw [HZ.out, hp]; rfl)
    rw [HE.out]
    generalize v / 2 = h at *
    go_enter Try.func60, Try.ntmps60
    repeat' (first | fail | go_values | go_skip | go_guarded | go_step | go_upon | go_back)

    go_ret
    exact ⟨rfl, rfl⟩
  · rw [hp] at hA
    have HE := Bx.mk (show zag v = -1 - ((v / 2 : Nat) : Int) by rw [HZ.out, hp]; rfl)
    rw [HE.out]
    generalize v / 2 = h at *
    go_enter Try.func60, Try.ntmps60
    repeat' (first | fail | go_values | go_skip | go_guarded | go_step | go_upon | go_back)

    go_ret
    exact ⟨rfl, rfl⟩
theorem refZig_any (n : Int) (w : World) (h1 : -9223372036854775808 ≤ n) (h2 : n ≤ 9223372036854775807) :
    Calls Try.prog 51 #[.int .i64 n] w fun e w' => e = .returned (.int .u64 (zig n)) ∧ w' = w := by
  by_cases h : n < 0
  · have HE := Bx.mk (show zig n = -2 * n - 1 from if_pos h)
    have e : IntKind.u64.wrap (IntKind.u64.wrap (2 * IntKind.u64.wrap (IntKind.i64.wrap (-1 - n))) + 1) = -2 * n - 1 := by
      rw [IntKind.wrap_u64, IntKind.wrap_u64, IntKind.wrap_u64, IntKind.wrap_i64]; omega
    rw [HE.out]
    go_enter Try.func51, Try.ntmps51
    repeat' (first | fail | go_values | go_skip | go_guarded | go_step | go_upon | go_back)

    go_ret
    exact ⟨congrArg (fun z => Ending.returned (Value.int .u64 z)) (by omega), rfl⟩
  · have HE := Bx.mk (show zig n = 2 * n from if_neg h)
    rw [HE.out]
    have h0 : 0 ≤ n := by omega
    go_enter Try.func51, Try.ntmps51
    repeat' (first | fail | go_values | go_skip | go_guarded | go_step | go_upon | go_back)

    go_ret
    exact ⟨congrArg (fun z => Ending.returned (Value.int .u64 z)) (by omega), rfl⟩
theorem zig_zag (v : Nat) : zig (zag v) = (v : Int) := by unfold zig zag; split <;> split <;> omega
theorem zag_zig (n : Int) (z : Nat) (hz : zig n = z) : zag z = n := by unfold zig at hz; unfold zag; split at hz <;> split <;> omega
end Go.Proofs.Ytpfdbkfjjjiamaa
