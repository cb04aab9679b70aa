/- How many bits a range takes. -/
import Derived.Test.YtpfdbkfjjjiamaaCalm
import Derived.Test.YtpfdbkfjjjiamaaLen
import Derived.Handy
namespace Go.Proofs.Ytpfdbkfjjjiamaa
open Go.RowKit

/-- the bits of a range -/
def wid (lo hi : Int) : Nat := if hi < lo then 0 else Lib.bitLen (hi - lo).toNat
theorem wid_pos {lo hi : Int} (h : ¬ hi < lo) : wid lo hi = Lib.bitLen (hi - lo).toNat := if_neg h
theorem Width_any (lo hi : Int) (w : World) (h1 : -9223372036854775808 ≤ lo) (h2 : lo ≤ 9223372036854775807) (h3 : -9223372036854775808 ≤ hi) (h4 : hi ≤ 9223372036854775807) :
    Calls Try.prog 61 #[.int .i64 lo, .int .i64 hi] w fun e w' => e = .returned (.int .i64 (wid lo hi)) ∧ w' = w := by
  by_cases h : hi < lo
  · have HE := Bx.mk (show wid lo hi = 0 from if_pos h)
    rw [HE.out]
    go_enter Try.func61, Try.ntmps61
    go_wp2
    go_ret
    exact ⟨rfl, rfl⟩
  · have HE := Bx.mk (wid_pos h)
    rw [HE.out]
    have B1 := Bx.mk h1
    have B2 := Bx.mk h2
    have B3 := Bx.mk h3
    have B4 := Bx.mk h4
    have hle : lo ≤ hi := by omega
    have e : IntKind.u64.wrap (IntKind.u64.wrap hi - IntKind.u64.wrap lo) = hi - lo := by
      rw [IntKind.wrap_u64, IntKind.wrap_u64, IntKind.wrap_u64]; omega
    clear h h1 h2 h3 h4
    go_enter Try.func61, Try.ntmps61
    repeat' (first | (go_at_call 65; (with_reducible refine (Len64_any (hi - lo) _ (by omega) (by have := B1.out; have := B4.out; omega)).mono ?_); rintro e' w1 ⟨rfl, rfl⟩; dsimp only) | go_values | go_skip | go_guarded | go_step | go_upon | go_back)
    go_ret
    exact ⟨rfl, rfl⟩
theorem bitLen_half (d : Nat) (h : 0 < d) (hd : d < 18446744073709551616) : Lib.bitLen d = Lib.bitLen (d / 2) + 1 := by
  rw [Lib.bitLen_half d (by omega) hd]; omega
theorem bitLenAux_le : ∀ f x, Lib.bitLenAux f x ≤ f := by
  intro f
  induction f with
  | zero => intro x; exact Nat.le_refl _
  | succ f ih => intro x; rw [Lib.bitLenAux]; split; omega; have := ih (x / 2); omega
theorem bitLen_le (x : Nat) : Lib.bitLen x ≤ 64 := bitLenAux_le 64 x
theorem bitLen_zero : Lib.bitLen 0 = 0 := rfl

theorem refWidth_any (lo hi : Int) (w : World) (h1 : -9223372036854775808 ≤ lo) (h2 : lo ≤ 9223372036854775807) (h3 : -9223372036854775808 ≤ hi) (h4 : hi ≤ 9223372036854775807) :
    Calls Try.prog 56 #[.int .i64 lo, .int .i64 hi] w fun e w' => e = .returned (.int .i64 (wid lo hi)) ∧ w' = w := by
  by_cases h : hi < lo
  · have HE := Bx.mk (show wid lo hi = 0 from if_pos h)
    rw [HE.out]
    go_enter Try.func56, Try.ntmps56
    go_wp2
    go_ret
    exact ⟨rfl, rfl⟩
  · have HE := Bx.mk (wid_pos h)
    rw [HE.out]
    have hle : lo ≤ hi := by omega
    obtain ⟨d0, hd⟩ : ∃ d0 : Nat, hi - lo = d0 := ⟨(hi - lo).toNat, by omega⟩
    have HD := Bx.mk (show d0 < 18446744073709551616 by omega)
    have e : IntKind.u64.wrap (IntKind.u64.wrap hi - IntKind.u64.wrap lo) = (d0 : Int) := by
      rw [IntKind.wrap_u64, IntKind.wrap_u64, IntKind.wrap_u64]; omega
    rw [hd, Int.toNat_natCast]
    have HL := Bx.mk (bitLen_le d0)
    clear h h1 h2 h3 h4 hd
    go_enter Try.func56, Try.ntmps56
    repeat' (first | fail | go_values | go_skip | go_guarded | go_step | go_upon | go_back)
    go_loop [5, 6] (fun n d => ∃ m z : Nat, n = .int .i64 m ∧ d = .int .u64 z ∧ Bx (m + Lib.bitLen z = Lib.bitLen d0) ∧ Bx (z < 18446744073709551616)) (fun _ d => (intOf d).toNat)
    case atStart => exact ⟨0, d0, rfl, rfl, ⟨by omega⟩, HD⟩
    case round =>
      obtain ⟨m, z, rfl, rfl, HM, HZ⟩ := hrel
      by_cases hz : 0 < z
      · have hm64 : m ≤ 64 := by have := HM.out; have := HL.out; omega
        have HH := Bx.mk (bitLen_half z hz HZ.out)
        have hC : IntKind.u64.wrap ((z : Int) / 2) = ((z / 2 : Nat) : Int) := by have := HZ.out; rw [IntKind.wrap_u64]; omega
        repeat' (first | fail | go_values | go_skip | go_guarded | go_step | go_upon | go_back)
        go_round
        case rel => exact ⟨m + 1, z / 2, by go_num, rfl, ⟨by have := HM.out; have := HH.out; omega⟩, ⟨by have := HZ.out; omega⟩⟩
        case measure => simp [intOf]; omega
      · obtain rfl : z = 0 := by omega
        have HM2 := Bx.mk (show m = Lib.bitLen d0 by have := HM.out; rw [bitLen_zero] at this; exact this)
        repeat' (first | fail | go_values | go_skip | go_guarded | go_step | go_upon | go_back)
        go_ret
        exact ⟨by rw [← HM2.out]; rfl, rfl⟩
end Go.Proofs.Ytpfdbkfjjjiamaa
