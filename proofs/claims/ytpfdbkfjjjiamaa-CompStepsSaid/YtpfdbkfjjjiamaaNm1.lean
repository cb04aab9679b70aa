/- Numbers in groups: the walks of groups, PutVar, Zig. -/
import Derived.Test.YtpfdbkfjjjiamaaBi8
import Derived.Test.YtpfdbkfjjjiamaaWid
namespace Go.Proofs.Ytpfdbkfjjjiamaa
open Go.RowKit

/-- how many groups a number takes -/
def grp (v : Nat) : Nat := max 1 ((Lib.bitLen v + 3) / 4)
theorem grp_bd (v : Nat) : 1 ≤ grp v ∧ grp v ≤ 16 := by have := bitLen_le v; unfold grp; omega
def varX (v i n : Nat) : Nat := v / 2 ^ (4 * i) % 16 + (if i + 1 < n then 16 else 0)
theorem varX_lt (v i n : Nat) : varX v i n < 32 := by unfold varX; split <;> omega
def varTo (v n k : Nat) : List Bool := (List.range k).flatMap fun i => Bi.numBits (varX v i n) 5
def varBits (v : Nat) : List Bool := varTo v (grp v) (grp v)
theorem varTo_succ (v n k : Nat) : varTo v n (k + 1) = varTo v n k ++ Bi.numBits (varX v k n) 5 := by simp [varTo, List.range_succ]
theorem varTo_length (v n k : Nat) : (varTo v n k).length = 5 * k := by
  induction k with
  | zero => rfl
  | succ k ih => rw [varTo_succ, List.length_append, ih, Bi.numBits_length]; omega

theorem and15 (z : Nat) (hz : z < 18446744073709551616) : bits .and .u64 (z : Int) 15 = ((z % 16 : Nat) : Int) := by
  rw [show (15 : Int) = ((15 : Nat) : Int) from rfl, u64_and_nat _ _ hz (by decide), show (15 : Nat) = 2 ^ 4 - 1 from rfl, Nat.and_two_pow_sub_one_eq_mod]
theorem or16 (y : Nat) (hy : y < 16) : bits .or .u64 (y : Int) 16 = ((y + 16 : Nat) : Int) := by
  rw [show (16 : Int) = ((16 : Nat) : Int) from rfl, u64_or_nat _ _ (by omega) (by decide)]
  congr 1
  have := Nat.two_pow_add_eq_or_of_lt (i := 4) hy 1
  rw [Nat.or_comm]
  exact this.symm.trans (by omega)
theorem Wrote.trans {w w1 w2 : World} {base g : Nat} {v v1 v2 : Value} (h1 : Wrote base g v v1 w w1) (h2 : Wrote base g v1 v2 w1 w2) : Wrote base g v v2 w w2 := by
  refine ⟨h1.upd.then h2.upd (fun b hb => ?_), fun b hb => ?_⟩
  · rcases hb with rfl | hb
    · exact .inl (.inl rfl)
    · exact (h1.at_ b hb).elim (fun e => .inl (.inr e)) .inr
  · rcases h2.at_ b hb with h | h
    · exact h1.at_ b h
    · exact .inr (Nat.le_trans h1.upd.size h)
def pvErr (L : List Bool) (x : Nat) : Int := if 1048576 < L.length + 5 * grp x then 3 else 0
def pvRes (L : List Bool) (x : Nat) : List Bool := if pvErr L x = 0 then L ++ varBits x else L
theorem fiveErr (L : List Bool) (x : Nat) (hx : x < 32) (hL : L.length + 5 ≤ 1048576) : Bi.putErr L x 5 = 0 := by
  unfold Bi.putErr
  rw [if_neg (by omega), if_neg (by simp [Nat.div_eq_of_lt (show x < 2 ^ 5 from hx)]), if_neg (by simp; omega)]
theorem fiveRes (L : List Bool) (x : Nat) (hx : x < 32) (hL : L.length + 5 ≤ 1048576) : Bi.putRes L x 5 = L ++ Bi.numBits x 5 := by
  rw [Bi.putRes, if_pos (fiveErr L x hx hL)]; rfl

/-- signs -/
def zig (n : Int) : Int := if n < 0 then -2 * n - 1 else 2 * n
theorem xor_ones (x : Nat) (hx : x < 18446744073709551616) : bits .xor .u64 (x : Int) 18446744073709551615 = ((18446744073709551615 - x : Nat) : Int) := by
  rw [show (18446744073709551615 : Int) = ((18446744073709551615 : Nat) : Int) from rfl, u64_xor_nat _ _ hx (by decide)]
  congr 1
  have h1 : BitVec.ofNat 64 x ^^^ BitVec.allOnes 64 = ~~~ BitVec.ofNat 64 x := BitVec.xor_allOnes
  have h2 := congrArg BitVec.toNat h1
  rw [BitVec.toNat_xor, BitVec.toNat_not, BitVec.toNat_ofNat, BitVec.toNat_allOnes, Nat.mod_eq_of_lt (show x < 2 ^ 64 from hx)] at h2
  exact h2
theorem xor_none (x : Nat) (hx : x < 18446744073709551616) : bits .xor .u64 (x : Int) 0 = (x : Int) := by
  rw [show (0 : Int) = ((0 : Nat) : Int) from rfl, u64_xor_nat _ _ hx (by decide), Nat.xor_zero]
theorem zig_eq (n : Int) (h1 : -9223372036854775808 ≤ n) (h2 : n ≤ 9223372036854775807) : bits .xor .u64 (IntKind.u64.wrap (wrap64 (n * 2))) (IntKind.u64.wrap (n / 9223372036854775808)) = zig n := by
  by_cases h : n < 0
  · obtain ⟨x, hx⟩ : ∃ x : Nat, n * 2 + 18446744073709551616 = x := ⟨(n * 2 + 18446744073709551616).toNat, by omega⟩
    have e1 : IntKind.u64.wrap (wrap64 (n * 2)) = (x : Int) := by rw [IntKind.wrap_u64]; unfold wrap64; omega
    have e2 : IntKind.u64.wrap (n / 9223372036854775808) = 18446744073709551615 := by rw [IntKind.wrap_u64]; omega
    rw [e1, e2, xor_ones x (by omega), zig, if_pos h]
    omega
  · obtain ⟨x, hx⟩ : ∃ x : Nat, n * 2 = x := ⟨(n * 2).toNat, by omega⟩
    have e1 : IntKind.u64.wrap (wrap64 (n * 2)) = (x : Int) := by rw [IntKind.wrap_u64]; unfold wrap64; omega
    have e2 : IntKind.u64.wrap (n / 9223372036854775808) = 0 := by rw [IntKind.wrap_u64]; omega
    rw [e1, e2, xor_none x (by omega), zig, if_neg h]
    omega
theorem Zig_any (n : Int) (w : World) (h1 : -9223372036854775808 ≤ n) (h2 : n ≤ 9223372036854775807) :
    Calls Try.prog 59 #[.int .i64 n] w fun e w' => e = .returned (.int .u64 (zig n)) ∧ w' = w := by
  have HE := Bx.mk (zig_eq n h1 h2)
  clear h1 h2
  go_enter Try.func59, Try.ntmps59
  repeat' (first | fail | go_values | go_skip | go_guarded | go_step | go_upon | go_back)
  go_ret
  exact ⟨congrArg (fun z => Ending.returned (Value.int .u64 z)) HE.out, rfl⟩

def n30 : List (BitVec 8) := [48, 0]
theorem n30_new (w : World) : Rd (w.alloc (.cells #[.int .u8 48, .int .u8 0] 5)) (some ⟨w.heap.size, 0, none⟩) (u8s n30) := rd_new w (u8s n30) _
theorem Zig_e (n N : Int) (hn : N = n) (w : World) (h1 : -9223372036854775808 ≤ n) (h2 : n ≤ 9223372036854775807) (E : Int) (hE : zig n = E) :
    Calls Try.prog 59 #[.int .i64 N] w fun e w' => e = .returned (.int .u64 E) ∧ w' = w := by subst hE; subst hn; exact Zig_any _ w h1 h2
theorem Width_e (lo hi : Int) (w : World) (h1 : -9223372036854775808 ≤ lo) (h2 : lo ≤ 9223372036854775807) (h3 : -9223372036854775808 ≤ hi) (h4 : hi ≤ 9223372036854775807) (E : Int) (hE : (wid lo hi : Int) = E) :
    Calls Try.prog 61 #[.int .i64 lo, .int .i64 hi] w fun e w' => e = .returned (.int .i64 E) ∧ w' = w := by subst hE; exact Width_any lo hi w h1 h2 h3 h4

def v16 : List Bool := [false, false, false, false, true, true, false, false, false, false]
end Go.Proofs.Ytpfdbkfjjjiamaa
