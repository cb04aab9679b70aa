/- The walks of the reader of bits. -/
import Derived.Test.YtefnpkmbjabcmaaDoorBi4
namespace Go.Proofs.YtefnpkmbjabcmaaDoor
open Go.RowKit

section
variable {w w' : World} {g a : Nat} {v : Value} {P : List (BitVec 8)}
end

theorem and_bit8 (y : BitVec 8) (r : Nat) : bits .and .u8 ((y.toNat : Int) / 2 ^ r) 1 = ((y.getLsbD r).toNat : Int) := by
  have e : ((y.toNat : Int) / 2 ^ r) = ((y.toNat / 2 ^ r : Nat) : Int) := by rw [Int.natCast_ediv, Int.natCast_pow]; rfl
  rw [e, show (1 : Int) = ((1 : Nat) : Int) from rfl, u8_and_nat _ _ (Nat.lt_of_le_of_lt (Nat.div_le_self _ _) y.isLt) (by decide), Nat.and_one_is_mod, BitVec.getLsbD, Nat.testBit, Nat.shiftRight_eq_div_pow, Nat.one_and_eq_mod_two]
  rcases Nat.mod_two_eq_zero_or_one (y.toNat / 2 ^ r) with h | h <;> simp [h]
theorem or64 (V k : Nat) (b : Bool) (hV : V < 2 ^ k) (hk : k < 64) : bits .or .u64 (V : Int) ((b.toNat : Int) * 2 ^ k % 18446744073709551616) = ((V + b.toNat * 2 ^ k : Nat) : Int) := by
  have hp : 2 ^ k < 18446744073709551616 := Nat.lt_of_lt_of_eq (Nat.pow_lt_pow_right (by omega) hk) (by decide)
  have hb : b.toNat * 2 ^ k < 18446744073709551616 := by cases b <;> simp <;> omega
  have e : ((b.toNat : Int) * 2 ^ k % 18446744073709551616) = ((b.toNat * 2 ^ k : Nat) : Int) := by
    have : ((b.toNat : Int) * 2 ^ k) = ((b.toNat * 2 ^ k : Nat) : Int) := by rw [Int.natCast_mul, Int.natCast_pow]; rfl
    rw [this]; omega
  rw [e, u64_or_nat _ _ (by omega) hb]
  congr 1
  have := Nat.two_pow_add_eq_or_of_lt hV b.toNat
  rw [Nat.mul_comm] at this
  rw [Nat.add_comm, this, Nat.or_comm]

/-- what is left of the last byte -/
theorem last_bits (P : List (BitVec 8)) (a lf : Nat) (hlf : 8 * P.length = lf + a) (h0 : 0 < lf) (h8 : lf < 8) : ((Bi.bitsOf P).drop a).any id = decide (¬ (P.getD (P.length - 1) 0#8).toNat / 2 ^ (a % 8) = 0) := by
  have hlen : ((Bi.bitsOf P).drop a).length = lf := by rw [List.length_drop, Bi.bitsOf_length]; omega
  have key : ∀ i, ((Bi.bitsOf P).drop a).getD i false = ((P.getD (P.length - 1) 0#8).toNat / 2 ^ (a % 8)).testBit i := by
    intro i
    rw [Nat.testBit_div_two_pow, List.getD_eq_getElem?_getD, List.getElem?_drop, ← List.getD_eq_getElem?_getD, Bi.bitsOf_getD]
    by_cases hi : i < lf
    · rw [show (a + i) / 8 = P.length - 1 by omega, show (a + i) % 8 = i + a % 8 by omega]; rfl
    · have e1 : P.getD ((a + i) / 8) 0#8 = 0#8 := by rw [List.getD_eq_getElem?_getD, List.getElem?_eq_none (by omega)]; rfl
      rw [e1]
      have e2 : (P.getD (P.length - 1) 0#8).toNat < 2 ^ (i + a % 8) := Nat.lt_of_lt_of_le (P.getD (P.length - 1) 0#8).isLt (Nat.pow_le_pow_right (n := 2) (i := 8) (by omega) (by omega))
      rw [Nat.testBit_lt_two_pow e2]; simp
  generalize (P.getD (P.length - 1) 0#8).toNat / 2 ^ (a % 8) = z at *
  generalize (Bi.bitsOf P).drop a = R at *
  rw [Bool.eq_iff_iff, List.any_eq_true, decide_eq_true_eq]
  constructor
  · rintro ⟨b, hb, hbt⟩ hz
    obtain ⟨i, hi, rfl⟩ := List.mem_iff_getElem.1 hb
    have := key i
    rw [hz, Nat.zero_testBit, List.getD_eq_getElem?_getD, List.getElem?_eq_getElem hi] at this
    simp at this hbt
    rw [this] at hbt; cases hbt
  · intro hz
    obtain ⟨i, hi⟩ := Nat.exists_testBit_of_ne_zero hz
    have := key i
    rw [hi, List.getD_eq_getElem?_getD] at this
    rcases Nat.lt_or_ge i R.length with hl | hl
    · rw [List.getElem?_eq_getElem hl] at this
      exact ⟨R[i], List.getElem_mem hl, by simpa using this⟩
    · rw [List.getElem?_eq_none hl] at this; cases this
end Go.Proofs.YtefnpkmbjabcmaaDoor
