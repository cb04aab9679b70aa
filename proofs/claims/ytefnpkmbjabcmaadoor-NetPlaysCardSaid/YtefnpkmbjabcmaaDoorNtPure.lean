/- Plain mathematics of bits that are turned, and of the lowest bit of a word: no program in sight. -/
import Derived.Test.YtefnpkmbjabcmaaDoorBiPure
namespace Go.Proofs.YtefnpkmbjabcmaaDoor
namespace Nt
open Bi (Byte bitsOf pack packN byteOf nbytes)

def bit (p : List Byte) (i : Nat) : Bool := (p.getD (i / 8) 0#8).getLsbD (i % 8)
/-- is the i-th bit turned? -/
def hit (a : Int) (n : Nat) (i : Nat) : Bool := decide (a ≤ i ∧ (i : Int) < a + 32) && n.testBit ((i : Int) - a).toNat
def turnL (L : List Bool) (a : Int) (n : Nat) : List Bool := (List.range L.length).map fun i => L.getD i false ^^ hit a n i
def turned (p : List Byte) (a : Int) (n : Nat) : List Byte := pack (turnL (bitsOf p) a n)
/-- one bit the other way -/
def flip (p : List Byte) (j : Nat) : List Byte := p.set (j / 8) (p.getD (j / 8) 0#8 ^^^ BitVec.twoPow 8 (j % 8))

theorem turnL_length (L : List Bool) (a : Int) (n : Nat) : (turnL L a n).length = L.length := by simp [turnL]
theorem turned_length (p : List Byte) (a : Int) (n : Nat) : (turned p a n).length = p.length := by
  rw [turned, Bi.pack_length, nbytes, turnL_length, Bi.bitsOf_length]; omega
theorem turned_nbytes (p : List Byte) (a : Int) (n : Nat) : nbytes (turnL (bitsOf p) a n) = p.length := by
  rw [nbytes, turnL_length, Bi.bitsOf_length]; omega
theorem bits_ext {p q : List Byte} (hl : p.length = q.length) (h : ∀ i, i < 8 * p.length → bit p i = bit q i) : p = q := by
  apply List.ext_getElem hl
  intro k h1 h2
  apply Bi.byte_ext
  intro j hj
  have e := h (8 * k + j) (by omega)
  simp only [bit, show (8 * k + j) / 8 = k by omega, show (8 * k + j) % 8 = j by omega] at e
  simpa [h1, h2] using e
theorem turned_bit (p : List Byte) (a : Int) (n i : Nat) (h : i < 8 * p.length) : bit (turned p a n) i = (bit p i ^^ hit a n i) := by
  have hq : i / 8 < nbytes (turnL (bitsOf p) a n) := by rw [turned_nbytes]; omega
  have hL : i < (bitsOf p).length := by rw [Bi.bitsOf_length]; exact h
  rw [bit, turned, pack, Bi.packN_getD _ _ _ hq, Bi.byteOf_bit _ _ _ (by omega), show 8 * (i / 8) + i % 8 = i by omega]
  simp only [turnL, List.getD_eq_getElem?_getD, List.getElem?_map, List.getElem?_range hL, Option.map_some, Option.getD_some]
  rw [← List.getD_eq_getElem?_getD, Bi.bitsOf_getD]; rfl
theorem flip_length (p : List Byte) (j : Nat) : (flip p j).length = p.length := by simp [flip]
theorem flip_bit (p : List Byte) (j i : Nat) (h : i < 8 * p.length) : bit (flip p j) i = (bit p i ^^ decide (i = j)) := by
  unfold bit flip
  have hl : i / 8 < p.length := by omega
  simp only [List.getD_eq_getElem?_getD, List.getElem?_set]
  by_cases hq : j / 8 = i / 8
  · rw [if_pos hq, if_pos (by omega), hq, Option.getD_some, BitVec.getLsbD_xor, BitVec.getLsbD_twoPow]
    by_cases hr : j % 8 = i % 8
    · have : i = j := by omega
      subst this
      have : i % 8 < 8 := by omega
      simp [this]
    · have : ¬ i = j := by omega
      simp [this, hr]
  · rw [if_neg hq]
    have : ¬ i = j := by intro e; subst e; exact hq rfl
    simp [this]
theorem turned_zero (p : List Byte) (a : Int) : turned p a 0 = p := by
  apply bits_ext (turned_length _ _ _)
  intro i hi
  rw [turned_length] at hi
  rw [turned_bit _ _ _ _ hi]
  simp [hit]
theorem turned_twice (p : List Byte) (a : Int) (n : Nat) : turned (turned p a n) a n = p := by
  apply bits_ext (by rw [turned_length, turned_length])
  intro i hi
  rw [turned_length, turned_length] at hi
  rw [turned_bit _ _ _ _ (by rw [turned_length]; exact hi), turned_bit _ _ _ _ hi]
  cases bit p i <;> cases hit a n i <;> rfl
theorem hit_xor (a : Int) (n k i : Nat) (hk : k < 32) : hit a (n ^^^ 2 ^ k) i = (hit a n i ^^ decide ((i : Int) = a + k)) := by
  unfold hit
  rw [Nat.testBit_xor, Nat.testBit_two_pow]
  by_cases h : a ≤ i ∧ (i : Int) < a + 32
  · simp only [h, and_self, decide_true, Bool.true_and]
    congr 1
    apply decide_eq_decide.2
    omega
  · have : ¬ (i : Int) = a + k := by omega
    simp [h, this]
theorem turned_in (p : List Byte) (a : Int) (n k j : Nat) (hk : k < 32) (hj : (j : Int) = a + k) : turned p a (n ^^^ 2 ^ k) = flip (turned p a n) j := by
  apply bits_ext (by rw [turned_length, flip_length, turned_length])
  intro i hi
  rw [turned_length] at hi
  rw [turned_bit _ _ _ _ hi, flip_bit _ _ _ (by rw [turned_length]; exact hi), turned_bit _ _ _ _ hi, hit_xor _ _ _ _ hk, Bool.xor_assoc]
  congr 2
  apply decide_eq_decide.2
  omega
theorem turned_out (p : List Byte) (a : Int) (n k : Nat) (hk : k < 32) (hj : ¬ (0 ≤ a + k ∧ a + k < 8 * p.length)) : turned p a (n ^^^ 2 ^ k) = turned p a n := by
  apply bits_ext (by rw [turned_length, turned_length])
  intro i hi
  rw [turned_length] at hi
  rw [turned_bit _ _ _ _ hi, turned_bit _ _ _ _ hi, hit_xor _ _ _ _ hk]
  have : ¬ (i : Int) = a + k := by omega
  simp [this]
theorem pack_bitsOf (p : List Byte) : pack (bitsOf p) = p := by
  have e := turned_zero p 0
  have : turnL (bitsOf p) 0 0 = bitsOf p := by
    apply List.ext_getElem (turnL_length _ _ _)
    intro i h1 h2
    simp [turnL, hit, h2]
  rw [turned, this] at e; exact e

/-- the walk through a list of bits: those below k are turned -/
def upTo (L : List Bool) (a : Int) (n k : Nat) : List Bool := (turnL L a n).take k ++ L.drop k
theorem upTo_zero (L : List Bool) (a : Int) (n : Nat) : upTo L a n 0 = L := by simp [upTo]
theorem upTo_all (L : List Bool) (a : Int) (n : Nat) : upTo L a n L.length = turnL L a n := by
  simp only [upTo, List.drop_length, List.append_nil]
  rw [List.take_of_length_le (by rw [turnL_length]; exact Nat.le_refl _)]
theorem upTo_length (L : List Bool) (a : Int) (n k : Nat) (h : k ≤ L.length) : (upTo L a n k).length = L.length := by
  simp [upTo, turnL_length]; omega
theorem upTo_at (L : List Bool) (a : Int) (n k : Nat) (h : k < L.length) : (upTo L a n k).getD k false = L.getD k false := by
  have hl : ((turnL L a n).take k).length = k := by simp [turnL_length]; omega
  simp only [upTo, List.getD_eq_getElem?_getD]
  rw [List.getElem?_append_right (by omega), hl]
  simp
theorem turnL_get (L : List Bool) (a : Int) (n k : Nat) (h : k < L.length) : (turnL L a n)[k]? = some (L.getD k false ^^ hit a n k) := by
  simp [turnL, h]
theorem upTo_succ (L : List Bool) (a : Int) (n k : Nat) (h : k < L.length) : upTo L a n (k + 1) = (upTo L a n k).set k (L.getD k false ^^ hit a n k) := by
  apply List.ext_getElem?
  intro i
  have hl : ((turnL L a n).take k).length = k := by simp [turnL_length]; omega
  have hl' : ((turnL L a n).take (k + 1)).length = k + 1 := by simp [turnL_length]; omega
  have hU := upTo_length L a n k (by omega)
  rw [List.getElem?_set]
  by_cases hk : k = i
  · subst hk
    rw [if_pos rfl, if_pos (by omega), upTo, List.getElem?_append_left (by omega), List.getElem?_take, if_pos (by omega), turnL_get _ _ _ _ h]
  · rw [if_neg hk]
    simp only [upTo]
    by_cases hik : i < k
    · rw [List.getElem?_append_left (by omega), List.getElem?_append_left (by omega), List.getElem?_take, List.getElem?_take, if_pos (by omega), if_pos (by omega)]
    · rw [List.getElem?_append_right (by omega), List.getElem?_append_right (by omega), hl, hl', List.getElem?_drop, List.getElem?_drop]
      congr 1; omega
theorem upTo_same (L : List Bool) (a : Int) (n k : Nat) (h : k < L.length) (hh : hit a n k = false) : upTo L a n (k + 1) = upTo L a n k := by
  rw [upTo_succ _ _ _ _ h, hh, Bool.xor_false]
  apply List.ext_getElem?
  intro i
  rw [List.getElem?_set]
  by_cases hk : k = i
  · subst hk
    have hU := upTo_length L a n k (by omega)
    have e := upTo_at L a n k h
    rw [if_pos rfl, if_pos (by omega), ← e]
    simp [hU, h]
  · rw [if_neg hk]

theorem low (x : Nat) : 0 < x → ∃ k m, x = 2 ^ k * (2 * m + 1) := by
  induction x using Nat.strongRecOn with
  | ind x ih =>
    intro hx
    rcases Nat.mod_two_eq_zero_or_one x with h | h
    · obtain ⟨k, m, e⟩ := ih (x / 2) (by omega) (by omega)
      exact ⟨k + 1, m, by rw [Nat.pow_succ, Nat.mul_comm _ 2, Nat.mul_assoc, ← e]; omega⟩
    · exact ⟨0, x / 2, by omega⟩
theorem odd_bit (m i : Nat) : (2 * m + 1).testBit i = if i = 0 then true else m.testBit (i - 1) := by
  cases i with
  | zero => simp [Nat.testBit_zero]
  | succ i => rw [Nat.testBit_succ, show (2 * m + 1) / 2 = m by omega]; rfl
theorem even_bit (m i : Nat) : (2 * m).testBit i = if i = 0 then false else m.testBit (i - 1) := by
  cases i with
  | zero => simp [Nat.testBit_zero]
  | succ i => rw [Nat.testBit_succ, show (2 * m) / 2 = m by omega]; rfl
/-- the lowest bit of a word -/
theorem lowest (x : Nat) (h0 : 0 < x) (hx : x < 2 ^ 32) : ∃ k, k < 32 ∧ x &&& (x - 1) = x ^^^ 2 ^ k ∧ x &&& (2 ^ 32 - x) = 2 ^ k ∧ x ^^^ 2 ^ k < x := by
  obtain ⟨k, m, rfl⟩ := low x h0
  have hp : 0 < 2 ^ k := Nat.two_pow_pos k
  have hk : k < 32 := by
    rcases Nat.lt_or_ge k 32 with q | q
    · exact q
    · have := Nat.pow_le_pow_right (show 0 < 2 by omega) q
      have h3 : 2 ^ k * 1 ≤ 2 ^ k * (2 * m + 1) := Nat.mul_le_mul_left _ (by omega)
      omega
  have e1 : 2 ^ k * (2 * m + 1) - 1 = 2 ^ k * (2 * m) + (2 ^ k - 1) := by rw [Nat.mul_add]; omega
  have bx : ∀ i, (2 ^ k * (2 * m + 1)).testBit i = (decide (k ≤ i) && (2 * m + 1).testBit (i - k)) := fun i => Nat.testBit_two_pow_mul ..
  have h32 : 2 ^ 32 = 2 ^ k * (2 * 2 ^ (31 - k)) := by rw [Nat.mul_comm 2, ← Nat.pow_succ, ← Nat.pow_add]; congr 1; omega
  have hm : m < 2 ^ (31 - k) := by
    rw [h32] at hx
    have := Nat.lt_of_mul_lt_mul_left hx
    omega
  have e2 : 2 ^ 32 - 2 ^ k * (2 * m + 1) = 2 ^ k * (2 * (2 ^ (31 - k) - (m + 1)) + 1) := by
    rw [h32, ← Nat.mul_sub]; congr 1; omega
  have X : 2 ^ k * (2 * m + 1) ^^^ 2 ^ k = 2 ^ k * (2 * m) := by
    apply Nat.eq_of_testBit_eq
    intro i
    rw [Nat.testBit_xor, bx, Nat.testBit_two_pow_mul, Nat.testBit_two_pow, odd_bit, even_bit]
    by_cases hi : k ≤ i
    · by_cases hik : k = i
      · subst hik; simp
      · have : ¬ i - k = 0 := by omega
        simp [hi, hik, this]
    · have : ¬ k = i := by omega
      simp [hi, this]
  refine ⟨k, hk, ?_, ?_, ?_⟩
  · rw [X, e1]
    apply Nat.eq_of_testBit_eq
    intro i
    rw [Nat.testBit_and, bx, Nat.testBit_two_pow_mul_add _ (by omega), Nat.testBit_two_pow_mul, odd_bit, even_bit]
    by_cases hi : k ≤ i
    · have hik' : ¬ i < k := by omega
      by_cases hik : i - k = 0
      · simp [hik, hik']
      · simp only [hik, hik', if_false, hi, decide_true, Bool.true_and]
        cases m.testBit (i - k - 1) <;> simp [hi]
    · simp [hi]
  · rw [e2]
    apply Nat.eq_of_testBit_eq
    intro i
    rw [Nat.testBit_and, bx, Nat.testBit_two_pow_mul, odd_bit, odd_bit, Nat.testBit_two_pow]
    by_cases hi : k ≤ i
    · by_cases hik : i - k = 0
      · have : k = i := by omega
        subst this; simp
      · have h' : ¬ k = i := by omega
        rw [if_neg hik, if_neg hik, Nat.testBit_two_pow_sub_succ hm]
        cases m.testBit (i - k - 1) <;> simp [h']
    · have : ¬ k = i := by omega
      simp [hi, this]
  · rw [X, Nat.mul_add, Nat.mul_one]; exact Nat.lt_add_of_pos_right hp
/-- the table of the lowest bits -/
def tab : List Nat := [0, 1, 28, 2, 29, 14, 24, 3, 30, 22, 20, 15, 25, 17, 4, 8, 31, 27, 13, 23, 21, 19, 16, 7, 26, 12, 18, 6, 11, 5, 10, 9]
theorem tab_at : ∀ k, k < 32 → tab[(2 ^ k * 125613361 % 4294967296) / 134217728]? = some k := by decide
end Nt
end Go.Proofs.YtefnpkmbjabcmaaDoor
