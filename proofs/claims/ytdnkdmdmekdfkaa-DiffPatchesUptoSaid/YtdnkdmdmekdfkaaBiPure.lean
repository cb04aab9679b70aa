/- Plain mathematics of bits in bytes: no program in sight. -/
import Derived.Below
namespace Go.Proofs.Ytdnkdmdmekdfkaa
namespace Bi
abbrev Byte := BitVec 8

/-- the k-th byte of a list of bits -/
def byteOf (L : List Bool) (k : Nat) : Byte := (BitVec.ofBoolListLE ((L.drop (8 * k)).take 8)).setWidth 8
def packN (m : Nat) (L : List Bool) : List Byte := (List.range m).map (byteOf L)
def nbytes (L : List Bool) : Nat := (L.length + 7) / 8
def pack (L : List Bool) : List Byte := packN (nbytes L) L
/-- n bits of a number, the lowest first -/
def numBits (v n : Nat) : List Bool := (List.range n).map fun i => v.testBit i
def numOf : List Bool → Nat
  | [] => 0
  | b :: L => b.toNat + 2 * numOf L
def bits8 (b : Byte) : List Bool := (List.range 8).map fun i => b.getLsbD i
def bitsOf (l : List Byte) : List Bool := l.flatMap bits8

theorem byteOf_bit (L : List Bool) (k j : Nat) (h : j < 8) : (byteOf L k).getLsbD j = L.getD (8 * k + j) false := by
  simp only [byteOf, BitVec.getLsbD_setWidth, BitVec.getLsbD_ofBoolListLE, h, decide_true, Bool.true_and, List.getD_eq_getElem?_getD, List.getElem?_take, if_true, List.getElem?_drop]
theorem byte_ext {x y : Byte} (h : ∀ j, j < 8 → x.getLsbD j = y.getLsbD j) : x = y := BitVec.eq_of_getLsbD_eq h
theorem packN_length (m : Nat) (L : List Bool) : (packN m L).length = m := by simp [packN]
theorem pack_length (L : List Bool) : (pack L).length = nbytes L := packN_length _ _
theorem packN_getElem (m : Nat) (L : List Bool) (k : Nat) (h : k < (packN m L).length) : (packN m L)[k] = byteOf L k := by simp [packN]
theorem byteOf_beyond (L : List Bool) (k : Nat) (h : L.length ≤ 8 * k) : byteOf L k = 0#8 := by
  apply byte_ext
  intro j hj
  rw [byteOf_bit _ _ _ hj, List.getD_eq_getElem?_getD, List.getElem?_eq_none (by omega)]
  simp
theorem packN_getD (m : Nat) (L : List Bool) (k : Nat) (h : k < m) : (packN m L).getD k 0#8 = byteOf L k := by
  simp [packN, h]
theorem getD_snoc (L : List Bool) (b : Bool) (i : Nat) : (L ++ [b]).getD i false = if i = L.length then b else L.getD i false := by
  simp only [List.getD_eq_getElem?_getD]
  by_cases h : i < L.length
  · rw [List.getElem?_append_left h, if_neg (by omega)]
  · by_cases h' : i = L.length
    · subst h'; simp
    · rw [if_neg h', List.getElem?_eq_none (by simp; omega), List.getElem?_eq_none (by omega)]
/-- a bit more, in its byte -/
def bitAt (b : Bool) (r : Nat) : Byte := if b then BitVec.twoPow 8 r else 0#8
theorem byteOf_snoc (L : List Bool) (b : Bool) (k : Nat) : byteOf (L ++ [b]) k = if k = L.length / 8 then byteOf L k ||| bitAt b (L.length % 8) else byteOf L k := by
  apply byte_ext
  intro j hj
  rw [byteOf_bit _ _ _ hj, getD_snoc]
  by_cases hk : k = L.length / 8
  · rw [if_pos hk, BitVec.getLsbD_or, byteOf_bit _ _ _ hj]
    by_cases hq : 8 * k + j = L.length
    · rw [if_pos hq]
      have h1 : L.getD (8 * k + j) false = false := by rw [List.getD_eq_getElem?_getD, List.getElem?_eq_none (by omega)]; rfl
      have h2 : L.length % 8 = j := by omega
      rw [h1, h2]
      cases b <;> simp [bitAt, hj]
    · rw [if_neg hq]
      have h2 : ¬ L.length % 8 = j := by omega
      cases b <;> simp [bitAt, h2]
  · rw [if_neg hk, if_neg (by omega), byteOf_bit _ _ _ hj]
theorem packN_snoc (m : Nat) (L : List Bool) (b : Bool) : packN m (L ++ [b]) = (packN m L).set (L.length / 8) (byteOf L (L.length / 8) ||| bitAt b (L.length % 8)) := by
  apply List.ext_getElem
  · simp [packN]
  · intro i h1 h2
    rw [packN_getElem, List.getElem_set, packN_getElem, byteOf_snoc]
    by_cases h : i = L.length / 8
    · subst h; simp
    · rw [if_neg h, if_neg (fun q => h q.symm)]
theorem packN_succ (m : Nat) (L : List Bool) (h : L.length ≤ 8 * m) : packN (m + 1) L = packN m L ++ [0#8] := by
  simp [packN, List.range_succ, byteOf_beyond L m h]
theorem pack_snoc0 (L : List Bool) (b : Bool) (h : L.length % 8 = 0) : pack (L ++ [b]) = (pack L ++ [0#8]).set (L.length / 8) (0#8 ||| bitAt b 0) := by
  have e : nbytes (L ++ [b]) = nbytes L + 1 := by simp [nbytes]; omega
  have e2 : L.length ≤ 8 * nbytes L := by simp [nbytes]; omega
  have e3 : L.length ≤ 8 * (L.length / 8) := by omega
  rw [pack, packN_snoc, e, packN_succ _ _ e2, h, byteOf_beyond _ _ e3]; rfl
theorem pack_snoc1 (L : List Bool) (b : Bool) (h : L.length % 8 ≠ 0) : pack (L ++ [b]) = (pack L).set (L.length / 8) (byteOf L (L.length / 8) ||| bitAt b (L.length % 8)) := by
  have e : nbytes (L ++ [b]) = nbytes L := by simp [nbytes]; omega
  rw [pack, packN_snoc, e]; rfl
theorem nbytes0 (L : List Bool) (b : Bool) (h : L.length % 8 = 0) : nbytes (L ++ [b]) = nbytes L + 1 := by simp [nbytes]; omega
theorem nbytes1 (L : List Bool) (b : Bool) (h : L.length % 8 ≠ 0) : nbytes (L ++ [b]) = nbytes L := by simp [nbytes]; omega
theorem pack_inj {L M : List Bool} (hl : L.length = M.length) (h : pack L = pack M) : L = M := by
  apply List.ext_getElem hl
  intro i h1 h2
  have hq : i / 8 < nbytes L := by simp [nbytes]; omega
  have hq' : i / 8 < nbytes M := by simp [nbytes]; omega
  have e : byteOf L (i / 8) = byteOf M (i / 8) := by
    have e1 := packN_getD (nbytes L) L (i / 8) hq
    have e2 := packN_getD (nbytes M) M (i / 8) hq'
    rw [← e1, ← e2]
    exact congrArg (fun p => p.getD (i / 8) 0#8) h
  have e3 := byteOf_bit L (i / 8) (i % 8) (by omega)
  have e4 := byteOf_bit M (i / 8) (i % 8) (by omega)
  rw [e, e4, show 8 * (i / 8) + i % 8 = i by omega] at e3
  simpa [h1, h2] using e3.symm

theorem or_add (x : Byte) (r : Nat) (hr : r < 8) (h : x.getLsbD r = false) : x.toNat + 2 ^ r = (x ||| BitVec.twoPow 8 r).toNat := by
  have e : x &&& BitVec.twoPow 8 r = 0#8 := by
    apply byte_ext
    intro j hj
    simp only [BitVec.getLsbD_and, BitVec.getLsbD_twoPow, BitVec.getLsbD_zero]
    by_cases hq : r = j
    · subst hq; simp [h]
    · simp [hq]
  have hx := x.isLt
  rw [← BitVec.add_eq_or_of_and_eq_zero _ _ e, BitVec.toNat_add]
  have e2 : (x + BitVec.twoPow 8 r).toNat = x.toNat + 2 ^ r := by
    rw [BitVec.toNat_add_of_and_eq_zero e, BitVec.toNat_twoPow, Nat.mod_eq_of_lt (Nat.pow_lt_pow_right (by omega) hr)]
  rw [BitVec.toNat_add] at e2
  exact e2.symm

theorem numBits_length (v n : Nat) : (numBits v n).length = n := by simp [numBits]
theorem numBits_succ (v n : Nat) : numBits v (n + 1) = numBits v n ++ [v.testBit n] := by simp [numBits, List.range_succ]
theorem numBits_add (v n m : Nat) : numBits v (n + m) = numBits v n ++ numBits (v / 2 ^ n) m := by
  induction m with
  | zero => simp [numBits]
  | succ m ih => rw [← Nat.add_assoc, numBits_succ, ih, numBits_succ, List.append_assoc, Nat.testBit_div_two_pow, Nat.add_comm m n]
theorem numBits_mod (v n m : Nat) (h : n ≤ m) : numBits (v % 2 ^ m) n = numBits v n := by
  apply List.ext_getElem
  · simp [numBits]
  · intro i h1 h2
    simp [numBits] at h1 ⊢
    omega
theorem testBit_parity (v k : Nat) : (v / 2 ^ k % 2 == 1) = v.testBit k := by
  rw [Nat.testBit, Nat.shiftRight_eq_div_pow, Nat.one_and_eq_mod_two]
  rcases Nat.mod_two_eq_zero_or_one (v / 2 ^ k) with h | h <;> simp [h]
theorem numOf_lt (L : List Bool) : numOf L < 2 ^ L.length := by
  induction L with
  | nil => simp [numOf]
  | cons b L ih => simp only [numOf, List.length_cons, Nat.pow_succ]; have := Bool.toNat_lt b; omega
theorem numOf_snoc (L : List Bool) (b : Bool) : numOf (L ++ [b]) = numOf L + b.toNat * 2 ^ L.length := by
  induction L with
  | nil => simp [numOf]
  | cons c L ih => simp only [List.cons_append, numOf, ih, List.length_cons, Nat.pow_succ, Nat.mul_add]; rw [show b.toNat * (2 ^ L.length * 2) = 2 * (b.toNat * 2 ^ L.length) by rw [Nat.mul_comm (2 ^ L.length) 2, Nat.mul_left_comm]]; omega
theorem numOf_bits (L : List Bool) (i : Nat) : (numOf L).testBit i = L.getD i false := by
  induction L generalizing i with
  | nil => simp [numOf]
  | cons b L ih =>
    rw [numOf, Nat.add_comm]
    cases i with
    | zero => rw [Nat.testBit_zero]; cases b <;> simp [Nat.add_mod]
    | succ i => rw [Nat.testBit_succ, show (2 * numOf L + b.toNat) / 2 = numOf L by have := Bool.toNat_lt b; omega, ih]; rfl
theorem numOf_numBits (v n : Nat) : numOf (numBits v n) = v % 2 ^ n := by
  apply Nat.eq_of_testBit_eq
  intro i
  rw [numOf_bits, Nat.testBit_mod_two_pow, numBits, List.getD_eq_getElem?_getD, List.getElem?_map]
  by_cases h : i < n
  · simp [h]
  · simp [h]
theorem numBits_numOf (L : List Bool) : numBits (numOf L) L.length = L := by
  apply List.ext_getElem
  · simp [numBits]
  · intro i h1 h2; simp [numBits, numOf_bits, h2]

theorem bits8_length (b : Byte) : (bits8 b).length = 8 := by simp [bits8]
theorem bitsOf_length (l : List Byte) : (bitsOf l).length = 8 * l.length := by
  induction l with
  | nil => rfl
  | cons b l ih => simp only [bitsOf, List.flatMap_cons, List.length_append, bits8_length, List.length_cons] at ih ⊢; omega
theorem bitsOf_append (l m : List Byte) : bitsOf (l ++ m) = bitsOf l ++ bitsOf m := by simp [bitsOf]
theorem bitsOf_take (l : List Byte) (k : Nat) (h : k < l.length) : bitsOf (l.take (k + 1)) = bitsOf (l.take k) ++ bits8 l[k] := by
  rw [List.take_succ_eq_append_getElem h, bitsOf_append]; simp [bitsOf]
theorem bitsOf_getD (l : List Byte) (i : Nat) : (bitsOf l).getD i false = (l.getD (i / 8) 0#8).getLsbD (i % 8) := by
  induction l generalizing i with
  | nil => simp [bitsOf]
  | cons b l ih =>
    have e : bitsOf (b :: l) = bits8 b ++ bitsOf l := by simp [bitsOf]
    rw [e, List.getD_eq_getElem?_getD]
    by_cases h : i < 8
    · rw [List.getElem?_append_left (by rw [bits8_length]; exact h), show i / 8 = 0 by omega, show i % 8 = i by omega]
      simp [bits8, h]
    · rw [List.getElem?_append_right (by rw [bits8_length]; omega), bits8_length, ← List.getD_eq_getElem?_getD, ih, show (i - 8) / 8 = i / 8 - 1 by omega, show (i - 8) % 8 = i % 8 by omega]
      obtain ⟨q, hq⟩ : ∃ q, i / 8 = q + 1 := ⟨i / 8 - 1, by omega⟩
      rw [hq]; simp
/-- what is packed, unpacked: the bits and noughts behind -/
theorem bitsOf_pack (L : List Bool) : ∃ t, t < 8 ∧ bitsOf (pack L) = L ++ List.replicate t false := by
  refine ⟨8 * nbytes L - L.length, by simp [nbytes]; omega, ?_⟩
  have hn : L.length ≤ 8 * nbytes L := by simp [nbytes]; omega
  apply List.ext_getElem
  · rw [bitsOf_length, pack_length]; simp; omega
  · intro i h1 h2
    have e := bitsOf_getD (pack L) i
    rw [bitsOf_length, pack_length] at h1
    rw [pack, packN_getD _ _ _ (by omega), byteOf_bit _ _ _ (by omega), show 8 * (i / 8) + i % 8 = i by omega] at e
    rw [List.getD_eq_getElem?_getD, List.getElem?_eq_getElem (by rw [bitsOf_length, packN_length]; exact h1)] at e
    change (bitsOf (packN (nbytes L) L))[i]'(by rw [bitsOf_length, packN_length]; exact h1) = _
    rw [Option.getD_some] at e
    rw [e, List.getElem_append]
    split
    · simp [*]
    · rename_i h; simp [h]

/-- the document's answers -/
def putErr (L : List Bool) (v : Nat) (n : Int) : Int :=
  if n < 0 ∨ n > 64 then 1 else if v / 2 ^ n.toNat ≠ 0 then 5 else if L.length + n.toNat > 1048576 then 3 else 0
def putRes (L : List Bool) (v : Nat) (n : Int) : List Bool := if putErr L v n = 0 then L ++ numBits v n.toNat else L
def getErr (L : List Bool) (n : Int) : Int := if n < 0 ∨ n > 64 then 1 else if n > L.length then 2 else 0
def getVal (L : List Bool) (n : Int) : Nat := if getErr L n = 0 then numOf (L.take n.toNat) else 0
def getRest (L : List Bool) (n : Int) : List Bool := if getErr L n = 0 then L.drop n.toNat else L
def endErr (L : List Bool) : Int := if 8 ≤ L.length then 4 else if L.any id then 4 else 0
end Bi
end Go.Proofs.Ytdnkdmdmekdfkaa
