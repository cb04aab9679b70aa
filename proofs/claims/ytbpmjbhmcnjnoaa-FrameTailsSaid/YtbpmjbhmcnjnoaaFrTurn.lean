/- Plain mathematics of turned bits. -/
import Derived.Test.YtbpmjbhmcnjnoaaFrRef
namespace Go.Proofs.Ytbpmjbhmcnjnoaa
namespace Fr

theorem bitsOf_get (l : List Byte) : ∀ j, (bitsOf l).getD j false = (l.getD (j / 8) 0#8).getLsbD (j % 8) := by
  induction l with
  | nil => intro j; simp [bitsOf]
  | cons b l ih =>
    intro j
    rw [show bitsOf (b :: l) = bits8 b ++ bitsOf l from rfl]
    by_cases h : j < 8
    · rw [show j / 8 = 0 by omega, show j % 8 = j by omega]
      have := bits8_get b j
      simp only [List.getD_eq_getElem?_getD] at this ⊢
      rw [List.getElem?_append_left (by rw [bits8_length]; exact h), this]; simp
    · have := ih (j - 8)
      simp only [List.getD_eq_getElem?_getD] at this ⊢
      rw [List.getElem?_append_right (by rw [bits8_length]; omega), bits8_length, this]
      rw [show j / 8 = (j - 8) / 8 + 1 by omega, show (j - 8) % 8 = j % 8 by omega]
      simp
/-- one bit of bytes is the other one, if b -/
def tstep (out : List Byte) (k : Nat) (b : Bool) : List Byte := if b = true ∧ k < 8 * out.length then out.set (k / 8) (out.getD (k / 8) 0#8 ^^^ BitVec.twoPow 8 (k % 8)) else out
def turnTo (xs : List Byte) (at_ : Nat) (pat : BitVec 32) : Nat → List Byte
  | 0 => xs
  | n + 1 => tstep (turnTo xs at_ pat n) (at_ + n) (pat.getLsbD n)
theorem tstep_length (out : List Byte) (k : Nat) (b : Bool) : (tstep out k b).length = out.length := by unfold tstep; split <;> simp
theorem turnTo_length (xs : List Byte) (at_ : Nat) (pat : BitVec 32) (n : Nat) : (turnTo xs at_ pat n).length = xs.length := by
  induction n with
  | zero => rfl
  | succ n ih => rw [turnTo, tstep_length, ih]
theorem tstep_get (out : List Byte) (k : Nat) (b : Bool) (j : Nat) (hj : j < 8 * out.length) : (bitsOf (tstep out k b)).getD j false = ((bitsOf out).getD j false ^^ (b && decide (j = k))) := by
  rw [bitsOf_get, bitsOf_get]
  unfold tstep
  by_cases h : b = true ∧ k < 8 * out.length
  · rw [if_pos h]
    obtain ⟨rfl, h⟩ := h
    simp only [List.getD_eq_getElem?_getD, List.getElem?_set, Bool.true_and]
    by_cases hq : k / 8 = j / 8
    · rw [if_pos hq, if_pos (by omega), hq]
      simp only [Option.getD_some, BitVec.getLsbD_xor, BitVec.getLsbD_twoPow]
      congr 1
      rw [Bool.eq_iff_iff]
      simp
      omega
    · rw [if_neg hq]
      rw [decide_eq_false (by omega)]; simp
  · rw [if_neg h]
    cases b
    · simp
    · rw [decide_eq_false (by intro e; subst e; exact h ⟨rfl, hj⟩)]; simp
theorem turnTo_get (xs : List Byte) (at_ : Nat) (pat : BitVec 32) (j : Nat) (hj : j < 8 * xs.length) (n : Nat) :
    (bitsOf (turnTo xs at_ pat n)).getD j false = ((bitsOf xs).getD j false ^^ (decide (at_ ≤ j ∧ j < at_ + n) && pat.getLsbD (j - at_))) := by
  induction n with
  | zero => rw [turnTo, decide_eq_false (by omega)]; simp
  | succ n ih =>
    rw [turnTo, tstep_get _ _ _ _ (by rw [turnTo_length]; exact hj), ih, Bool.xor_assoc]
    congr 1
    by_cases h1 : j = at_ + n
    · subst h1
      rw [decide_eq_false (by omega), decide_eq_true (show at_ ≤ at_ + n ∧ at_ + n < at_ + (n + 1) by omega)]; simp
    · rw [decide_eq_false h1]
      by_cases h2 : at_ ≤ j ∧ j < at_ + n
      · rw [decide_eq_true h2, decide_eq_true (show at_ ≤ j ∧ j < at_ + (n + 1) by omega)]; simp
      · rw [decide_eq_false h2, decide_eq_false (show ¬ (at_ ≤ j ∧ j < at_ + (n + 1)) by omega)]; simp

/-- the burst's bits, and noughts: as a list -/
theorem diff_turn (xs : List Byte) (at_ : Nat) (pat : BitVec 32) (ha : at_ < 8 * xs.length) :
    diff (bitsOf xs) (bitsOf (turnTo xs at_ pat 32)) = List.replicate at_ false ++ (((List.range (min 32 (8 * xs.length - at_))).map fun i => pat.getLsbD i) ++ List.replicate (8 * xs.length - at_ - 32) false) := by
  apply List.ext_getElem
  · simp [diff, bitsOf_length, turnTo_length]; omega
  · intro j h1 h2
    simp only [diff, List.length_zipWith, bitsOf_length, turnTo_length, Nat.min_self] at h1
    have e := turnTo_get xs at_ pat j h1 32
    simp only [List.getD_eq_getElem?_getD, List.getElem?_eq_getElem (show j < (bitsOf xs).length by rw [bitsOf_length]; exact h1), List.getElem?_eq_getElem (show j < (bitsOf (turnTo xs at_ pat 32)).length by rw [bitsOf_length, turnTo_length]; exact h1), Option.getD_some] at e
    simp only [diff, List.getElem_zipWith, e]
    rw [← Bool.xor_assoc, Bool.xor_self, Bool.false_xor]
    by_cases c1 : j < at_
    · rw [List.getElem_append_left (by simpa using c1), List.getElem_replicate, decide_eq_false (by omega)]; rfl
    · rw [List.getElem_append_right (by simp; omega)]
      simp only [List.length_replicate]
      by_cases c2 : j < at_ + 32
      · rw [List.getElem_append_left (by simp; omega)]
        simp [show at_ ≤ j by omega, c2]
      · rw [List.getElem_append_right (by simp; omega), List.getElem_replicate, decide_eq_false (by omega)]; rfl
/-- EVERY BURST IS FOUND: over any bits. -/
theorem turn_ne (xs : List Byte) (at_ : Nat) (pat : BitVec 32) (ha : at_ < 8 * xs.length) (hp : pat.getLsbD 0 = true) :
    bitsF 0#32 (diff (bitsOf xs) (bitsOf (turnTo xs at_ pat 32))) ≠ 0#32 := by
  rw [diff_turn xs at_ pat ha]
  refine burst_ne _ _ _ (by simp; omega) ?_
  have h0 : 0 < min 32 (8 * xs.length - at_) := by omega
  simp only [List.getD_eq_getElem?_getD, List.getElem?_map, List.getElem?_range h0, Option.map_some, Option.getD_some, hp]
theorem xor_ne {a b : BitVec 32} (h : a ^^^ b ≠ 0#32) : a ≠ b := by
  intro e; subst e; exact h (by simp)
theorem not_inj {a b : BitVec 32} (h : ~~~a = ~~~b) : a = b := by
  have := congrArg (~~~ ·) h; simpa using this
/-- Two bodies that are apart by a burst have unlike sums. -/
theorem sum_apart (xs : List Byte) (at_ : Nat) (pat : BitVec 32) (ha : at_ < 8 * xs.length) (hp : pat.getLsbD 0 = true) : sum (turnTo xs at_ pat 32) ≠ sum xs := by
  intro h
  have h1 := turn_ne xs at_ pat ha hp
  have h2 := bitsF_diff (bitsOf xs) (bitsOf (turnTo xs at_ pat 32)) 0xffffffff#32 0xffffffff#32 (by rw [bitsOf_length, bitsOf_length, turnTo_length])
  rw [show (0xffffffff#32 ^^^ 0xffffffff#32 : BitVec 32) = 0#32 by decide] at h2
  rw [h2] at h1
  rw [← bytes_bits, ← bytes_bits] at h1
  exact xor_ne h1 (not_inj h).symm
/-- the word of four bytes -/
def word (l : List Byte) : BitVec 32 := win (bitsOf l)
theorem win_append (l m : List Bool) (hl : l.length ≤ 32) : True := trivial
/-- A frame (bytes and their sum, bit by bit) that is turned by a burst is none. -/
theorem frame_turn (xs ts : List Byte) (ht : ts.length = 4) (hs : word ts = sum xs) (at_ : Nat) (pat : BitVec 32) (ha : at_ < 8 * (xs ++ ts).length) (hp : pat.getLsbD 0 = true) (xs' ts' : List Byte)
    (hl : xs'.length = xs.length) (hl' : ts'.length = 4) (he : turnTo (xs ++ ts) at_ pat 32 = xs' ++ ts') : word ts' ≠ sum xs' := by
  intro hs'
  have h1 := turn_ne (xs ++ ts) at_ pat ha hp
  rw [he] at h1
  have happ : ∀ a b : List Byte, bitsOf (a ++ b) = bitsOf a ++ bitsOf b := by intro a b; unfold bitsOf; exact List.flatMap_append
  have hz : diff (bitsOf (xs ++ ts)) (bitsOf (xs' ++ ts')) = diff (bitsOf xs) (bitsOf xs') ++ diff (bitsOf ts) (bitsOf ts') := by
    rw [happ, happ]; exact List.zipWith_append (by rw [bitsOf_length, bitsOf_length, hl])
  rw [hz, bitsF_append] at h1
  have e1 := bitsF_diff (bitsOf xs) (bitsOf xs') 0xffffffff#32 0xffffffff#32 (by rw [bitsOf_length, bitsOf_length, hl])
  rw [show (0xffffffff#32 ^^^ 0xffffffff#32 : BitVec 32) = 0#32 by decide, ← bytes_bits, ← bytes_bits] at e1
  have hx : bytes 0xffffffff#32 xs ^^^ bytes 0xffffffff#32 xs' = sum xs ^^^ sum xs' := by
    unfold sum
    ext i hi
    simp
  rw [e1, hx, ← hs, ← hs'] at h1
  have hd := bitsF_diff (bitsOf ts) (bitsOf ts') (word ts) (word ts') (by rw [bitsOf_length, bitsOf_length, ht, hl'])
  rw [hd, bitsF_short _ _ (by rw [bitsOf_length, ht]; omega), bitsF_short _ _ (by rw [bitsOf_length, hl']; omega)] at h1
  unfold word at h1
  simp [steps_zero] at h1

end Fr
end Go.Proofs.Ytbpmjbhmcnjnoaa
