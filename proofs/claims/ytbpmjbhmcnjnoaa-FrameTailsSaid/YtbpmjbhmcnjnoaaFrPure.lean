/- Plain mathematics of the frame's sum (a CRC over GF(2)): no program in sight. -/
import Derived.Below
namespace Go.Proofs.Ytbpmjbhmcnjnoaa
namespace Fr
abbrev Byte := BitVec 8



/-- a sum, one bit further -/
def step (c : BitVec 32) : BitVec 32 := if c.getLsbD 0 then (c >>> 1) ^^^ 0xedb88320#32 else c >>> 1
/-- n bits further -/
def steps : Nat → BitVec 32 → BitVec 32
  | 0, c => c
  | n + 1, c => steps n (step c)
/-- a byte further -/
def byte (c : BitVec 32) (b : Byte) : BitVec 32 := steps 8 (c ^^^ b.setWidth 32)
def bytes (c : BitVec 32) (l : List Byte) : BitVec 32 := l.foldl byte c
/-- the sum of bytes -/
def sum (l : List Byte) : BitVec 32 := ~~~ bytes 0xffffffff#32 l

/-- a bit as a word -/
def bw (b : Bool) : BitVec 32 := if b then 1#32 else 0#32
def bit (c : BitVec 32) (b : Bool) : BitVec 32 := step (c ^^^ bw b)
def bitsF (c : BitVec 32) (l : List Bool) : BitVec 32 := l.foldl bit c
def bits8 (b : Byte) : List Bool := (List.range 8).map fun i => b.getLsbD i
def bitsOf (l : List Byte) : List Bool := l.flatMap bits8

theorem step_xor (x y : BitVec 32) : step (x ^^^ y) = step x ^^^ step y := by
  unfold step
  have h : (x ^^^ y) >>> 1 = x >>> 1 ^^^ y >>> 1 := by ext i; simp
  simp only [BitVec.getLsbD_xor, h]
  cases x.getLsbD 0 <;> cases y.getLsbD 0 <;> simp
  · rw [BitVec.xor_assoc]
  · ac_rfl
  · generalize x >>> 1 = a; generalize y >>> 1 = b
    have : a ^^^ 3988292384#32 ^^^ (b ^^^ 3988292384#32) = a ^^^ b ^^^ (3988292384#32 ^^^ 3988292384#32) := by ac_rfl
    rw [this]; simp

theorem step_zero : step 0#32 = 0#32 := by decide
theorem steps_zero (n : Nat) : steps n 0#32 = 0#32 := by induction n with | zero => rfl | succ n ih => rw [steps, step_zero, ih]
theorem steps_xor (n : Nat) : ∀ x y, steps n (x ^^^ y) = steps n x ^^^ steps n y := by
  induction n with
  | zero => intro x y; rfl
  | succ n ih => intro x y; rw [steps, steps, steps, step_xor, ih]
theorem steps_add (n m : Nat) : ∀ c, steps (n + m) c = steps m (steps n c) := by
  induction n with
  | zero => intro c; rw [Nat.zero_add]; rfl
  | succ n ih => intro c; rw [Nat.succ_add]; exact ih _
theorem step_ne {x : BitVec 32} (h : x ≠ 0#32) : step x ≠ 0#32 := by
  unfold step
  by_cases h0 : x.getLsbD 0 = true
  · rw [if_pos h0]
    intro hz
    have := congrArg (fun v : BitVec 32 => v.getLsbD 31) hz
    simp at this
  · rw [if_neg h0]
    intro hz
    apply h
    ext i hi
    rcases i with _ | i
    · simpa using h0
    · have := congrArg (fun v : BitVec 32 => v.getLsbD i) hz
      simp [Nat.add_comm] at this
      simpa [BitVec.getLsbD_eq_getElem, hi] using this
theorem steps_ne (n : Nat) : ∀ {x : BitVec 32}, x ≠ 0#32 → steps n x ≠ 0#32 := by
  induction n with
  | zero => intro x h; exact h
  | succ n ih => intro x h; exact ih (step_ne h)

/-- the number whose bits, the lowest first, a list is -/
def num : List Bool → Nat
  | [] => 0
  | b :: l => b.toNat + 2 * num l
theorem testBit_num (l : List Bool) : ∀ j, (num l).testBit j = l.getD j false := by
  induction l with
  | nil => intro j; simp [num]
  | cons b l ih =>
    intro j
    rcases j with _ | j
    · cases b <;> simp [num, Nat.testBit_zero, Nat.add_mod]
    · rw [Nat.testBit_succ, show (num (b :: l)) / 2 = num l by cases b <;> simp [num] <;> omega, ih]; simp
/-- the first 32 bits of a list as a word -/
def win (l : List Bool) : BitVec 32 := BitVec.ofNat 32 (num l)
theorem win_get (l : List Bool) (j : Nat) (hj : j < 32) : (win l).getLsbD j = l.getD j false := by
  rw [win, BitVec.getLsbD_ofNat, testBit_num]; simp [hj]
theorem win_nil : win [] = 0#32 := rfl
theorem bw_get (b : Bool) (j : Nat) : (bw b).getLsbD j = (decide (j = 0) && b) := by
  unfold bw
  cases b <;> simp [BitVec.getLsbD_one]
/-- a list's window, one bit further -/
theorem win_cons (b : Bool) (l : List Bool) : (win (b :: l) ^^^ bw b) >>> 1 = win l &&& 0x7fffffff#32 := by
  ext j hj
  have h31 : (0x7fffffff#32).getLsbD j = decide (j < 31) := by
    have : ∀ j : Fin 32, (0x7fffffff#32).getLsbD j = decide (j.val < 31) := by decide
    exact this ⟨j, hj⟩
  simp only [← BitVec.getLsbD_eq_getElem, BitVec.getLsbD_ushiftRight, BitVec.getLsbD_xor, BitVec.getLsbD_and, bw_get, win_get l j hj, h31]
  by_cases h : j < 31
  · rw [win_get _ (1 + j) (by omega)]; simp [h, Nat.add_comm 1 j]
  · simp only [h, decide_false, Bool.and_false, BitVec.getLsbD_of_ge (win (b :: l)) (1 + j) (by omega)]; simp
theorem step_cons (b : Bool) (l : List Bool) : step (win (b :: l) ^^^ bw b) = win l &&& 0x7fffffff#32 := by
  have h0 : (win (b :: l) ^^^ bw b).getLsbD 0 = false := by rw [BitVec.getLsbD_xor, bw_get, win_get _ 0 (by omega)]; simp
  unfold step
  rw [h0, if_neg (by simp), win_cons]
theorem win_short {l : List Bool} (h : l.length ≤ 31) : win l &&& 0x7fffffff#32 = win l := by
  ext j hj
  have h31 : (0x7fffffff#32).getLsbD j = decide (j < 31) := by
    have : ∀ j : Fin 32, (0x7fffffff#32).getLsbD j = decide (j.val < 31) := by decide
    exact this ⟨j, hj⟩
  simp only [← BitVec.getLsbD_eq_getElem, BitVec.getLsbD_and, win_get _ j hj, h31]
  by_cases h' : j < 31
  · simp [h']
  · simp [h', List.getElem?_eq_none (show l.length ≤ j by omega)]
/-- up to 32 bits are fed at once -/
theorem bitsF_short (l : List Bool) : ∀ c, l.length ≤ 32 → bitsF c l = steps l.length (c ^^^ win l) := by
  induction l with
  | nil => intro c _; simp [bitsF, steps, win_nil]
  | cons b l ih =>
    intro c h
    simp only [List.length_cons] at h
    show bitsF (bit c b) l = steps l.length (step (c ^^^ win (b :: l)))
    rw [ih _ (by omega)]
    congr 1
    rw [show c ^^^ win (b :: l) = (c ^^^ bw b) ^^^ (win (b :: l) ^^^ bw b) by
      rw [show (c ^^^ bw b) ^^^ (win (b :: l) ^^^ bw b) = c ^^^ win (b :: l) ^^^ (bw b ^^^ bw b) by ac_rfl]; simp]
    rw [step_xor, step_cons, win_short (by omega)]; rfl
theorem bitsF_append (l m : List Bool) (c : BitVec 32) : bitsF c (l ++ m) = bitsF (bitsF c l) m := by simp [bitsF, List.foldl_append]
theorem bits8_length (b : Byte) : (bits8 b).length = 8 := by simp [bits8]
theorem bits8_get (b : Byte) (j : Nat) : (bits8 b).getD j false = b.getLsbD j := by
  by_cases h : j < 8
  · simp [bits8, h]
  · simp [bits8, h, BitVec.getLsbD_of_ge b j (by omega)]
theorem win_bits8 (b : Byte) : win (bits8 b) = b.setWidth 32 := by
  ext j hj
  simp only [← BitVec.getLsbD_eq_getElem, win_get _ j hj, bits8_get, BitVec.getLsbD_setWidth]
  simp [hj]
theorem byte_bits (c : BitVec 32) (b : Byte) : byte c b = bitsF c (bits8 b) := by
  rw [bitsF_short _ _ (by rw [bits8_length]; omega), bits8_length, win_bits8]; rfl
theorem bytes_bits (l : List Byte) : ∀ c, bytes c l = bitsF c (bitsOf l) := by
  induction l with
  | nil => intro c; rfl
  | cons b l ih =>
    intro c
    show bytes (byte c b) l = _
    rw [ih, byte_bits, show bitsOf (b :: l) = bits8 b ++ bitsOf l from rfl, bitsF_append]
theorem bitsOf_length (l : List Byte) : (bitsOf l).length = 8 * l.length := by
  induction l with
  | nil => rfl
  | cons b l ih => rw [show bitsOf (b :: l) = bits8 b ++ bitsOf l from rfl, List.length_append, bits8_length, ih, List.length_cons]; omega

/-- two lists' difference -/
def diff (l m : List Bool) : List Bool := List.zipWith (· ^^ ·) l m
theorem bw_xor (a b : Bool) : bw (a ^^ b) = bw a ^^^ bw b := by cases a <;> cases b <;> decide
theorem bitsF_diff (l : List Bool) : ∀ (m : List Bool) (c d : BitVec 32), l.length = m.length → bitsF (c ^^^ d) (diff l m) = bitsF c l ^^^ bitsF d m := by
  induction l with
  | nil => intro m c d h; have : m = [] := List.length_eq_zero_iff.1 h.symm; subst this; rfl
  | cons a l ih =>
    intro m c d h
    cases m with
    | nil => simp at h
    | cons b m =>
      show bitsF (bit (c ^^^ d) (a ^^ b)) (diff l m) = bitsF (bit c a) l ^^^ bitsF (bit d b) m
      rw [← ih m _ _ (by simpa using h)]
      congr 1
      unfold bit
      rw [← step_xor, bw_xor]
      congr 1
      ac_rfl
theorem bitsF_false (n : Nat) : ∀ c, bitsF c (List.replicate n false) = steps n c := by
  induction n with
  | zero => intro c; rfl
  | succ n ih => intro c; rw [List.replicate_succ]; show bitsF (bit c false) _ = _; rw [ih]; simp [bit, bw, steps]
/-- a burst: noughts, at most 32 bits of which the first is one, noughts -/
theorem burst_ne (k r : Nat) (a : List Bool) (h : a.length ≤ 32) (h0 : a.getD 0 false = true) :
    bitsF 0#32 (List.replicate k false ++ (a ++ List.replicate r false)) ≠ 0#32 := by
  rw [bitsF_append, bitsF_false, steps_zero, bitsF_append, bitsF_false, bitsF_short a _ h]
  refine steps_ne _ (steps_ne _ ?_)
  intro hz
  have := congrArg (fun v : BitVec 32 => v.getLsbD 0) hz
  simp only [BitVec.getLsbD_xor, win_get _ 0 (by omega), h0] at this
  simp at this

end Fr
end Go.Proofs.Ytbpmjbhmcnjnoaa
