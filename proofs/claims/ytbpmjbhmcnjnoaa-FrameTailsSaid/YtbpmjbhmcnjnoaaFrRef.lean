/- Plain mathematics of the reference's division: no program in sight. -/
import Derived.Test.YtbpmjbhmcnjnoaaFrPure
namespace Go.Proofs.Ytbpmjbhmcnjnoaa
namespace Fr

theorem step_get (x : BitVec 32) (j : Nat) (hj : j < 32) : (step x).getLsbD j = (x.getLsbD (j + 1) ^^ (x.getLsbD 0 && (0xedb88320#32).getLsbD j)) := by
  unfold step
  by_cases h : x.getLsbD 0 = true
  · rw [if_pos h, h]; simp [Nat.add_comm 1 j]
  · rw [if_neg h]; simp only [Bool.not_eq_true] at h; rw [h]; simp [Nat.add_comm 1 j]

/-- one bit of a list is the other one -/
def flip (l : List Bool) (i : Nat) : List Bool := l.set i (!l.getD i false)
theorem flip_length (l : List Bool) (i : Nat) : (flip l i).length = l.length := by simp [flip]
theorem flip_get (l : List Bool) (i m : Nat) (hi : i < l.length) : (flip l i).getD m false = (l.getD m false ^^ decide (i = m)) := by
  simp only [flip, List.getD_eq_getElem?_getD, List.getElem?_set]
  by_cases h : i = m
  · subst h; simp [hi]
  · simp [h]
def by_ : List Nat := [0, 1, 2, 4, 5, 7, 8, 10, 11, 12, 16, 22, 23, 26]
def flips (l : List Bool) (i : Nat) (js : List Nat) : List Bool := js.foldl (fun l k => flip l (i + 32 - k)) l
theorem flips_length (i : Nat) (js : List Nat) : ∀ l, (flips l i js).length = l.length := by
  induction js with
  | nil => intro l; rfl
  | cons k js ih => intro l; show (flips (flip l (i + 32 - k)) i js).length = _; rw [ih, flip_length]
def par : List Nat → Nat → Bool
  | [], _ => false
  | k :: js, m => decide (k = m) ^^ par js m
theorem flips_get (i m : Nat) (js : List Nat) : ∀ l : List Bool, i + 32 < l.length → (flips l i js).getD m false = (l.getD m false ^^ par (js.map fun k => i + 32 - k) m) := by
  induction js with
  | nil => intro l _; simp [flips, par]
  | cons k js ih =>
    intro l h
    show (flips (flip l (i + 32 - k)) i js).getD m false = _
    rw [ih _ (by rw [flip_length]; exact h), flip_get _ _ _ (by omega)]
    simp only [List.map_cons, par, Bool.xor_assoc]
theorem par_shift (i j : Nat) (hj : j < 32) : ∀ js : List Nat, (∀ k ∈ js, k ≤ 31) → par (js.map fun k => i + 32 - k) (i + 1 + j) = par js (31 - j) := by
  intro js
  induction js with
  | nil => intro _; rfl
  | cons k js ih =>
    intro h
    have hk := h k (by simp)
    simp only [List.map_cons, par]
    rw [ih (fun x hx => h x (by simp [hx]))]
    congr 1
    rw [decide_eq_decide]
    omega
theorem par_by (j : Nat) (hj : j < 32) : par by_ (31 - j) = (0xedb88320#32).getLsbD j := by
  have : ∀ j : Fin 32, par by_ (31 - j.val) = (0xedb88320#32).getLsbD j.val := by decide
  exact this ⟨j, hj⟩
theorem flips_by (l : List Bool) (i j : Nat) (h : i + 32 < l.length) (hj : j < 32) : (flips l i by_).getD (i + 1 + j) false = (l.getD (i + 1 + j) false ^^ (0xedb88320#32).getLsbD j) := by
  rw [flips_get _ _ _ _ h, par_shift i j hj _ (by decide), par_by j hj]
theorem par_far (i m : Nat) (hm : i + 33 ≤ m) : ∀ js : List Nat, par (js.map fun k => i + 32 - k) m = false := by
  intro js
  induction js with
  | nil => rfl
  | cons k js ih => simp only [List.map_cons, par, ih]; simp; omega

/-- one step of the division, and n of them -/
def red (l : List Bool) (i : Nat) : List Bool := if l.getD i false then flips l i by_ else l
def reds (l : List Bool) : Nat → List Bool
  | 0 => l
  | n + 1 => red (reds l n) n
theorem red_length (l : List Bool) (i : Nat) : (red l i).length = l.length := by unfold red; split <;> simp [flips_length]
theorem reds_length (l : List Bool) (n : Nat) : (reds l n).length = l.length := by induction n with | zero => rfl | succ n ih => rw [reds, red_length, ih]

/-- the division, step by step, is the sum, bit by bit -/
theorem reds_inv (raw l0 : List Bool) (N : Nat) (hl : l0.length = N + 32) (hr : raw.length = N + 32)
    (h0 : ∀ j, l0.getD j false = (raw.getD j false ^^ decide (j < 32))) (i : Nat) (hi : i ≤ N) :
    (∀ j, j < 32 → (reds l0 i).getD (i + j) false = ((bitsF 0xffffffff#32 (raw.take i)).getLsbD j ^^ raw.getD (i + j) false)) ∧
    (∀ m, i + 32 ≤ m → (reds l0 i).getD m false = raw.getD m false) := by
  induction i with
  | zero =>
    refine ⟨fun j hj => ?_, fun m hm => ?_⟩
    · simp only [reds, List.take_zero, bitsF, List.foldl_nil, Nat.zero_add]
      rw [h0]
      have : ∀ j : Fin 32, (0xffffffff#32).getLsbD j.val = true := by decide
      rw [this ⟨j, hj⟩]; simp [hj, Bool.xor_comm]
    · rw [reds, h0, decide_eq_false (by omega), Bool.xor_false]
  | succ i ih =>
    obtain ⟨h1, h2⟩ := ih (by omega)
    have hlen : (reds l0 i).length = N + 32 := by rw [reds_length, hl]
    have htake : raw.take (i + 1) = raw.take i ++ [raw.getD i false] := by
      rw [List.take_succ_eq_append_getElem (by omega)]
      simp [List.getElem?_eq_getElem (show i < raw.length by omega)]
    rw [htake, bitsF_append]
    show _ ∧ _
    simp only [show ∀ c, bitsF c [raw.getD i false] = step (c ^^^ bw (raw.getD i false)) from fun _ => rfl]
    generalize hC : bitsF 0xffffffff#32 (raw.take i) = C at h1 ⊢
    generalize hL : reds l0 i = L at h1 h2 hlen
    have hb : L.getD i false = (C.getLsbD 0 ^^ raw.getD i false) := h1 0 (by omega)
    refine ⟨fun j hj => ?_, fun m hm => ?_⟩
    · have e1 : (reds l0 (i + 1)).getD (i + 1 + j) false = (L.getD (i + 1 + j) false ^^ (L.getD i false && (0xedb88320#32).getLsbD j)) := by
        rw [reds, hL]
        unfold red
        by_cases h : L.getD i false = true
        · rw [if_pos h, flips_by _ _ _ (by omega) hj, h]; simp
        · rw [if_neg h]; simp only [Bool.not_eq_true] at h; rw [h]; simp
      rw [e1, step_get _ _ hj]
      simp only [BitVec.getLsbD_xor, bw_get, hb]
      by_cases hj31 : j < 31
      · rw [show i + 1 + j = i + (j + 1) by omega, h1 (j + 1) (by omega)]
        simp only [Nat.add_eq_zero_iff, Nat.one_ne_zero, and_false, decide_false, Bool.false_and, Bool.xor_false, decide_true, Bool.true_and]
        rw [Bool.xor_assoc, Bool.xor_assoc]
        exact congrArg _ (Bool.xor_comm _ _)
      · have : j = 31 := by omega
        subst this
        rw [h2 (i + 1 + 31) (by omega), BitVec.getLsbD_of_ge C (31 + 1) (by omega)]
        simp only [Nat.add_eq_zero_iff, Nat.one_ne_zero, and_false, decide_false, Bool.false_and, Bool.xor_false, decide_true, Bool.true_and, Bool.false_xor]
        rw [Bool.xor_comm]
    · rw [reds, hL]
      unfold red
      split
      · rw [flips_get _ _ _ _ (by omega), par_far _ _ (by omega), h2 _ (by omega)]; simp
      · exact h2 _ (by omega)

theorem num_not (l : List Bool) : ∀ n, l.length = n → num (l.map (!·)) = 2 ^ n - 1 - num l ∧ num l < 2 ^ n := by
  induction l with
  | nil => intro n h; subst h; simp [num]
  | cons b l ih =>
    intro n h
    subst h
    obtain ⟨h1, h2⟩ := ih _ rfl
    simp only [List.map_cons, num, h1, List.length_cons, Nat.pow_succ]
    cases b <;> simp <;> omega
theorem num_win {l : List Bool} (h : l.length = 32) : (win l).toNat = num l := by
  have := (num_not l 32 h).2
  simp [win, Nat.mod_eq_of_lt this]

theorem getD_append_false (l : List Bool) (n j : Nat) : (l ++ List.replicate n false).getD j false = l.getD j false := by
  simp only [List.getD_eq_getElem?_getD]
  by_cases h : j < l.length
  · rw [List.getElem?_append_left h]
  · rw [List.getElem?_append_right (by omega), List.getElem?_eq_none (show l.length ≤ j by omega), List.getElem?_replicate]; split <;> rfl

/-- what is left of the division is the sum -/
theorem ref_sum (p : List Byte) (l0 : List Bool) (hl : l0.length = 8 * p.length + 32)
    (h0 : ∀ j, l0.getD j false = ((bitsOf p ++ List.replicate 32 false).getD j false ^^ decide (j < 32))) :
    num (((reds l0 (8 * p.length)).drop (8 * p.length)).map (!·)) = (sum p).toNat := by
  have hb := bitsOf_length p
  have h1 := (reds_inv (bitsOf p ++ List.replicate 32 false) l0 (8 * p.length) hl (by simp [hb]) h0 (8 * p.length) (Nat.le_refl _)).1
  rw [List.take_left' (by rw [hb])] at h1
  have hlen : ((reds l0 (8 * p.length)).drop (8 * p.length)).length = 32 := by rw [List.length_drop, reds_length, hl]; omega
  rw [(num_not _ 32 hlen).1, sum, BitVec.toNat_not]
  have hw : win ((reds l0 (8 * p.length)).drop (8 * p.length)) = bytes 0xffffffff#32 p := by
    apply BitVec.eq_of_getLsbD_eq
    intro j hj
    rw [win_get _ _ hj, bytes_bits]
    have := h1 j hj
    rw [getD_append_false] at this
    simp only [List.getD_eq_getElem?_getD, List.getElem?_drop] at this ⊢
    rw [this, List.getElem?_eq_none (by rw [hb]; omega)]
    simp
  rw [← hw, num_win hlen]

/-- the first bits are the other ones -/
def flipTo (l : List Bool) : Nat → List Bool
  | 0 => l
  | k + 1 => flip (flipTo l k) k
theorem flipTo_length (l : List Bool) (k : Nat) : (flipTo l k).length = l.length := by induction k with | zero => rfl | succ k ih => rw [flipTo, flip_length, ih]
theorem flipTo_get (l : List Bool) (m : Nat) : ∀ k, k ≤ l.length → (flipTo l k).getD m false = (l.getD m false ^^ decide (m < k)) := by
  intro k
  induction k with
  | zero => intro _; simp [flipTo]
  | succ k ih =>
    intro h
    rw [flipTo, flip_get _ _ _ (by rw [flipTo_length]; omega), ih (by omega), Bool.xor_assoc]
    congr 1
    by_cases h1 : m < k
    · simp [h1, show ¬ k = m by omega, show m < k + 1 by omega]
    · by_cases h2 : k = m
      · simp [h2]
      · simp [h1, h2, show ¬ m < k + 1 by omega]
theorem flips_take (l : List Bool) (i j : Nat) (h : j < by_.length) : flips l i (by_.take (j + 1)) = flip (flips l i (by_.take j)) (i + 32 - by_[j]) := by
  unfold flips; rw [List.take_succ_eq_append_getElem h, List.foldl_append]; rfl
theorem by_le (j : Nat) (h : j < by_.length) : by_[j] ≤ 26 := by
  have : ∀ k ∈ by_, k ≤ 26 := by decide
  exact this _ (List.getElem_mem h)
theorem horner (l : List Bool) (k : Nat) (h : k < l.length) : num ((l.drop k).map (!·)) = 2 * num ((l.drop (k + 1)).map (!·)) + (!l.getD k false).toNat := by
  rw [List.drop_eq_getElem_cons h]
  simp only [List.map_cons, num]
  rw [show l.getD k false = l[k] by simp [h]]
  omega
theorem num_lt (l : List Bool) : num l < 2 ^ l.length := (num_not l _ rfl).2

end Fr
end Go.Proofs.Ytbpmjbhmcnjnoaa
