/- Components as bits, and read again: plain lists. -/
import Derived.Test.YtpfdbkfjjjiamaaCmG2
import Derived.Test.YtpfdbkfjjjiamaaCmL1
namespace Go.Proofs.Ytpfdbkfjjjiamaa
open Go.RowKit
/-- parts, one behind the other -/
def bitsP (L : List (Nat × Nat)) : List Bool := L.flatMap fun q => Bi.numBits q.1 q.2
theorem bitsP_append (L M : List (Nat × Nat)) : bitsP (L ++ M) = bitsP L ++ bitsP M := by simp [bitsP]
theorem bitsP_cons (q : Nat × Nat) (L : List (Nat × Nat)) : bitsP (q :: L) = Bi.numBits q.1 q.2 ++ bitsP L := by simp [bitsP]
theorem bitsP_length (L : List (Nat × Nat)) : (bitsP L).length = psize L := by
  induction L with
  | nil => rfl
  | cons q L ih => rw [bitsP_cons, List.length_append, Bi.numBits_length, ih]; simp [psize]
/-- a number of a range, read again -/
theorem gi_own (n lo hi : Int) (h1 : lo ≤ n) (h2 : n ≤ hi) (h3 : -9223372036854775808 ≤ lo) (h4 : hi ≤ 9223372036854775807) (T : List Bool) :
    giE (Bi.numBits (n - lo).toNat (wid lo hi) ++ T) lo hi = 0 ∧ giV (Bi.numBits (n - lo).toNat (wid lo hi) ++ T) lo hi = n ∧ giRest (Bi.numBits (n - lo).toNat (wid lo hi) ++ T) lo hi = T := by
  have hlt := in_lt n lo hi h1 h2 h3 h4
  have hw := wid_le lo hi
  have hh : ¬ hi < lo := by omega
  generalize hd : wid lo hi = d at *
  generalize hx : (n - lo).toNat = x at *
  have hl : (Bi.numBits x d).length = d := Bi.numBits_length x d
  have e1 : Bi.getErr (Bi.numBits x d ++ T) d = 0 := by
    rw [Bi.getErr, if_neg (by omega), if_neg (by rw [List.length_append, hl]; omega)]
  have e2 : Bi.getVal (Bi.numBits x d ++ T) d = x := by
    rw [Bi.getVal, if_pos e1, Int.toNat_natCast, List.take_append_of_le_length (by rw [hl]; exact Nat.le_refl _), List.take_of_length_le (by rw [hl]; exact Nat.le_refl _), Bi.numOf_numBits, Nat.mod_eq_of_lt hlt]
  have e3 : Bi.getRest (Bi.numBits x d ++ T) d = T := by
    rw [Bi.getRest, if_pos e1, Int.toNat_natCast, List.drop_append_of_le_length (by rw [hl]; exact Nat.le_refl _), List.drop_eq_nil_of_le (by rw [hl]; exact Nat.le_refl _), List.nil_append]
  have e4 : giE (Bi.numBits x d ++ T) lo hi = 0 := by
    rw [giE, if_neg hh, hd, e1, e2, if_neg (by simp), if_neg (by omega)]
  refine ⟨e4, ?_, ?_⟩
  · rw [giV, if_pos e4, hd, e2]; omega
  · rw [giRest, if_pos e4, hd, e3]
/-- the fields before the i-th -/
def fTo (a b c : Int) (i : Nat) : List Int := [if 0 < i then a else 0, if 1 < i then b else 0, if 2 < i then c else 0]
theorem fTo_set (a b c : Int) (i : Nat) (hi : i < 3) : (fTo a b c i).set i ([a, b, c].getD i 0) = fTo a b c (i + 1) := by
  have h3 : i = 0 ∨ i = 1 ∨ i = 2 := by omega
  rcases h3 with rfl | rfl | rfl <;> simp [fTo]
theorem fTo_all (k : Nat) (a b c : Int) (h : chk k [a, b, c] = 0) : fTo a b c (flds k).length = [a, b, c] := by
  obtain ⟨_, _, h3⟩ := chk_good k a b c h
  have p : ∀ i (x : Int), i < 3 → [a, b, c].getD i 0 = x → (if i < (flds k).length then x else 0) = x := fun i x hi hx => by
    by_cases q : i < (flds k).length
    · rw [if_pos q]
    · rw [if_neg q, ← hx]; exact (h3 i (by omega) hi).symm
  unfold fTo
  rw [p 0 a (by omega) rfl, p 1 b (by omega) rfl, p 2 c (by omega) rfl]
theorem run_own (k : Nat) (a b c : Int) (h : chk k [a, b, c] = 0) (T : List Bool) : ∀ (m i : Nat), i + m = (flds k).length →
    cgRun (cgE k) (cgV k) (cgS k) m i (fTo a b c i) (bitsP ((List.range' i m).map (fldP k [a, b, c])) ++ T) = (0, [a, b, c], T) := by
  obtain ⟨_, h2, _⟩ := chk_good k a b c h
  have hfl := flds_len k
  intro m
  induction m with
  | zero =>
    intro i hi
    rw [show i = (flds k).length by omega, fTo_all k a b c h]
    rfl
  | succ m ih =>
    intro i hi
    have hb := rng_bd k i (by omega)
    obtain ⟨g1, g2⟩ := h2 i (by omega)
    have hg := gi_own ([a, b, c].getD i 0) (rngLo k i) (rngHi k i) g1 g2 (by omega) (by omega) (bitsP ((List.range' (i + 1) m).map (fldP k [a, b, c])) ++ T)
    have hs : bitsP ((List.range' i (m + 1)).map (fldP k [a, b, c])) ++ T = Bi.numBits ([a, b, c].getD i 0 - rngLo k i).toNat (wid (rngLo k i) (rngHi k i)) ++ (bitsP ((List.range' (i + 1) m).map (fldP k [a, b, c])) ++ T) := by
      rw [List.range'_succ, List.map_cons, bitsP_cons, List.append_assoc]; rfl
    rw [hs, cgRun_succ, cgE, if_pos hg.1, cgV, hg.2.1, cgS, hg.2.2, fTo_set a b c i (by omega)]
    exact ih (i + 1) (by omega)
/-- WHOLE: what was put is read again -/
theorem gRes_own (k : Nat) (a b c : Int) (h : chk k [a, b, c] = 0) (T : List Bool) : gRes k (bitsP (wholeTo k [a, b, c] (flds k).length) ++ T) = (0, [a, b, c], T) := by
  have := run_own k a b c h T (flds k).length 0 (by omega)
  rw [gRes, wholeTo, List.range_eq_range']
  exact this
theorem get_own (k : Nat) (a b c : Int) (h : chk k [a, b, c] = 0) (T : List Bool) (R : List Bool) (hR : R = bitsP (wholeTo k [a, b, c] (flds k).length) ++ T) : gE k R = 0 ∧ gK k R = k ∧ gF k R = [a, b, c] ∧ gR k R = T := by
  have h0 := (chk_good k a b c h).1
  subst hR
  rw [gE, gK, gF, gR, if_neg (by omega), if_neg (by omega), if_neg (by omega), if_neg (by omega), gRes_own k a b c h T]
  exact ⟨rfl, rfl, rfl, rfl⟩
theorem fldP_lt (k : Nat) (a b c : Int) (h : chk k [a, b, c] = 0) (i : Nat) (hi : i < (flds k).length) : (fldP k [a, b, c] i).1 < 2 ^ (fldP k [a, b, c] i).2 := by
  obtain ⟨_, h2, _⟩ := chk_good k a b c h
  have hb := rng_bd k i hi
  obtain ⟨g1, g2⟩ := h2 i hi
  exact in_lt _ _ _ g1 g2 (by omega) (by omega)
theorem wholeTo_lt (k : Nat) (a b c : Int) (h : chk k [a, b, c] = 0) : ∀ q ∈ wholeTo k [a, b, c] (flds k).length, q.1 < 2 ^ q.2 := by
  intro q hq
  obtain ⟨i, hi, rfl⟩ := List.mem_map.1 hq
  exact fldP_lt k a b c h i (List.mem_range.1 hi)
theorem stepTo_lt (k : Nat) (a b c a' b' c' : Int) (h : chk k [a', b', c'] = 0) : ∀ q ∈ stepTo k [a, b, c] [a', b', c'] (flds k).length, q.1 < 2 ^ q.2 := by
  intro q hq
  obtain ⟨i, hi, hq⟩ := List.mem_flatMap.1 hq
  have hf := fldP_lt k a' b' c' h i (List.mem_range.1 hi)
  unfold stepP at hq
  split at hq
  · simp at hq; subst hq; decide
  · split at hq
    · simp at hq; rcases hq with rfl | rfl
      · decide
      · dsimp only; omega
    · simp at hq; rcases hq with rfl | rfl | rfl
      · decide
      · decide
      · exact hf
end Go.Proofs.Ytpfdbkfjjjiamaa
