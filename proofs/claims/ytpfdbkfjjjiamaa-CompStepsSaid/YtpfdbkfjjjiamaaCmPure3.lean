/- A component behind another one, as bits, and read again: plain lists. -/
import Derived.Test.YtpfdbkfjjjiamaaCmS2
import Derived.Test.YtpfdbkfjjjiamaaCmPure2
import Derived.Test.YtpfdbkfjjjiamaaCmP2
namespace Go.Proofs.Ytpfdbkfjjjiamaa
open Go.RowKit
theorem get_bit (b : Bool) (T : List Bool) : Bi.getErr (b :: T) 1 = 0 ∧ Bi.getVal (b :: T) 1 = b.toNat ∧ Bi.getRest (b :: T) 1 = T := by
  have e : Bi.getErr (b :: T) 1 = 0 := by rw [Bi.getErr, if_neg (by omega), if_neg (by rw [List.length_cons]; omega)]
  refine ⟨e, ?_, ?_⟩
  · rw [Bi.getVal, if_pos e]
    cases b <;> rfl
  · rw [Bi.getRest, if_pos e]; rfl
theorem get_nib (y : Nat) (hy : y < 16) (T : List Bool) : Bi.getErr (Bi.numBits y 4 ++ T) 4 = 0 ∧ Bi.getVal (Bi.numBits y 4 ++ T) 4 = y ∧ Bi.getRest (Bi.numBits y 4 ++ T) 4 = T := by
  have hl : (Bi.numBits y 4).length = 4 := Bi.numBits_length y 4
  have e1 : Bi.getErr (Bi.numBits y 4 ++ T) 4 = 0 := by
    rw [Bi.getErr, if_neg (by omega), if_neg (by rw [List.length_append, hl]; omega)]
  refine ⟨e1, ?_, ?_⟩
  · rw [Bi.getVal, if_pos e1, show (4 : Int).toNat = 4 from rfl, List.take_append_of_le_length (by rw [hl]; exact Nat.le_refl _), List.take_of_length_le (by rw [hl]; exact Nat.le_refl _), Bi.numOf_numBits, Nat.mod_eq_of_lt (by omega)]
  · rw [Bi.getRest, if_pos e1, show (4 : Int).toNat = 4 from rfl, List.drop_append_of_le_length (by rw [hl]; exact Nat.le_refl _), List.drop_eq_nil_of_le (by rw [hl]; exact Nat.le_refl _), List.nil_append]
theorem zag_of_zig (z : Nat) (d : Int) (h : (z : Int) = zig d) : zag z = d := by
  unfold zig at h; unfold zag; split at h <;> split <;> omega
theorem mv_own (k : Nat) (a b c a' b' c' : Int) (hk : chk k [a, b, c] = 0) (hk' : chk k [a', b', c'] = 0) (i : Nat) (hi : i < (flds k).length) (T : List Bool) :
    mv k [a, b, c] i (bitsP (stepP k [a, b, c] [a', b', c'] i) ++ T) = (0, [a', b', c'].getD i 0, T) := by
  obtain ⟨_, h2, _⟩ := chk_good k a' b' c' hk'
  obtain ⟨g1, g2⟩ := h2 i hi
  have hb := rng_bd k i hi
  have hd := dz_eq [a, b, c] [a', b', c'] i
  have hgi := gi_own ([a', b', c'].getD i 0) (rngLo k i) (rngHi k i) g1 g2 (by omega) (by omega) T
  have hfp : bitsP [fldP k [a', b', c'] i] = Bi.numBits ([a', b', c'].getD i 0 - rngLo k i).toNat (wid (rngLo k i) (rngHi k i)) := by rw [bitsP_cons]; simp [bitsP, fldP]
  unfold stepP
  generalize dz [a, b, c] [a', b', c'] i = z at *
  by_cases h0 : z = 0
  · rw [if_pos h0, show bitsP [(0, 1)] ++ T = false :: T from rfl]
    obtain ⟨e1, e2, e3⟩ := get_bit false T
    unfold mv
    rw [e1, e2, e3, if_neg (by simp), if_pos (by rfl)]
    have : [a, b, c].getD i 0 = [a', b', c'].getD i 0 := by
      rw [h0] at hd; unfold zig at hd; split at hd <;> omega
    rw [this]
  · rw [if_neg h0]
    by_cases h16 : z ≤ 16
    · rw [if_pos h16, show bitsP [(1, 1), (1, 1), (z - 1, 4)] ++ T = true :: true :: (Bi.numBits (z - 1) 4 ++ T) by rw [bitsP_cons, bitsP_cons, bitsP_cons]; simp [bitsP]; rfl]
      obtain ⟨e1, e2, e3⟩ := get_bit true (true :: (Bi.numBits (z - 1) 4 ++ T))
      obtain ⟨f1, f2, f3⟩ := get_bit true (Bi.numBits (z - 1) 4 ++ T)
      obtain ⟨p1, p2, p3⟩ := get_nib (z - 1) (by omega) T
      have hz : zag (z - 1 + 1) = [a', b', c'].getD i 0 - [a, b, c].getD i 0 := by
        rw [show z - 1 + 1 = z by omega]; exact zag_of_zig z _ hd
      unfold mv
      rw [e1, e2, e3, f1, f2, f3, p1, p2, p3, hz, if_neg (by simp), if_neg (by decide), if_neg (by simp), if_neg (by decide), if_neg (by simp)]
      rw [show [a, b, c].getD i 0 + ([a', b', c'].getD i 0 - [a, b, c].getD i 0) = [a', b', c'].getD i 0 by omega, if_neg (by omega)]
    · rw [if_neg h16, show bitsP [(1, 1), (0, 1), fldP k [a', b', c'] i] ++ T = true :: false :: (bitsP [fldP k [a', b', c'] i] ++ T) by rw [bitsP_cons, bitsP_cons]; simp; rfl]
      obtain ⟨e1, e2, e3⟩ := get_bit true (false :: (bitsP [fldP k [a', b', c'] i] ++ T))
      obtain ⟨f1, f2, f3⟩ := get_bit false (bitsP [fldP k [a', b', c'] i] ++ T)
      unfold mv
      rw [e1, e2, e3, f1, f2, f3, hfp, cgE, cgV, cgS, hgi.1, hgi.2.1, hgi.2.2, if_neg (by simp), if_neg (by decide), if_neg (by simp), if_pos (by rfl), if_neg (by omega)]
/-- the fields: the first i are the new ones -/
def fMix (a b c a' b' c' : Int) (i : Nat) : List Int := [if 0 < i then a' else a, if 1 < i then b' else b, if 2 < i then c' else c]
theorem fMix_set (a b c a' b' c' : Int) (i : Nat) (hi : i < 3) : (fMix a b c a' b' c' i).set i ([a', b', c'].getD i 0) = fMix a b c a' b' c' (i + 1) := by
  have h3 : i = 0 ∨ i = 1 ∨ i = 2 := by omega
  rcases h3 with rfl | rfl | rfl <;> simp [fMix]
theorem fMix_all (k : Nat) (a b c a' b' c' : Int) (h : chk k [a, b, c] = 0) (h' : chk k [a', b', c'] = 0) : fMix a b c a' b' c' (flds k).length = [a', b', c'] := by
  obtain ⟨_, _, h3⟩ := chk_good k a b c h
  obtain ⟨_, _, h3'⟩ := chk_good k a' b' c' h'
  have p : ∀ i (x x' : Int), i < 3 → [a, b, c].getD i 0 = x → [a', b', c'].getD i 0 = x' → (if i < (flds k).length then x' else x) = x' := fun i x x' hi hx hx' => by
    by_cases q : i < (flds k).length
    · rw [if_pos q]
    · rw [if_neg q, ← hx, ← hx', h3 i (by omega) hi, h3' i (by omega) hi]
  unfold fMix
  rw [p 0 a a' (by omega) rfl rfl, p 1 b b' (by omega) rfl rfl, p 2 c c' (by omega) rfl rfl]
theorem runS_own (k : Nat) (a b c a' b' c' : Int) (h : chk k [a, b, c] = 0) (h' : chk k [a', b', c'] = 0) (T : List Bool) : ∀ (m i : Nat), i + m = (flds k).length →
    cgRun (fun i R => (mv k [a, b, c] i R).1) (fun i R => (mv k [a, b, c] i R).2.1) (fun i R => (mv k [a, b, c] i R).2.2) m i (fMix a b c a' b' c' i) (bitsP ((List.range' i m).flatMap (stepP k [a, b, c] [a', b', c'])) ++ T) = (0, [a', b', c'], T) := by
  have hfl := flds_len k
  intro m
  induction m with
  | zero =>
    intro i hi
    rw [show i = (flds k).length by omega, cgRun, fMix_all k a b c a' b' c' h h']
    rfl
  | succ m ih =>
    intro i hi
    have hs : bitsP ((List.range' i (m + 1)).flatMap (stepP k [a, b, c] [a', b', c'])) ++ T = bitsP (stepP k [a, b, c] [a', b', c'] i) ++ (bitsP ((List.range' (i + 1) m).flatMap (stepP k [a, b, c] [a', b', c'])) ++ T) := by
      rw [List.range'_succ, List.flatMap_cons, bitsP_append, List.append_assoc]
    rw [hs, cgRun_succ, mv_own k a b c a' b' c' h h' i (by omega), if_pos rfl, fMix_set a b c a' b' c' i (by omega)]
    exact ih (i + 1) (by omega)
/-- STEPS: what was put is read again -/
theorem sRes_own (k : Nat) (a b c a' b' c' : Int) (h : chk k [a, b, c] = 0) (h' : chk k [a', b', c'] = 0) (T : List Bool) : sRes k [a, b, c] (bitsP (stepTo k [a, b, c] [a', b', c'] (flds k).length) ++ T) = (0, [a', b', c'], T) := by
  have := runS_own k a b c a' b' c' h h' T (flds k).length 0 (by omega)
  rw [sRes, stepTo, List.range_eq_range']
  exact this
theorem getStep_own (k : Nat) (a b c a' b' c' : Int) (h : chk k [a, b, c] = 0) (h' : chk k [a', b', c'] = 0) (T R : List Bool) (hR : R = bitsP (stepTo k [a, b, c] [a', b', c'] (flds k).length) ++ T) : cgK k (sRes k [a, b, c] R) = k ∧ cgF (sRes k [a, b, c] R) = [a', b', c'] ∧ (sRes k [a, b, c] R).1 = 0 ∧ cgR R (sRes k [a, b, c] R) = T := by
  subst hR
  rw [sRes_own k a b c a' b' c' h h' T]
  exact ⟨rfl, rfl, rfl, rfl⟩
theorem sizeS_own (k : Nat) (W : List Int) (k' : Nat) (F : List Int) : sizeS k W k' F = (ownS k W k' F).length := by
  unfold sizeS ownS
  split
  · rw [bitsP_length]
  · rfl
theorem ownS_le (k : Nat) (W : List Int) (k' : Nat) (F : List Int) : (ownS k W k' F).length ≤ 600 := by
  unfold ownS
  split
  · rw [bitsP_length]
    have := psize_le9 (stepTo k W F (flds k).length) (stepTo_64 _ _ _ _)
    have := stepTo_le k W F (flds k).length
    have := flds_len k
    omega
  · simp
end Go.Proofs.Ytpfdbkfjjjiamaa
