/- Numbers of a range; a writer with bits ahead. -/
import Derived.Test.YtpfdbkfjjjiamaaNm1
namespace Go.Proofs.Ytpfdbkfjjjiamaa
open Go.RowKit

theorem bitLen_iff (k : Nat) : ∀ x, x < 18446744073709551616 → (Lib.bitLen x ≤ k ↔ x < 2 ^ k) := by
  induction k with
  | zero =>
    intro x hx
    rcases Nat.eq_zero_or_pos x with rfl | h
    · simp [bitLen_zero]
    · have := bitLen_half x h hx
      constructor <;> intro h2
      · omega
      · simp at h2; omega
  | succ k ih =>
    intro x hx
    rcases Nat.eq_zero_or_pos x with rfl | h
    · simp [bitLen_zero, Nat.pow_pos]
    · rw [bitLen_half x h hx, Nat.add_le_add_iff_right, ih (x / 2) (by omega), Nat.pow_succ, Nat.div_lt_iff_lt_mul (by omega)]
theorem bitLen_lt (x : Nat) (hx : x < 18446744073709551616) : x < 2 ^ Lib.bitLen x := (bitLen_iff _ x hx).1 (Nat.le_refl _)
theorem wid_le (lo hi : Int) : wid lo hi ≤ 64 := by unfold wid; split; omega; exact bitLen_le _
theorem numErr (L : List Bool) (x k : Nat) (hk : k ≤ 64) (hx : x < 2 ^ k) (hL : L.length + k ≤ 1048576) : Bi.putErr L x k = 0 := by
  unfold Bi.putErr
  rw [if_neg (by omega), if_neg (by simp [Nat.div_eq_of_lt hx]), if_neg (by simp; omega)]
theorem numRes (L : List Bool) (x k : Nat) (hk : k ≤ 64) (hx : x < 2 ^ k) (hL : L.length + k ≤ 1048576) : Bi.putRes L x k = L ++ Bi.numBits x k := by
  rw [Bi.putRes, if_pos (numErr L x k hk hx hL)]; rfl
theorem own_obj_ne {w : World} {base e size n g T : Nat} {v : Value} {xs : List Value} {cs : Array Value} {fz : Nat × Nat} (h : w.ownsRow base e size v n xs) (hg : w.heap[g]? = some (.cells cs T fz)) (hne : e ≠ T) : ¬ v.ownBlock = some g := by
  intro hb
  obtain ⟨hl, ⟨rfl, _⟩ | ⟨g3, cap, cur, rfl, _, hh, r⟩⟩ := h
  · cases hb
  · simp only [Value.ownBlock, Option.some.injEq] at hb
    subst hb
    rw [hg] at hh
    injection hh with hh
    injection hh with _ hh
    exact hne hh.symm
theorem Wrote.row {wa wb : World} {base g : Nat} {v v' u : Value} {L : List Bool} {b2 n : Nat} {xs : List Value} (hU : Wrote base g v v' wa wb) (hW : IsW wa base g v L) (h : wa.ownsRow b2 4 1 u n xs) : wb.ownsRow b2 4 1 u n xs := by
  refine own_upd h hU.upd ?_
  rintro b hb (q | q)
  · exact own_obj_ne h hW.obj (by decide) (q ▸ hb)
  · exact own_apart h hW.row (by decide) b hb q

/-- a number's bits in a range; or the error -/
def inL (n lo hi : Int) : List Bool := if hi < lo ∨ n < lo ∨ hi < n then [] else Bi.numBits (n - lo).toNat (wid lo hi)
def inE (n lo hi : Int) : Int := if hi < lo then 1 else if n < lo ∨ hi < n then 5 else 0
theorem in_lt (n lo hi : Int) (h1 : lo ≤ n) (h2 : n ≤ hi) (h3 : -9223372036854775808 ≤ lo) (h4 : hi ≤ 9223372036854775807) : (n - lo).toNat < 2 ^ wid lo hi := by
  rw [wid_pos (by omega)]
  exact Nat.lt_of_le_of_lt (by omega) (bitLen_lt (hi - lo).toNat (by omega))
theorem inL_le (n lo hi : Int) : (inL n lo hi).length ≤ 64 := by
  unfold inL; split
  · simp
  · rw [Bi.numBits_length]; exact wid_le lo hi

end Go.Proofs.Ytpfdbkfjjjiamaa
