/- RingLast: walked. -/
import Derived.Test.YtkcepmalahmkiaaRgAwake
import Derived.Test.YtkcepmalahmkiaaRgN13
import Derived.Test.YtkcepmalahmkiaaRgPure2
namespace Go.Proofs.Ytkcepmalahmkiaa
open Go.RowKit
def b8s (ts : List Nat) : List Value := ts.map fun (t : Nat) => .int .u8 t
theorem b8_at {w : World} {A : Option Addr} {xs : List Nat} (h : Rd w A (b8s xs)) (k : Nat) (hk : k < xs.length) :
    ∃ b off, A = some ⟨b, off, none⟩ ∧ w.cell? ⟨b, off + k, none⟩ = some (.int .u8 xs[k]) := by
  obtain ⟨b, off, h1, h2⟩ := h.at_ k (by simpa [b8s] using hk)
  exact ⟨b, off, h1, by simpa [b8s] using h2⟩
def t32l (ts : List Nat) : List Value := ts.map fun (t : Nat) => .int .u32 t
theorem t32l_at {w : World} {A : Option Addr} {xs : List Nat} (h : Rd w A (t32l xs)) (k : Nat) (hk : k < xs.length) :
    ∃ b off, A = some ⟨b, off, none⟩ ∧ w.cell? ⟨b, off + k, none⟩ = some (.int .u32 xs[k]) := by
  obtain ⟨b, off, h1, h2⟩ := h.at_ k (by simpa [t32l] using hk)
  exact ⟨b, off, h1, by simpa [t32l] using h2⟩
/-- the ticks that the law makes -/
def tickAt (ss : List Nat) : Nat → Nat
  | 0 => 0
  | j + 1 => tickAt ss j + (1 + ss.getD j 0)
theorem tickAt_lt (ss : List Nat) (hs : ∀ s ∈ ss, s < 256) (j : Nat) : tickAt ss j ≤ 256 * j := by
  induction j with
  | zero => exact Nat.le_refl _
  | succ j ih =>
    have : ss.getD j 0 < 256 := by
      rw [List.getD_eq_getElem?_getD]
      cases h : ss[j]? with
      | none => simp
      | some s => exact hs s (List.mem_of_getElem? h)
    simp only [tickAt]; omega
theorem tickAt_mono (ss : List Nat) (i j : Nat) (h : i < j) : tickAt ss i < tickAt ss j := by
  induction j with
  | zero => omega
  | succ j ih =>
    simp only [tickAt]
    rcases Nat.lt_or_ge i j with q | q
    · have := ih q; omega
    · obtain rfl : i = j := by omega
      omega
/-- all that was put -/
def allTo (ss : List Nat) (j : Nat) : List (Rit Int) := (List.range j).map fun i => ⟨tickAt ss (i + 1), (i : Int)⟩
theorem allTo_succ (ss : List Nat) (j : Nat) : allTo ss (j + 1) = allTo ss j ++ [⟨tickAt ss (j + 1), (j : Int)⟩] := by simp [allTo, List.range_succ]
theorem allTo_length (ss : List Nat) (j : Nat) : (allTo ss j).length = j := by simp [allTo]
theorem allTo_get (ss : List Nat) (j i : Nat) (h : i < (allTo ss j).length) : (allTo ss j)[i] = ⟨tickAt ss (i + 1), (i : Int)⟩ := by simp [allTo]
theorem allTo_rising (ss : List Nat) (j : Nat) : Rising (allTo ss j) := by
  unfold Rising
  rw [List.pairwise_iff_getElem]
  intro i k hi hk hik
  rw [allTo_get, allTo_get]
  exact tickAt_mono ss _ _ (by omega)
/-- what is held: the last n -/
def heldTo (ss : List Nat) (n j : Nat) : List (Rit Int) := (allTo ss j).drop (j - n)
theorem heldTo_length (ss : List Nat) (n j : Nat) : (heldTo ss n j).length = min n j := by
  unfold heldTo
  rw [List.length_drop, allTo_length]; omega
theorem heldTo_get (ss : List Nat) (n j i : Nat) (h : i < (heldTo ss n j).length) : (heldTo ss n j)[i] = ⟨tickAt ss (j - n + i + 1), ((j - n + i : Nat) : Int)⟩ := by simp [heldTo, allTo]
theorem held_fresh (ss : List Nat) (n j : Nat) : stale (heldTo ss n j) (tickAt ss (j + 1)) = false := by
  rw [← any_stale (show Rising (heldTo ss n j) from (allTo_rising ss j).drop _), List.any_eq_false]
  intro x hx
  obtain ⟨i, hi, rfl⟩ := List.getElem_of_mem (List.mem_of_mem_drop hx)
  rw [allTo_get]
  have := tickAt_mono ss (i + 1) (j + 1) (by rw [allTo_length] at hi; omega)
  simp; omega
theorem held_put (ss : List Nat) (n j : Nat) (hn : 1 ≤ n) : putL n (heldTo ss n j) (tickAt ss (j + 1)) (j : Int) = heldTo ss n (j + 1) ∧ putE (heldTo ss n j) (tickAt ss (j + 1)) = 0 := by
  rw [putL, putE, held_fresh]
  refine ⟨?_, rfl⟩
  rw [if_neg (by decide), heldTo_length]
  unfold heldTo
  rw [allTo_succ]
  by_cases h : n ≤ j
  · rw [if_pos (by omega), List.drop_drop, List.drop_append_of_le_length (by rw [allTo_length]; omega)]
    congr 2; omega
  · rw [if_neg (by omega), show j - n = 0 by omega, show j + 1 - n = 0 by omega, List.drop_zero, List.drop_zero]
theorem found_held (ss : List Nat) (n j i : Nat) (hi : i < j) : found (heldTo ss n j) (tickAt ss (i + 1)) = if j - n ≤ i then some (i : Int) else none := by
  by_cases h : j - n ≤ i
  · rw [if_pos h]
    have hd : i - (j - n) < (heldTo ss n j).length := by rw [heldTo_length]; omega
    have := found_idx (heldTo ss n j) ((allTo_rising ss j).drop _) (i - (j - n)) hd
    have e2 : (heldTo ss n j)[i - (j - n)] = ⟨tickAt ss (i + 1), (i : Int)⟩ := by
      rw [heldTo_get]
      congr 2 <;> omega
    rw [e2] at this
    exact this
  · rw [if_neg h]
    refine found_isNone fun x hx => ?_
    obtain ⟨k, hk, rfl⟩ := List.getElem_of_mem hx
    rw [heldTo_get]
    dsimp only
    have := tickAt_mono ss (i + 1) (j - n + k + 1) (by omega)
    omega
end Go.Proofs.Ytkcepmalahmkiaa
