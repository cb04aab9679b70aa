/- Put into a ring, as lists. -/
import Derived.Test.YtkcepmalahmkiaaRgPure
namespace Go.Proofs.Ytkcepmalahmkiaa
section
variable {α : Type}
/-- is it no later than the last one? -/
def stale (xs : List (Rit α)) (t : Nat) : Bool := match xs.getLast? with | none => false | some y => decide (t ≤ y.tick)
def putE (xs : List (Rit α)) (t : Nat) : Int := if stale xs t = true then 12 else 0
def putL (most : Nat) (xs : List (Rit α)) (t : Nat) (x : α) : List (Rit α) := if stale xs t = true then xs else (if xs.length = most then xs.drop 1 else xs) ++ [⟨t, x⟩]
theorem stale_yes {xs : List (Rit α)} {t : Nat} (h : stale xs t = true) : ∃ l, ∃ hl : l + 1 = xs.length, t ≤ (xs[l]'(by omega)).tick := by
  unfold stale at h
  split at h
  · cases h
  · rename_i y hy
    have h0 : 0 < xs.length := by
      cases xs with
      | nil => cases hy
      | cons _ _ => simp
    refine ⟨xs.length - 1, by omega, ?_⟩
    rw [List.getLast?_eq_getElem?, List.getElem?_eq_getElem (by omega)] at hy
    rw [Option.some.inj hy]
    exact of_decide_eq_true h
theorem rising_put {xs : List (Rit α)} {t : Nat} (hr : Rising xs) (h : ¬ stale xs t = true) (x : α) : Rising (xs ++ [⟨t, x⟩]) := by
  unfold Rising
  rw [List.pairwise_append]
  refine ⟨hr, List.pairwise_singleton _ _, fun y hy z hz => ?_⟩
  obtain rfl := List.mem_singleton.1 hz
  obtain ⟨i, hi, rfl⟩ := List.getElem_of_mem hy
  unfold stale at h
  rw [List.getLast?_eq_getElem?, List.getElem?_eq_getElem (by omega)] at h
  simp only [decide_eq_true_eq] at h
  rcases Nat.lt_or_ge i (xs.length - 1) with q | q
  · have := Rising.lt hr i (xs.length - 1) q (by omega)
    dsimp only
    omega
  · have e : i = xs.length - 1 := by omega
    subst e
    dsimp only
    omega
theorem putL_len {most : Nat} {xs : List (Rit α)} (h : xs.length ≤ most) (h1 : 1 ≤ most) (t : Nat) (x : α) : (putL most xs t x).length ≤ most := by
  unfold putL
  split
  · exact h
  · rw [List.length_append]
    split
    · simp; omega
    · simp; omega
theorem stale_no {xs : List (Rit α)} {t : Nat} (hr : Rising xs) (h : ¬ stale xs t = true) : ∀ y ∈ xs, y.tick < t := by
  intro y hy
  unfold stale at h
  obtain ⟨i, hi, rfl⟩ := List.getElem_of_mem hy
  rw [List.getLast?_eq_getElem?, List.getElem?_eq_getElem (by omega)] at h
  simp only [decide_eq_true_eq] at h
  rcases Nat.lt_or_ge i (xs.length - 1) with q | q
  · have := Rising.lt hr i (xs.length - 1) q (by omega)
    omega
  · have e : i = xs.length - 1 := by omega
    subst e
    omega
theorem any_stale {xs : List (Rit α)} (hr : Rising xs) (t : Nat) : xs.any (fun y => decide (t ≤ y.tick)) = stale xs t := by
  by_cases h : stale xs t = true
  · rw [h]
    obtain ⟨l, hl, hlt⟩ := stale_yes h
    exact List.any_eq_true.2 ⟨_, List.getElem_mem _, by simpa using hlt⟩
  · have := stale_no hr h
    rw [Bool.not_eq_true] at h
    rw [h, List.any_eq_false]
    intro y hy
    have := this y hy
    simp; omega
theorem filter_drop {xs : List (Rit α)} (hr : Rising xs) (t : Nat) : xs.filter (fun y => decide (t ≤ y.tick)) = xs.drop (lb xs t) := by
  induction xs with
  | nil => rfl
  | cons x xs ih =>
    rw [lb_cons]
    by_cases hx : x.tick < t
    · rw [if_pos hx, Nat.add_comm, List.drop_succ_cons, ← ih hr.tail, List.filter_cons, if_neg (by simp; omega)]
    · have hall : ∀ y ∈ xs, ¬ y.tick < t := fun y hy => by have := (List.pairwise_cons.1 hr).1 y hy; omega
      have : lb xs t = 0 := by
        unfold lb
        rw [List.filter_eq_nil_iff.2 (by simpa using hall)]; rfl
      rw [if_neg hx, this, Nat.add_zero, List.drop_zero]
      rw [List.filter_eq_self]
      intro y hy
      rcases List.mem_cons.1 hy with rfl | hy
      · simp; omega
      · have := hall y hy; simp; omega
end
end Go.Proofs.Ytkcepmalahmkiaa
