/- Rings, as lists: what is cut off; what is found. -/
import Derived.Test.YtkcepmalahmkiaaRgPut
namespace Go.Proofs.Ytkcepmalahmkiaa
section
variable {α : Type}
theorem found_idx : ∀ (ys : List (Rit α)), Rising ys → ∀ i (hi : i < ys.length), found ys ys[i].tick = some ys[i].v := by
  intro ys
  induction ys with
  | nil => intro _ i hi; cases hi
  | cons y ys ih =>
    intro hr i hi
    cases i with
    | zero => simp [found]
    | succ i =>
      have hi' : i < ys.length := by simpa using hi
      have hlt := (List.pairwise_cons.1 hr).1 ys[i] (List.getElem_mem _)
      have hne : ¬ y.tick = ys[i].tick := by omega
      have := ih hr.tail i hi'
      simpa [found, List.find?_cons, hne] using this
theorem found_isNone {xs : List (Rit α)} {t : Nat} (h : ∀ x ∈ xs, x.tick ≠ t) : found xs t = none := by
  unfold found
  rw [Option.map_eq_none_iff, List.find?_eq_none]
  intro x hx
  simpa using h x hx
theorem Rising.drop {xs : List (Rit α)} (h : Rising xs) (n : Nat) : Rising (xs.drop n) := h.sublist (List.drop_sublist _ _)
theorem lb_drop {xs : List (Rit α)} (h : Rising xs) (t : Nat) : lb (xs.drop (lb xs t)) t = 0 := by
  unfold lb
  rw [List.length_eq_zero_iff, List.filter_eq_nil_iff]
  intro x hx
  rw [← lb, ← filter_drop h] at hx
  have := (List.mem_filter.1 hx).2
  simp only [decide_eq_true_eq] at this ⊢
  omega
/-- of what is left each is found, of what is cut off none -/
theorem found_drop {xs : List (Rit α)} (h : Rising xs) (t : Nat) (i : Nat) (hi : i < xs.length) : found (xs.drop (lb xs t)) xs[i].tick = if t ≤ xs[i].tick then some xs[i].v else none := by
  have e := lb_iff h t i hi
  by_cases q : t ≤ xs[i].tick
  · rw [if_pos q]
    have hle : lb xs t ≤ i := Nat.le_of_not_lt fun l => by have := e.2 l; omega
    have hd : i - lb xs t < (xs.drop (lb xs t)).length := by rw [List.length_drop]; omega
    have := found_idx _ (h.drop (lb xs t)) (i - lb xs t) hd
    have e2 : (xs.drop (lb xs t))[i - lb xs t] = xs[i] := by rw [List.getElem_drop]; congr 1; omega
    rwa [e2] at this
  · rw [if_neg q]
    refine found_isNone fun x hx => ?_
    rw [← filter_drop h] at hx
    have := (List.mem_filter.1 hx).2
    simp only [decide_eq_true_eq] at this
    omega
theorem found_put {most : Nat} {xs : List (Rit α)} {t : Nat} {v : α} (hr : Rising (putL most xs t v)) (h : stale xs t = false) : found (putL most xs t v) t = some v := by
  rw [putL, if_neg (by rw [h]; decide)] at hr ⊢
  generalize (if xs.length = most then xs.drop 1 else xs) = ys at *
  have := found_idx _ hr ys.length (by simp)
  simpa using this
theorem putL_ticks {β : Type} {most : Nat} {xs : List (Rit α)} {ys : List (Rit β)} {t : Nat} {v : α} {u : β} (h : xs.map (·.tick) = ys.map (·.tick)) : (putL most xs t v).map (·.tick) = (putL most ys t u).map (·.tick) ∧ putE xs t = putE ys t ∧ stale xs t = stale ys t := by
  have hl : xs.length = ys.length := by simpa using congrArg List.length h
  have hs : stale xs t = stale ys t := by
    have e := congrArg List.getLast? h
    simp only [List.getLast?_map] at e
    unfold stale
    cases h1 : xs.getLast? <;> cases h2 : ys.getLast? <;> rw [h1, h2] at e <;> simp at e ⊢
    rw [e]
  refine ⟨?_, by rw [putE, putE, hs], hs⟩
  rw [putL, putL, hs, hl]
  split
  · exact h
  · simp only [List.map_append, List.map_cons, List.map_nil]
    congr 1
    split
    · rw [List.map_drop, List.map_drop, h]
    · exact h
theorem putL_all {most : Nat} {xs : List (Rit α)} {t : Nat} {v : α} {p : Rit α → Prop} (h : ∀ x ∈ xs, p x) (hv : p ⟨t, v⟩) : ∀ x ∈ putL most xs t v, p x := by
  intro x hx
  unfold putL at hx
  split at hx
  · exact h x hx
  · rcases List.mem_append.1 hx with hx | hx
    · split at hx
      · exact h x (List.mem_of_mem_drop hx)
      · exact h x hx
    · obtain rfl := List.mem_singleton.1 hx
      exact hv
end
end Go.Proofs.Ytkcepmalahmkiaa
