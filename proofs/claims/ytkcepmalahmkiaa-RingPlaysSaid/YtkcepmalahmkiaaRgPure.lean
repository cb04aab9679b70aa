/- Things by rising ticks: plain lists, no program in sight. -/
import Derived.Below
namespace Go.Proofs.Ytkcepmalahmkiaa

/-- a thing and its tick -/
structure Rit (α : Type) where
  tick : Nat
  v : α
section
variable {α : Type} (cs : α → List Value) (k : Nat) (hk : ∀ x, (cs x).length = k)
def rcells (xs : List (Rit α)) : List Value := xs.flatMap fun x => .int .u32 x.tick :: cs x.v
theorem rcells_append (xs ys : List (Rit α)) : rcells cs (xs ++ ys) = rcells cs xs ++ rcells cs ys := by simp [rcells]
include hk
theorem rcells_length (xs : List (Rit α)) : (rcells cs xs).length = xs.length * (k + 1) := by
  induction xs with
  | nil => simp [rcells]
  | cons x xs ih => simp only [rcells, List.flatMap_cons, List.length_append, List.length_cons, hk] at ih ⊢; rw [ih, Nat.add_mul]; omega
theorem rcells_drop (xs : List (Rit α)) (n : Nat) : rcells cs (xs.drop n) = (rcells cs xs).drop (n * (k + 1)) := by
  induction xs generalizing n with
  | nil => simp [rcells]
  | cons x xs ih =>
    cases n with
    | zero => simp
    | succ n =>
      have e : rcells cs (x :: xs) = (.int .u32 x.tick :: cs x.v) ++ rcells cs xs := rfl
      have hl : (Value.int .u32 x.tick :: cs x.v).length = k + 1 := by rw [List.length_cons, hk]
      have e3 : (n + 1) * (k + 1) = n * (k + 1) + (k + 1) := by rw [Nat.add_mul, Nat.one_mul]
      rw [List.drop_succ_cons, ih, e, List.drop_append, hl, e3, Nat.add_sub_cancel, List.drop_eq_nil_of_le (as := Value.int .u32 x.tick :: cs x.v) (by omega)]
      rfl
theorem rcells_take (xs : List (Rit α)) (n : Nat) : rcells cs (xs.take n) = (rcells cs xs).take (n * (k + 1)) := by
  induction xs generalizing n with
  | nil => simp [rcells]
  | cons x xs ih =>
    cases n with
    | zero => simp [rcells]
    | succ n =>
      have e : rcells cs (x :: xs) = (.int .u32 x.tick :: cs x.v) ++ rcells cs xs := rfl
      have e2 : rcells cs (x :: xs.take n) = (.int .u32 x.tick :: cs x.v) ++ rcells cs (xs.take n) := rfl
      have hl : (Value.int .u32 x.tick :: cs x.v).length = k + 1 := by rw [List.length_cons, hk]
      have e3 : (n + 1) * (k + 1) = n * (k + 1) + (k + 1) := by rw [Nat.add_mul, Nat.one_mul]
      rw [List.take_succ_cons, e2, ih, e, List.take_append, hl, e3, Nat.add_sub_cancel, List.take_of_length_le (l := Value.int .u32 x.tick :: cs x.v) (by omega)]
theorem rcells_at (xs : List (Rit α)) (i : Nat) (h : i < xs.length) (j : Nat) (hj : j < k + 1) : (rcells cs xs)[i * (k + 1) + j]? = (.int .u32 xs[i].tick :: cs xs[i].v)[j]? := by
  have e := rcells_drop cs k hk xs i
  rw [List.drop_eq_getElem_cons h] at e
  have e2 : rcells cs (xs[i] :: xs.drop (i + 1)) = (.int .u32 xs[i].tick :: cs xs[i].v) ++ rcells cs (xs.drop (i + 1)) := rfl
  rw [e2] at e
  have a := congrArg (fun l => l[j]?) e
  simp only [List.getElem?_drop] at a
  rw [← a, List.getElem?_append_left (by rw [List.length_cons, hk]; exact hj)]
end
theorem rcells_one {α : Type} (cs : α → List Value) (k : Nat) (_hk : ∀ x, (cs x).length = k) (h1 : ∀ x, ∀ u ∈ cs x, u.oneCell' = true) (xs : List (Rit α)) : ∀ u ∈ rcells cs xs, u.oneCell' = true := by
  intro u hu
  obtain ⟨x, _, hux⟩ := List.mem_flatMap.1 hu
  rcases List.mem_cons.1 hux with rfl | hux
  · rfl
  · exact h1 _ u hux
section
variable {α : Type}
/-- by rising ticks -/
def Rising (xs : List (Rit α)) : Prop := xs.Pairwise fun x y => x.tick < y.tick
/-- how many have lesser ticks -/
def lb (xs : List (Rit α)) (t : Nat) : Nat := (xs.filter fun x => decide (x.tick < t)).length
theorem lb_le (xs : List (Rit α)) (t : Nat) : lb xs t ≤ xs.length := List.length_filter_le _ _
theorem Rising.tail {x : Rit α} {xs : List (Rit α)} (h : Rising (x :: xs)) : Rising xs := (List.pairwise_cons.1 h).2
theorem Rising.lt {xs : List (Rit α)} (h : Rising xs) (i j : Nat) (hij : i < j) (hj : j < xs.length) : (xs[i]'(by omega)).tick < xs[j].tick := List.pairwise_iff_getElem.1 h i j (by omega) hj hij
theorem lb_cons (x : Rit α) (xs : List (Rit α)) (t : Nat) : lb (x :: xs) t = (if x.tick < t then 1 else 0) + lb xs t := by
  by_cases h : x.tick < t <;> simp [lb, h]; omega
/-- those below it are less, those from it on aren't -/
theorem lb_iff {xs : List (Rit α)} (h : Rising xs) (t : Nat) (i : Nat) (hi : i < xs.length) : xs[i].tick < t ↔ i < lb xs t := by
  induction xs generalizing i with
  | nil => cases hi
  | cons x xs ih =>
    rw [lb_cons]
    cases i with
    | zero =>
      by_cases hx : x.tick < t
      · simp [hx]; omega
      · have : lb xs t = 0 := by
          have hall : ∀ y ∈ xs, ¬ y.tick < t := fun y hy => by have := (List.pairwise_cons.1 h).1 y hy; omega
          unfold lb
          rw [List.filter_eq_nil_iff.2 (by simpa using hall)]; rfl
        simp [hx, this]
    | succ i =>
      have hi' : i < xs.length := by simpa using hi
      have e := ih h.tail i hi'
      simp only [List.getElem_cons_succ]
      by_cases hx : x.tick < t
      · rw [if_pos hx, e]; omega
      · rw [if_neg hx, e]
        have hlt := (List.pairwise_cons.1 h).1 xs[i] (List.getElem_mem _)
        have : ¬ xs[i].tick < t := by omega
        rw [e] at this
        omega
/-- is it there? -/
def found (xs : List (Rit α)) (t : Nat) : Option α := (xs.find? fun x => decide (x.tick = t)).map (·.v)
theorem found_at {xs : List (Rit α)} (h : Rising xs) (t : Nat) (hi : lb xs t < xs.length) (ht : xs[lb xs t].tick = t) : found xs t = some xs[lb xs t].v := by
  have key : ∀ (ys : List (Rit α)), Rising ys → ∀ i (hi : i < ys.length), ys[i].tick = t → found ys t = some ys[i].v := by
    intro ys
    induction ys with
    | nil => intro _ i hi; cases hi
    | cons y ys ih =>
      intro hr i hi he
      cases i with
      | zero => simp only [List.getElem_cons_zero] at he; simp [found, he]
      | succ i =>
        have hi' : i < ys.length := by simpa using hi
        have hlt := (List.pairwise_cons.1 hr).1 ys[i] (List.getElem_mem _)
        simp only [List.getElem_cons_succ] at he ⊢
        have hne : ¬ y.tick = t := by omega
        have := ih hr.tail i hi' he
        simpa [found, List.find?_cons, hne] using this
  exact key xs h _ hi ht
theorem found_none {xs : List (Rit α)} (h : Rising xs) (t : Nat) (hn : ∀ hi : lb xs t < xs.length, ¬ xs[lb xs t].tick = t) : found xs t = none := by
  unfold found
  rw [Option.map_eq_none_iff, List.find?_eq_none]
  intro x hx
  obtain ⟨i, hi, rfl⟩ := List.getElem_of_mem hx
  simp only [decide_eq_true_eq]
  intro he
  have h1 : ¬ i < lb xs t := fun q => by have := (lb_iff h t i hi).2 q; omega
  have hl : lb xs t < xs.length := by omega
  rcases Nat.lt_or_ge (lb xs t) i with q | q
  · have h2 := Rising.lt h (lb xs t) i q hi
    have h3 : ¬ xs[lb xs t].tick < t := fun q => by have := (lb_iff h t _ hl).1 q; omega
    omega
  · have : i = lb xs t := by omega
    subst this
    exact hn hl he
end
end Go.Proofs.Ytkcepmalahmkiaa
