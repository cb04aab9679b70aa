/- Stable sort: turning a part about a place, merging by turns (plain law, no program). -/
import Derived.Test.YtdnkdmdmekdfkaaKit
import Derived.Sort.LotA
namespace Go.Proofs.Ytdnkdmdmekdfkaa
open Go.Sort
namespace Ss
variable {α : Type} [Inhabited α]
/-- where the element at t comes from, when [l, r) turns about m -/
def rotI (l m r t : Nat) : Nat := if l ≤ t ∧ t < l + (r - m) then t + (m - l) else if l + (r - m) ≤ t ∧ t < r then t - (r - m) else t
/-- where it comes from, when [a, a+n) and [b, b+n) change places -/
def swpI (a b n t : Nat) : Nat := if a ≤ t ∧ t < a + n then t - a + b else if b ≤ t ∧ t < b + n then t - b + a else t
/-- d' is d, read by f -/
def Idx (f : Nat → Nat) (d d' : Array α) : Prop := ∀ t, d'[t]! = d[f t]!
def swpR (d : Array α) (a b : Nat) : Nat → Array α
  | 0 => d
  | n + 1 => swp (swpR d a b n) (a + n) (b + n)
theorem swpR_size (d : Array α) (a b n : Nat) : (swpR d a b n).size = d.size := by
  induction n with
  | zero => rfl
  | succ n ih => rw [swpR, swp_size, ih]
theorem swpR_idx (d : Array α) (a b n : Nat) (h1 : a + n ≤ b) (h2 : b + n ≤ d.size) : Idx (swpI a b n) d (swpR d a b n) := by
  induction n with
  | zero => intro t; unfold swpI; rw [if_neg (by omega), if_neg (by omega)]; rfl
  | succ n ih =>
    intro t
    have ih := ih (by omega) (by omega)
    rw [swpR, swp_get _ (by rw [swpR_size]; omega) (by rw [swpR_size]; omega)]
    split
    · rw [ih]
      congr 1
      unfold swpI
      split <;> split <;> (try split) <;> (try split) <;> omega
    · split
      · rw [ih]
        congr 1
        unfold swpI
        split <;> split <;> (try split) <;> (try split) <;> omega
      · rw [ih]
        congr 1
        unfold swpI
        split <;> split <;> (try split) <;> (try split) <;> omega
theorem swpR_perm (d : Array α) (a b n l r : Nat) (h0 : l ≤ a) (h1 : a + n ≤ b) (h2 : b + n ≤ r) (h3 : r ≤ d.size) : PermIn l r d (swpR d a b n) := by
  induction n with
  | zero => exact permIn_refl _ _ _
  | succ n ih => exact permIn_trans _ _ _ _ _ (ih (by omega) (by omega)) (swp_permIn _ _ _ _ _ (by omega) (by omega) (by omega) (by omega) (by rw [swpR_size]; exact h3))
theorem rot_start (a m b t : Nat) (h1 : a ≤ m) (h2 : m ≤ b) : rotI a m b t = rotI (m - (m - a)) m (m + (b - m)) t := by rw [show m - (m - a) = a by omega, show m + (b - m) = b by omega]
theorem rot_left (m i j t : Nat) (hj : 0 < j) (hij : j < i) (him : i ≤ m) : rotI (m - i) m (m + j) t = swpI (m - i) m j (rotI (m - (i - j)) m (m + j) t) := by
  unfold rotI swpI
  split <;> split <;> (try split) <;> (try split) <;> (try split) <;> (try split) <;> omega
theorem rot_right (m i j t : Nat) (hi : 0 < i) (hij : i < j) (him : i ≤ m) : rotI (m - i) m (m + j) t = swpI (m - i) (m + j - i) i (rotI (m - i) m (m + (j - i)) t) := by
  unfold rotI swpI
  split <;> split <;> (try split) <;> (try split) <;> (try split) <;> (try split) <;> omega
theorem rot_end (m i t : Nat) (him : i ≤ m) : rotI (m - i) m (m + i) t = swpI (m - i) m i t := by
  unfold rotI swpI
  split <;> split <;> (try split) <;> (try split) <;> omega
theorem rot_none1 (m r t : Nat) : rotI m m r t = t := by unfold rotI; split <;> (try split) <;> omega
theorem rot_none2 (l m t : Nat) (h : l ≤ m) : rotI l m m t = t := by unfold rotI; split <;> (try split) <;> omega
/-- one step of an insertion from the left: k and k+1 change -/
theorem rot_up (d d1 : Array α) (a k : Nat) (hk : a ≤ k) (hs : k + 1 < d.size) (hd : d1.size = d.size) (h : Idx (rotI a (a + 1) (k + 1)) d d1) : Idx (rotI a (a + 1) (k + 2)) d (swp d1 k (k + 1)) := by
  intro t
  rw [swp_get _ (by omega) (by omega)]
  split
  · rw [h]; congr 1; unfold rotI; split <;> split <;> (try split) <;> (try split) <;> omega
  · split
    · rw [h]; congr 1; unfold rotI; split <;> split <;> (try split) <;> (try split) <;> omega
    · rw [h]; congr 1; unfold rotI; split <;> split <;> (try split) <;> (try split) <;> omega
/-- one step of an insertion from the right: k+1 and k change -/
theorem rot_down (d d1 : Array α) (m k : Nat) (hk : k + 1 ≤ m) (hs : m < d.size) (hd : d1.size = d.size) (h : Idx (rotI (k + 1) m (m + 1)) d d1) : Idx (rotI k m (m + 1)) d (swp d1 (k + 1) k) := by
  intro t
  rw [swp_get _ (by omega) (by omega)]
  split
  · rw [h]; congr 1; unfold rotI; split <;> split <;> (try split) <;> (try split) <;> omega
  · split
    · rw [h]; congr 1; unfold rotI; split <;> split <;> (try split) <;> (try split) <;> omega
    · rw [h]; congr 1; unfold rotI; split <;> split <;> (try split) <;> (try split) <;> omega
section
variable {lt : α → α → Bool}
theorem asym {β : Type} {lq : β → β → Bool} (hS : SWO lq) {x y : β} (h : lq x y = true) : lq y x = false := hS.asymmA h
/-- x is put where it belongs, from the left -/
theorem ins_left (hS : SWO lt) (d d' : Array α) (a b i : Nat) (h1 : a + 1 ≤ i) (h2 : i ≤ b) (hs : SortedIn lt (a + 1) b d) (hl : i = a + 1 ∨ lt d[i - 1]! d[a]! = true) (hr : i = b ∨ lt d[i]! d[a]! = false) (hI : Idx (rotI a (a + 1) i) d d') : SortedIn lt a b d' := by
  have lo : ∀ t, a + 1 ≤ t → t < i → lt d[a]! d[t]! = false := fun t q1 q2 => by
    rcases hl with hl | hl
    · omega
    · by_cases q : t = i - 1
      · subst q; exact asym hS hl
      · exact hS.ntrans _ _ _ (asym hS hl) (hs t (i - 1) q1 (by omega) (by omega))
  have hi : ∀ t, i ≤ t → t < b → lt d[t]! d[a]! = false := fun t q1 q2 => by
    rcases hr with hr | hr
    · omega
    · by_cases q : t = i
      · subst q; exact hr
      · exact hS.ntrans _ _ _ (hs i t (by omega) (by omega) q2) hr
  intro s t q1 q2 q3
  rw [hI, hI]
  have e : ∀ u, rotI a (a + 1) i u = if a ≤ u ∧ u < i - 1 then u + 1 else if u = i - 1 then a else u := fun u => by
    unfold rotI
    split <;> split <;> (try split) <;> (try split) <;> omega
  rw [e s, e t]
  by_cases c1 : t < i - 1
  · rw [if_pos (by omega), if_pos (by omega)]
    exact hs _ _ (by omega) (by omega) (by omega)
  · by_cases c2 : t = i - 1
    · rw [if_neg (by omega), if_pos c2, if_pos (by omega)]
      exact lo _ (by omega) (by omega)
    · rw [if_neg (by omega), if_neg c2]
      by_cases c3 : s < i - 1
      · rw [if_pos (by omega)]
        exact hs _ _ (by omega) (by omega) (by omega)
      · rw [if_neg (by omega)]
        by_cases c4 : s = i - 1
        · rw [if_pos c4]; exact hi _ (by omega) q3
        · rw [if_neg c4]; exact hs _ _ (by omega) q2 q3
/-- x is put where it belongs, from the right -/
theorem ins_right (hS : SWO lt) (d d' : Array α) (a m i : Nat) (h1 : a ≤ i) (h2 : i ≤ m) (hs : SortedIn lt a m d) (hl : i = a ∨ lt d[m]! d[i - 1]! = false) (hr : i = m ∨ lt d[m]! d[i]! = true) (hI : Idx (rotI i m (m + 1)) d d') : SortedIn lt a (m + 1) d' := by
  have lo : ∀ t, a ≤ t → t < i → lt d[m]! d[t]! = false := fun t q1 q2 => by
    rcases hl with hl | hl
    · omega
    · by_cases q : t = i - 1
      · subst q; exact hl
      · exact hS.ntrans _ _ _ hl (hs t (i - 1) q1 (by omega) (by omega))
  have hi : ∀ t, i ≤ t → t < m → lt d[t]! d[m]! = false := fun t q1 q2 => by
    rcases hr with hr | hr
    · omega
    · by_cases q : t = i
      · subst q; exact asym hS hr
      · exact hS.ntrans _ _ _ (hs i t (by omega) (by omega) q2) (asym hS hr)
  intro s t q1 q2 q3
  rw [hI, hI]
  have e : ∀ u, rotI i m (m + 1) u = if u = i then m else if i < u ∧ u < m + 1 then u - 1 else u := fun u => by
    unfold rotI
    split <;> split <;> (try split) <;> (try split) <;> omega
  rw [e s, e t]
  by_cases c1 : t < i
  · rw [if_neg (by omega), if_neg (by omega), if_neg (by omega), if_neg (by omega)]
    exact hs _ _ q1 q2 (by omega)
  · by_cases c2 : t = i
    · rw [if_pos c2, if_neg (by omega), if_neg (by omega)]
      exact lo _ q1 (by omega)
    · rw [if_neg c2, if_pos (by omega)]
      by_cases c3 : s < i
      · rw [if_neg (by omega), if_neg (by omega)]
        exact hs _ _ q1 (by omega) (by omega)
      · by_cases c4 : s = i
        · rw [if_pos c4]; exact hi _ (by omega) (by omega)
        · rw [if_neg c4, if_pos (by omega)]; exact hs _ _ (by omega) (by omega) (by omega)
/-- where [a, b) is parted: the bounds of what is looked for -/
structure Cut (lt : α → α → Bool) (d : Array α) (a m b mid s0 r0 : Nat) : Prop where
  am : a < m
  mb : m < b
  md : mid = (a + b) / 2
  s0 : (mid < m ∧ s0 = mid + m - b ∧ r0 = mid) ∨ (m ≤ mid ∧ s0 = a ∧ r0 = m)
/-- what has been found: nothing to the left of start is too great, nothing from r on is small enough -/
structure Fnd (lt : α → α → Bool) (d : Array α) (p s0 r0 s r : Nat) : Prop where
  le : s0 ≤ s ∧ s ≤ r ∧ r ≤ r0
  lo : s = s0 ∨ lt d[p - (s - 1)]! d[s - 1]! = false
  hi : r = r0 ∨ lt d[p - r]! d[r]! = true
theorem split (hS : SWO lt) (d d1 : Array α) (a m b mid s0 r0 s : Nat) (hb : b ≤ d.size) (c : Cut lt d a m b mid s0 r0) (f : Fnd lt d (mid + m - 1) s0 r0 s s) (h1 : SortedIn lt a m d) (h2 : SortedIn lt m b d) (hI : Idx (rotI s m (mid + m - s)) d d1) :
    (a ≤ s ∧ s ≤ mid ∧ mid ≤ mid + m - s ∧ mid + m - s ≤ b ∧ s ≤ m ∧ m ≤ mid + m - s) ∧ SortedIn lt a s d1 ∧ SortedIn lt s mid d1 ∧ SortedIn lt mid (mid + m - s) d1 ∧ SortedIn lt (mid + m - s) b d1 ∧ (∀ i j, a ≤ i → i < mid → mid ≤ j → j < b → lt d1[j]! d1[i]! = false) := by
  obtain ⟨c1, c2, c3, c4⟩ := c
  obtain ⟨⟨f1, f2, f3⟩, lo, hi⟩ := f
  have B : a ≤ s ∧ s ≤ mid ∧ s ≤ m ∧ mid + m - s ≤ b := by omega
  obtain ⟨b1, b2, b3, b4⟩ := B
  have e0 : ∀ t, t < s → d1[t]! = d[t]! := fun t q => by rw [hI]; unfold rotI; rw [if_neg (by omega), if_neg (by omega)]
  have e1 : ∀ t, s ≤ t → t < mid → d1[t]! = d[t + (m - s)]! := fun t q1 q2 => by rw [hI]; unfold rotI; rw [if_pos (by omega)]
  have e2 : ∀ t, mid ≤ t → t < mid + m - s → d1[t]! = d[t - (mid - s)]! := fun t q1 q2 => by
    rw [hI]; unfold rotI
    rw [if_neg (by omega), if_pos (by omega), show mid + m - s - m = mid - s by omega]
  have e3 : ∀ t, mid + m - s ≤ t → d1[t]! = d[t]! := fun t q => by
    rw [hI]; unfold rotI
    rw [if_neg (by omega), if_neg (by omega)]
  -- the four corners
  have k1 : ∀ i j, a ≤ i → i < s → mid + m - s ≤ j → j < b → lt d[j]! d[i]! = false := fun i j q1 q2 q3 q4 => by
    rcases lo with lo | lo
    · omega
    · have g1 : lt d[s - 1]! d[i]! = false := by
        by_cases q : i = s - 1
        · subst q; exact hS.irrefl _
        · exact h1 i (s - 1) q1 (by omega) (by omega)
      have ep : mid + m - 1 - (s - 1) = mid + m - s := by omega
      rw [ep] at lo
      have g2 : lt d[j]! d[mid + m - s]! = false := by
        by_cases q : j = mid + m - s
        · subst q; exact hS.irrefl _
        · exact h2 (mid + m - s) j (by omega) (by omega) q4
      exact hS.ntrans _ _ _ g2 (hS.ntrans _ _ _ lo g1)
  have k2 : ∀ i j, m ≤ i → i < mid + m - s → s ≤ j → j < m → lt d[j]! d[i]! = false := fun i j q1 q2 q3 q4 => by
    rcases hi with hi | hi
    · omega
    · have hi := asym hS hi
      have g1 : lt d[mid + m - 1 - s]! d[i]! = false := by
        by_cases q : i = mid + m - 1 - s
        · subst q; exact hS.irrefl _
        · exact h2 i _ q1 (by omega) (by omega)
      have g2 : lt d[j]! d[s]! = false := by
        by_cases q : j = s
        · subst q; exact hS.irrefl _
        · exact h1 s j (by omega) (by omega) q4
      exact hS.ntrans _ _ _ g2 (hS.ntrans _ _ _ hi g1)
  refine ⟨by omega, ?_, ?_, ?_, ?_, ?_⟩
  · intro i j q1 q2 q3
    rw [e0 i (by omega), e0 j q3]
    exact h1 i j q1 q2 (by omega)
  · intro i j q1 q2 q3
    rw [e1 i q1 (by omega), e1 j (by omega) q3]
    exact h2 _ _ (by omega) (by omega) (by omega)
  · intro i j q1 q2 q3
    rw [e2 i q1 (by omega), e2 j (by omega) q3]
    exact h1 _ _ (by omega) (by omega) (by omega)
  · intro i j q1 q2 q3
    rw [e3 i q1, e3 j (by omega)]
    exact h2 i j (by omega) q2 q3
  · intro i j q1 q2 q3 q4
    by_cases ci : i < s
    · rw [e0 i ci]
      by_cases cj : j < mid + m - s
      · rw [e2 j q3 cj]
        exact h1 i _ q1 (by omega) (by omega)
      · rw [e3 j (by omega)]
        exact k1 i j q1 ci (by omega) q4
    · rw [e1 i (by omega) q2]
      by_cases cj : j < mid + m - s
      · rw [e2 j q3 cj]
        exact k2 _ _ (by omega) (by omega) (by omega) (by omega)
      · rw [e3 j (by omega)]
        exact h2 _ _ (by omega) (by omega) q4
/-- both halves have been put in order -/
theorem join (d1 d2 d3 : Array α) (a mid b : Nat) (hb : b ≤ d1.size) (ham : a ≤ mid) (hmb : mid ≤ b) (hx : ∀ i j, a ≤ i → i < mid → mid ≤ j → j < b → lt d1[j]! d1[i]! = false) (p1 : PermIn a mid d1 d2) (s1 : SortedIn lt a mid d2) (p2 : PermIn mid b d2 d3) (s2 : SortedIn lt mid b d3) : SortedIn lt a b d3 := by
  have hs2 : d2.size = d1.size := p1.1
  have x2 : ∀ i j, a ≤ i → i < mid → mid ≤ j → j < b → lt d2[j]! d2[i]! = false := fun i j q1 q2 q3 q4 => by
    rw [p1.2.1 j (.inr q3)]
    exact permIn_all d1 d2 a mid (fun x => lt d1[j]! x = false) (by omega) p1 (fun i q1 q2 => hx i j q1 q2 q3 q4) i q1 q2
  have x3 : ∀ i j, a ≤ i → i < mid → mid ≤ j → j < b → lt d3[j]! d3[i]! = false := fun i j q1 q2 q3 q4 => by
    rw [p2.2.1 i (.inl q2)]
    exact permIn_all d2 d3 mid b (fun x => lt x d2[i]! = false) (by omega) p2 (fun j q3 q4 => x2 i j q1 q2 q3 q4) j q3 q4
  intro i j q1 q2 q3
  by_cases cj : j < mid
  · rw [p2.2.1 i (.inl (by omega)), p2.2.1 j (.inl cj)]
    exact s1 i j q1 q2 cj
  · by_cases ci : i < mid
    · exact x3 i j q1 ci (by omega) q3
    · exact s2 i j (by omega) q2 q3
theorem sortedIn_one (d : Array α) (a b : Nat) (h : b ≤ a + 1) : SortedIn lt a b d := fun i j q1 q2 q3 => by omega
theorem SortedIn.of_perm {d d' : Array α} {a b l r : Nat} (h : SortedIn lt a b d) (p : PermIn l r d d') (ho : b ≤ l ∨ r ≤ a) : SortedIn lt a b d' := fun i j q1 q2 q3 => by
  rw [p.2.1 i (by omega), p.2.1 j (by omega)]
  exact h i j q1 q2 q3
/-- sorted by keys -/
theorem swo_key {β : Type} {κ : β → Nat} : SWO (fun x y => decide (κ x < κ y)) := ⟨fun x => by simp, fun x y z h1 h2 => by simp only [decide_eq_true_eq] at *; omega, fun x y z h1 h2 => by simp only [decide_eq_false_iff_not] at *; omega⟩
/-- blocks in order: below lo those of B, from lo on those of C -/
def Blk (lt : α → α → Bool) (B C lo n : Nat) (d : Array α) : Prop := ∀ i j, i < j → j < n → ((j < lo ∧ i / B = j / B) ∨ (lo ≤ i ∧ i / C = j / C)) → lt d[j]! d[i]! = false
end
end Ss
end Go.Proofs.Ytdnkdmdmekdfkaa
