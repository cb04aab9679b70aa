/- Loops and cuts in large frames: one function holds all slots that are written. -/
import Derived.Test.YtdnkdmdmekdfkaaKit
import Derived.BigFrame
import Derived.Deep.DeepCutAuto
import Derived.Deep.CutBlock
namespace Go.Proofs.Ytdnkdmdmekdfkaa
/-- a frame, some of its slots held by a function -/
def Mix : List (Option Nat) → (Nat → Value) → List Value → List Value
  | some k :: ms, f, _ :: vs => f k :: Mix ms f vs
  | none :: ms, f, v :: vs => v :: Mix ms f vs
  | _, _, vs => vs
abbrev slotsOf (l : List Value) : Nat → Value := fun i => l.getD i undef
/-- the mask's numbers are its places -/
def okM : List (Option Nat) → Nat → Bool
  | some k :: ms, i => (k == i) && okM ms (i + 1)
  | none :: ms, i => okM ms (i + 1)
  | [], _ => true
/-- what the mask leaves -/
def Keep : List (Option Nat) → List Value → List Value
  | some _ :: ms, _ :: vs => undef :: Keep ms vs
  | none :: ms, v :: vs => v :: Keep ms vs
  | _, vs => vs
theorem mix_keep (ms : List (Option Nat)) : ∀ (i : Nat) (l n : List Value) (f : Nat → Value), (∀ j, f (i + j) = n.getD j undef) → okM ms i = true → Keep ms n = Keep ms l → Mix ms f l = n := by
  induction ms with
  | nil => intro i l n f _ _ h; simp only [Keep] at h; simp only [Mix]; exact h.symm
  | cons m ms ih =>
    intro i l n f hf hok h
    cases n with
    | nil =>
      cases l with
      | nil => cases m <;> rfl
      | cons x l => cases m <;> simp [Keep] at h
    | cons y n =>
      cases l with
      | nil => cases m <;> simp [Keep] at h
      | cons x l =>
        have hf' : ∀ j, f (i + 1 + j) = n.getD j undef := fun j => by have := hf (j + 1); rw [show i + (j + 1) = i + 1 + j by omega] at this; simpa using this
        have hf0 : f i = y := by simpa using hf 0
        cases m with
        | none =>
          simp only [Keep, List.cons.injEq] at h
          simp only [okM] at hok
          simp only [Mix]
          rw [ih (i + 1) l n f hf' hok h.2, h.1]
        | some k =>
          simp only [Keep, List.cons.injEq, true_and] at h
          simp only [okM, Bool.and_eq_true, beq_iff_eq] at hok
          simp only [Mix]
          rw [ih (i + 1) l n f hf' hok.2 h, hok.1, hf0]
section
variable {P : Program} {Q : Exit → Act → World → Prop} {w : World}
/-- A LOOP: the relation takes the function, the world, the measure. -/
theorem wp_loopM {c : Code} {l : List Value} {ds : _} (mask : List (Option Nat)) (R : (Nat → Value) → World → Nat → Prop) (ho : okM mask 0 = true) (h0 : ∃ d0, R (slotsOf l) w d0)
    (round : ∀ (d : Nat) (J K' : Act → World → Prop) (f : Nat → Value) (w : World), R f w d → Bx (∀ d' f' w', d' < d → R f' w' d' → J ⟨(Mix mask f' l).toArray, ds⟩ w') → (∀ a' w', Met J a' w' → K' a' w') → c.wp P (Exit.then K' Q) ⟨(Mix mask f l).toArray, ds⟩ w) : (Code.loop c).wp P Q ⟨l.toArray, ds⟩ w := by
  obtain ⟨d0, h0⟩ := h0
  refine wp_loop_ghost (fun d a' w' => ∃ f, R f w' d ∧ a' = ⟨(Mix mask f l).toArray, ds⟩) d0 ⟨_, h0, by rw [mix_keep mask 0 l l (slotsOf l) (fun j => by rw [Nat.zero_add]) ho rfl]⟩ ?_
  rintro d a w' ⟨f, hR, rfl⟩
  refine round d (fun a' w' => ∃ n', n' < d ∧ ∃ f, R f w' n' ∧ a' = ⟨(Mix mask f l).toArray, ds⟩) _ f w' hR ⟨fun d' f' w'' h1 h2 => ⟨d', h1, f', h2, rfl⟩⟩ fun _ _ h => h
theorem wp_cutM {s : Code} {K : Act → World → Prop} {l : List Value} {ds : _} (mask : List (Option Nat)) (R : (Nat → Value) → World → Prop)
    (first : ∀ (J K' : Act → World → Prop), Bx (∀ f' w', R f' w' → J ⟨(Mix mask f' l).toArray, ds⟩ w') → (∀ a' w', Met J a' w' → K' a' w') → s.wp P (Exit.then K' Q) ⟨l.toArray, ds⟩ w)
    (rest : ∀ f w', R f w' → K ⟨(Mix mask f l).toArray, ds⟩ w') : s.wp P (Exit.then K Q) ⟨l.toArray, ds⟩ w :=
  wp_cut (fun a' w' => ∃ f, R f w' ∧ a' = ⟨(Mix mask f l).toArray, ds⟩) (fun a' w' ⟨f, h1, h2⟩ => h2 ▸ rest f w' h1) fun J K' h1 h2 => first J K' ⟨fun f' w' h => h1 _ _ ⟨f', h, rfl⟩⟩ h2
theorem met_loop {R : (Nat → Value) → World → Nat → Prop} {mask : List (Option Nat)} {l now : List Value} {ds : _} {d : Nat} {J : Act → World → Prop} (hJ : Bx (∀ d' f' w', d' < d → R f' w' d' → J ⟨(Mix mask f' l).toArray, ds⟩ w')) 
    (ho : okM mask 0 = true) (hk : Keep mask now = Keep mask l) (hR : ∃ d', R (slotsOf now) w d' ∧ d' < d) : Met J ⟨now.toArray, ds⟩ w := by
  obtain ⟨d', hR, hlt⟩ := hR
  have := hJ.out d' _ w hlt hR
  rw [mix_keep mask 0 l now (slotsOf now) (fun j => by rw [Nat.zero_add]) ho hk] at this
  exact this
theorem met_cut {R : (Nat → Value) → World → Prop} {mask : List (Option Nat)} {l now : List Value} {ds : _} {J : Act → World → Prop} (hJ : Bx (∀ f' w', R f' w' → J ⟨(Mix mask f' l).toArray, ds⟩ w'))
    (ho : okM mask 0 = true) (hk : Keep mask now = Keep mask l) (hR : R (slotsOf now) w) : Met J ⟨now.toArray, ds⟩ w := by
  have := hJ.out _ w hR
  rw [mix_keep mask 0 l now (slotsOf now) (fun j => by rw [Nat.zero_add]) ho hk] at this
  exact this
end
theorem vb_true {v : Value} {p : Prop} [Decidable p] (h : p) (hv : v = .bool true) : v = .bool (decide p) := by rw [decide_eq_true h, hv]
theorem vb_false {v : Value} {p : Prop} [Decidable p] (h : ¬ p) (hv : v = .bool false) : v = .bool (decide p) := by rw [decide_eq_false h, hv]
end Go.Proofs.Ytdnkdmdmekdfkaa
