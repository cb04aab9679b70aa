/- The plain law of pdqsort's rounds, by what the partitions give. -/
import Derived.Test.YtohflgpkimnodaaSo0
import Derived.Sort.LotA
import Derived.Sort.LotB
import Derived.Sort.LotD3
namespace Go.Proofs.Ytohflgpkimnodaa
open Go.Sort
/-- whatever sorted permutation of the part comes back, the whole is one -/
def Gl (a b : Nat) (d : Array Nat) (a' b' : Nat) (d' : Array Nat) : Prop := ∀ R, PermIn a' b' d' R → SortedIn ltN a' b' R → PermIn a b d R ∧ SortedIn ltN a b R
theorem Gl.refl (a b : Nat) (d : Array Nat) : Gl a b d a b d := fun _ p s => ⟨p, s⟩
theorem Gl.perm {a b a' b' : Nat} {d d1 d2 : Array Nat} (h : Gl a b d a' b' d1) (p : PermIn a' b' d1 d2) : Gl a b d a' b' d2 := fun R q s => h R (permIn_trans _ _ _ _ _ p q) s
theorem Gl.trans {a b a' b' a2 b2 : Nat} {d d1 d2 : Array Nat} (h : Gl a b d a' b' d1) (h2 : Gl a' b' d1 a2 b2 d2) : Gl a b d a2 b2 d2 := fun R q s => h R (h2 R q s).1 (h2 R q s).2
/-- a round that goes by partitionEqual -/
theorem roundE {d3 d4 : Array Nat} {a b P mid : Nat} (ha0 : 0 < a) (hb : b ≤ d3.size) (hB : Below ltN a b d3)
    (hnl : ltN d3[a - 1]! P = false) (h1 : a < mid) (h2 : mid ≤ b) (hperm : PermIn a b d3 d4)
    (hle : ∀ k, a ≤ k → k < mid → ltN P d4[k]! = false) (hgt : ∀ k, mid ≤ k → k < b → ltN P d4[k]! = true) : Below ltN mid b d4 ∧ Gl a b d3 mid b d4 := by
  have h := swoN
  have hge : ∀ i, a ≤ i → i < b → ltN d3[i]! P = false := fun i hi hi' => by
    rcases hB with h0 | hB
    · omega
    · exact h.ntrans _ _ _ (hB i hi hi') hnl
  have hge4 := permIn_all d3 d4 a b (fun x => ltN x P = false) hb hperm hge
  have hb4 : b ≤ d4.size := by rw [hperm.1]; exact hb
  refine ⟨Or.inr fun i hi hi' => ?_, fun R hR hs => ⟨permIn_trans _ _ _ a b hperm (permIn_mono _ _ mid b a b (by omega) (Nat.le_refl _) hb4 hR), ?_⟩⟩
  · cases hc : ltN d4[i]! d4[mid - 1]! with
    | false => rfl
    | true => have := h.trans _ _ _ (hgt i hi hi') hc; rw [hle (mid - 1) (by omega) (by omega)] at this; cases this
  · refine sorted_glue_eq h P hs (fun i hi hi' => ?_) (fun i hi hi' => ?_) (permIn_all d4 R mid b (fun x => ltN P x = true) hb4 hR hgt)
    · rw [hR.2.1 i (Or.inl hi')]; exact hle i hi hi'
    · rw [hR.2.1 i (Or.inl hi')]; exact hge4 i hi (by omega)
/-- a round that goes by partition -/
theorem roundP {d3 d4 : Array Nat} {a b mid : Nat} (hb : b ≤ d3.size) (hB : Below ltN a b d3) (h1 : a ≤ mid) (h2 : mid < b) (hperm : PermIn a b d3 d4)
    (hlo : ∀ k, a ≤ k → k < mid → ltN d4[k]! d4[mid]! = true) (hhi : ∀ k, mid < k → k < b → ltN d4[k]! d4[mid]! = false) :
    Below ltN a mid d4 ∧ Below ltN (mid + 1) b d4 ∧
    (∀ L, PermIn a mid d4 L → SortedIn ltN a mid L → Below ltN (mid + 1) b L ∧ Gl a b d3 (mid + 1) b L) ∧
    (∀ L, PermIn (mid + 1) b d4 L → SortedIn ltN (mid + 1) b L → Below ltN a mid L ∧ Gl a b d3 a mid L) := by
  have h := swoN
  have hb4 : b ≤ d4.size := by rw [hperm.1]; exact hb
  have hBa : Below ltN a mid d4 := (hB.perm hb hperm).mono (by omega)
  have hBr : Below ltN (mid + 1) b d4 := Or.inr fun i hi hi' => by rw [Nat.add_sub_cancel]; exact hhi i (by omega) hi'
  refine ⟨hBa, hBr, fun L hL hsL => ?_, fun L hL hsL => ?_⟩
  · have hbL : b ≤ L.size := by rw [hL.1]; exact hb4
    have eL : ∀ i, mid ≤ i → L[i]! = d4[i]! := fun i hi => hL.2.1 i (Or.inr hi)
    refine ⟨Or.inr fun i hi hi' => by rw [Nat.add_sub_cancel, eL i (by omega), eL mid (Nat.le_refl _)]; exact hhi i (by omega) hi', fun R hR hsR => ?_⟩
    have eR : ∀ i, i ≤ mid → R[i]! = L[i]! := fun i hi => hR.2.1 i (Or.inl (by omega))
    refine ⟨permIn_trans _ _ _ a b hperm (permIn_trans _ _ _ a b (permIn_mono _ _ a mid a b (Nat.le_refl _) (by omega) hb4 hL) (permIn_mono _ _ (mid + 1) b a b (by omega) (Nat.le_refl _) hbL hR)), ?_⟩
    refine sorted_glue h (hsL.congr fun i _ hi' => eR i (by omega)) hsR (fun i hi hi' => ?_) (fun i hi hi' => ?_)
    · rw [eR i (by omega), eR mid (Nat.le_refl _), eL mid (Nat.le_refl _)]
      exact permIn_all d4 L a mid (fun x => ltN x d4[mid]! = true) (by omega) hL hlo i hi hi'
    · rw [eR mid (Nat.le_refl _), eL mid (Nat.le_refl _)]
      exact permIn_all L R (mid + 1) b (fun x => ltN x d4[mid]! = false) hbL hR (fun k hk hk' => by rw [eL k (by omega)]; exact hhi k (by omega) hk') i (by omega) hi'
  · have hbL : b ≤ L.size := by rw [hL.1]; exact hb4
    have eL : ∀ i, i ≤ mid → L[i]! = d4[i]! := fun i hi => hL.2.1 i (Or.inl (by omega))
    refine ⟨?_, fun R hR hsR => ?_⟩
    · rcases hBa with h0 | hBa
      · exact Or.inl h0
      · exact Or.inr fun i hi hi' => by rw [eL i (by omega), eL (a - 1) (by omega)]; exact hBa i hi hi'
    have eR : ∀ i, mid ≤ i → R[i]! = L[i]! := fun i hi => hR.2.1 i (Or.inr hi)
    refine ⟨permIn_trans _ _ _ a b hperm (permIn_trans _ _ _ a b (permIn_mono _ _ (mid + 1) b a b (by omega) (Nat.le_refl _) hb4 hL) (permIn_mono _ _ a mid a b (Nat.le_refl _) (by omega) hbL hR)), ?_⟩
    refine sorted_glue h hsR (hsL.congr fun i hi _ => eR i (by omega)) (fun i hi hi' => ?_) (fun i hi hi' => ?_)
    · rw [eR mid (Nat.le_refl _), eL mid (Nat.le_refl _)]
      exact permIn_all L R a mid (fun x => ltN x d4[mid]! = true) (by omega) hR (fun k hk hk' => by rw [eL k (by omega)]; exact hlo k hk hk') i hi hi'
    · rw [eR i (by omega), eR mid (Nat.le_refl _), eL mid (Nat.le_refl _)]
      exact permIn_all d4 L (mid + 1) b (fun x => ltN x d4[mid]! = false) hb4 hL (fun k hk hk' => hhi k (by omega) hk') i (by omega) hi'
end Go.Proofs.Ytohflgpkimnodaa
