/- cmp.Compare of two ticks: walked. -/
import Derived.Test.YtkcepmalahmkiaaRgPure
import Derived.Test.YtkcepmalahmkiaaOwn
import Derived.Handy
namespace Go.Proofs.Ytkcepmalahmkiaa
open Go.RowKit
theorem own_obj_ne {w : World} {base e size n g T : Nat} {v : Value} {xs : List Value} {cs : Array Value} {fz : Nat × Nat} (h : w.ownsRow base e size v n xs) (hg : w.heap[g]? = some (.cells cs T fz)) (hne : e ≠ T) : ¬ v.ownBlock = some g := by
  intro hb
  obtain ⟨hl, ⟨rfl, _⟩ | ⟨g3, cap, cur, rfl, _, hh, r⟩⟩ := h
  · cases hb
  · simp only [Value.ownBlock, Option.some.injEq] at hb
    subst hb
    rw [hg] at hh
    injection hh with hh
    injection hh with _ hh
    exact hne hh.symm
theorem own_apart {w : World} {base base' e e' size size' n n' : Nat} {v v' : Value} {xs xs' : List Value} (h : w.ownsRow base e size v n xs) (h' : w.ownsRow base' e' size' v' n' xs') (hne : e ≠ e') (b : Nat) (hb : v.ownBlock = some b) : ¬ v'.ownBlock = some b := by
  intro hb'
  obtain ⟨_, ⟨rfl, _⟩ | ⟨g1, c1, cur1, rfl, _, hh1, _⟩⟩ := h
  · cases hb
  obtain ⟨_, ⟨rfl, _⟩ | ⟨g2, c2, cur2, rfl, _, hh2, _⟩⟩ := h'
  · cases hb'
  simp only [Value.ownBlock, Option.some.injEq] at hb hb'
  subst hb; subst hb'
  rw [hh1] at hh2
  injection hh2 with hh2
  injection hh2 with _ hh2
  exact hne hh2
/-- how two ticks compare -/
def cmpT (a b : Nat) : Int := if a < b then -1 else if b < a then 1 else 0
theorem isNaN_any (a : Nat) (w : World) : Calls Try.prog 57 #[.int .u32 a] w fun e w' => e = .returned (.bool false) ∧ w = w' := by
  go_enter Try.func57, Try.ntmps57
  go_wp2
  go_ret
  exact ⟨rfl, rfl⟩
theorem Compare_any (a b : Nat) (w : World) : Calls Try.prog 48 #[.int .u32 a, .int .u32 b] w fun e w' => e = .returned (.int .i64 (cmpT a b)) ∧ w = w' := by
  have h1 := isNaN_any a
  have h2 := isNaN_any b
  by_cases q1 : a < b
  · have q1i : (a : Int) < (b : Int) := by omega
    have HR := Bx.mk (show cmpT a b = -1 from if_pos q1)
    go_enter Try.func48, Try.ntmps48
    go_wp2_with (first | (go_at_call 57; (with_reducible refine (h1 _).mono ?_); rintro e w1 ⟨rfl, rfl⟩; dsimp only) | (go_at_call 57; (with_reducible refine (h2 _).mono ?_); rintro e w1 ⟨rfl, rfl⟩; dsimp only))
    go_ret
    exact ⟨by rw [HR.out]; rfl, rfl⟩
  · by_cases q2 : b < a
    · have q1i : ¬ (a : Int) < (b : Int) := by omega
      have q2i : (b : Int) < (a : Int) := by omega
      have HR := Bx.mk (show cmpT a b = 1 by unfold cmpT; rw [if_neg q1, if_pos q2])
      go_enter Try.func48, Try.ntmps48
      go_wp2_with (first | (go_at_call 57; (with_reducible refine (h1 _).mono ?_); rintro e w1 ⟨rfl, rfl⟩; dsimp only) | (go_at_call 57; (with_reducible refine (h2 _).mono ?_); rintro e w1 ⟨rfl, rfl⟩; dsimp only))
      go_ret
      exact ⟨by rw [HR.out]; rfl, rfl⟩
    · have q1i : ¬ (a : Int) < (b : Int) := by omega
      have q2i : ¬ (b : Int) < (a : Int) := by omega
      have HR := Bx.mk (show cmpT a b = 0 by unfold cmpT; rw [if_neg q1, if_neg q2])
      go_enter Try.func48, Try.ntmps48
      go_wp2_with (first | (go_at_call 57; (with_reducible refine (h1 _).mono ?_); rintro e w1 ⟨rfl, rfl⟩; dsimp only) | (go_at_call 57; (with_reducible refine (h2 _).mono ?_); rintro e w1 ⟨rfl, rfl⟩; dsimp only))
      go_ret
      exact ⟨by rw [HR.out]; rfl, rfl⟩
end Go.Proofs.Ytkcepmalahmkiaa
