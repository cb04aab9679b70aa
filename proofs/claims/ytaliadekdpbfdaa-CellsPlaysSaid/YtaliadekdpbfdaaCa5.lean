/- What a nil grid answers; what a step does to the list and to the grid alike. -/
import Derived.Test.YtaliadekdpbfdaaRf5
import Derived.Test.YtaliadekdpbfdaaCa4
namespace Go.Proofs.Ytaliadekdpbfdaa
open Go.RowKit
theorem putNil_any (w : World) (i x y : Int) : Calls Try.prog 12 #[.pointer none, .int .u32 i, .int .i32 x, .int .i32 y] w fun e w' => e = .returned (.int .i64 10) ∧ w' = w := by
  go_enter Try.func12, Try.ntmps12
  repeat' (first | fail | go_values | go_skip | go_guarded | go_step | go_upon | go_back)
  go_returns
  exact ⟨rfl, rfl⟩
theorem dropNil_any (w : World) (i : Int) : Calls Try.prog 16 #[.pointer none, .int .u32 i] w fun e w' => e = .returned (.int .i64 10) ∧ w' = w := by
  go_enter Try.func16, Try.ntmps16
  repeat' (first | fail | go_values | go_skip | go_guarded | go_step | go_upon | go_back)
  go_returns
  exact ⟨rfl, rfl⟩
theorem whereNil_any (w : World) (i : Int) : Calls Try.prog 17 #[.pointer none, .int .u32 i] w fun e w' => e = .returned (.tuple #[.int .i64 0, .int .i64 0, .bool false]) ∧ w' = w := by
  go_enter Try.func17, Try.ntmps17
  repeat' (first | fail | go_values | go_skip | go_guarded | go_step | go_upon | go_back)
  go_returns
  exact ⟨rfl, rfl⟩
theorem atNil_any (w : World) (x y : Int) : Calls Try.prog 13 #[.pointer none, .int .i64 x, .int .i64 y] w fun e w' => e = .returned (.slice none 0 0) ∧ w' = w := by
  go_enter Try.func13, Try.ntmps13
  repeat' (first | fail | go_values | go_skip | go_guarded | go_step | go_upon | go_back)
  go_returns
  exact ⟨rfl, rfl⟩
theorem bxNil_any (w : World) (x0 y0 x1 y1 : Int) : Calls Try.prog 19 #[.pointer none, .int .i64 x0, .int .i64 y0, .int .i64 x1, .int .i64 y1] w fun e w' => e = .returned (.slice none 0 0) ∧ w' = w := by
  go_enter Try.func19, Try.ntmps19
  repeat' (first | fail | go_values | go_skip | go_guarded | go_step | go_upon | go_back)
  go_returns
  exact ⟨rfl, rfl⟩
theorem lenNil_any (w : World) : Calls Try.prog 18 #[.pointer none] w fun e w' => e = .returned (.int .i64 0) ∧ w' = w := by
  go_enter Try.func18, Try.ntmps18
  repeat' (first | fail | go_values | go_skip | go_guarded | go_step | go_upon | go_back)
  go_returns
  exact ⟨rfl, rfl⟩
theorem usedNil_any (w : World) : Calls Try.prog 14 #[.pointer none] w fun e w' => e = .returned (.int .i64 0) ∧ w' = w := by
  go_enter Try.func14, Try.ntmps14
  repeat' (first | fail | go_values | go_skip | go_guarded | go_step | go_upon | go_back)
  go_returns
  exact ⟨rfl, rfl⟩
theorem SpL.gn {n0 : Nat} {w w' : World} {v : Value} {L : List SpQ} (h : SpL w v L) (u : GUpd n0 w w') : SpL w' v L := by
  obtain ⟨A, c, e, h1, h2, h3⟩ := h
  exact ⟨A, c, e, h1, h2, u.rd h3⟩
/-- is an ID in a list? -/
def hasL (id : Nat) (L : List SpQ) : Bool := L.any fun q => decide (q.1 = id)
theorem hasL_take (id : Nat) (L : List SpQ) (k : Nat) (h : k < L.length) : hasL id (L.take (k + 1)) = (hasL id (L.take k) || decide (L[k].1 = id)) := by
  unfold hasL
  rw [List.take_succ_eq_append_getElem h, List.any_append, List.any_cons, List.any_nil, Bool.or_false]
section
variable {M : Nat → Option (Int × Int)} {L : List SpQ}
theorem Rel.hit (h : Rel M L) {q : SpQ} (hq : q ∈ L) : M q.1 = some (cell q.2.1, cell q.2.2) := (h.mem _ _).2 ⟨q, hq, rfl, rfl⟩
theorem Rel.has (h : Rel M L) (id : Nat) : hasL id L = (M id).isSome := by
  rw [Bool.eq_iff_iff, Option.isSome_iff_exists]
  unfold hasL
  rw [List.any_eq_true]
  constructor
  · rintro ⟨q, hq, e⟩
    rw [decide_eq_true_iff] at e
    subst e
    exact ⟨_, h.hit hq⟩
  · rintro ⟨s, hs⟩
    obtain ⟨q, hq, e, _⟩ := (h.mem _ _).1 hs
    exact ⟨q, hq, decide_eq_true e⟩
theorem Rel.dropE (h : Rel M L) (id : Nat) : (if (dropL L id).length = L.length then (7 : Int) else 0) = if (M id).isSome then 0 else 7 := by
  by_cases e : (dropL L id).length = L.length
  · rw [if_pos e]
    have hd := dropL_same e
    have hn : ¬ (M id).isSome = true := fun hs => by
      obtain ⟨s, hs⟩ := Option.isSome_iff_exists.1 hs
      obtain ⟨q, hq, e2, _⟩ := (h.mem _ _).1 hs
      rw [← hd] at hq
      exact (mem_dropL.1 hq).2 e2
    rw [if_neg hn]
  · rw [if_neg e]
    have hs : (M id).isSome = true := by
      cases hm : M id with
      | some s => rfl
      | none =>
        exfalso
        apply e
        have : dropL L id = L := by
          unfold dropL
          rw [List.filter_eq_self]
          intro q hq
          refine decide_eq_true fun e2 => ?_
          have := h.hit hq
          rw [e2, hm] at this
          cases this
        rw [this]
    rw [if_pos hs]
end
end Go.Proofs.Ytaliadekdpbfdaa
