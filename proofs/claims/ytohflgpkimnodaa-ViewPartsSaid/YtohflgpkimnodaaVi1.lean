/- view, and the reference's regions: the small functions walked. -/
import Derived.Test.YtohflgpkimnodaaKit
import Derived.Test.YtohflgpkimnodaaViPure
import Derived.Test.YtohflgpkimnodaaRows
import Derived.WalkKit
import Derived.Deep.QuietTactic
import Derived.BigQuiet
import Derived.Deep.RegionHeld3
namespace Go.Proofs.Ytohflgpkimnodaa
open Go.RowKit

def regV (g : Vi.Reg) : Value := .agg #[.bool g.on, .int .i64 g.cx, .int .i64 g.cy, .int .i64 g.r]
def InW (g : Vi.Reg) : Prop := (-9223372036854775808 ≤ g.cx ∧ g.cx ≤ 9223372036854775807) ∧ (-9223372036854775808 ≤ g.cy ∧ g.cy ≤ 9223372036854775807) ∧ (-9223372036854775808 ≤ g.r ∧ g.r ≤ 9223372036854775807)

theorem vOf_any (x : Int) (w : World) (h : -2147483648 ≤ x ∧ x ≤ 2147483647) :
    Calls Try.prog 28 #[.int .i32 x] w fun e w' => e = .returned (.int .i64 (x / 16384)) ∧ w' = w := by
  go_enter Try.func28, Try.ntmps28
  go_wp2
  go_ret
  exact ⟨by go_num, rfl⟩

theorem vrefOf_any (x : Int) (w : World) (h : -2147483648 ≤ x ∧ x ≤ 2147483647) :
    Calls Try.prog 29 #[.int .i32 x] w fun e w' => e = .returned (.int .i64 (x / 16384)) ∧ w' = w := by
  have hq : -131072 ≤ x.tdiv 16384 ∧ x.tdiv 16384 ≤ 131072 ∧ (x < x.tdiv 16384 * 16384 → x / 16384 = x.tdiv 16384 - 1) ∧ (¬ x < x.tdiv 16384 * 16384 → x / 16384 = x.tdiv 16384) := by
    rcases Int.le_total 0 x with hx | hx
    · rw [Int.tdiv_eq_ediv_of_nonneg hx]; omega
    · obtain ⟨y, rfl⟩ : ∃ y, x = -y := ⟨-x, by omega⟩
      rw [Int.neg_tdiv, Int.tdiv_eq_ediv_of_nonneg (by omega)]; omega
  have e1 : wrap64 (x.tdiv 16384 * 16384) = x.tdiv 16384 * 16384 := by unfold wrap64; omega
  have e2 : wrap64 (x.tdiv 16384 - 1) = x.tdiv 16384 - 1 := by unfold wrap64; omega
  go_enter Try.func29, Try.ntmps29
  go_wp2
  all_goals
    go_ret
    refine ⟨?_, rfl⟩
    change Ending.returned (Value.int IntKind.i64 _) = _
    simp only [Ending.returned.injEq, Value.int.injEq, true_and]
    first | done | omega

theorem inside_any (c : Int) (w : World) :
    Calls Try.prog 26 #[.int .i64 c] w fun e w' => e = .returned (.bool (decide (-32 ≤ c ∧ c ≤ 31))) ∧ w' = w := by
  go_enter Try.func26, Try.ntmps26
  by_cases h1 : -32 ≤ c <;> by_cases h2 : c < 32
  all_goals
    go_wp2
    go_ret
    exact ⟨by go_num, rfl⟩

theorem keep_any (c : Int) (w : World) :
    Calls Try.prog 30 #[.int .i64 c] w fun e w' => e = .returned (.int .i64 (Vi.keep c)) ∧ w' = w := by
  go_enter Try.func30, Try.ntmps30
  go_wp2
  all_goals
    go_ret
    refine ⟨?_, rfl⟩
    change Ending.returned (Value.int IntKind.i64 _) = _
    simp only [Ending.returned.injEq, Value.int.injEq, true_and]
    unfold Vi.keep
    omega

set_option maxHeartbeats 400000 in
theorem vCheck_any (g : Vi.Reg) (w : World) :
    Calls Try.prog 11 #[regV g] w fun e w' => e = .returned (.int .i64 (if Vi.ok g then 0 else 1)) ∧ New w w' := by
  have hd : New w (w.alloc (.cells #[.bool g.on, .int .i64 g.cx, .int .i64 g.cy, .int .i64 g.r] 23)) := (Upd.refl _ _).alloc _
  unfold regV Vi.ok
  obtain ⟨on, cx, cy, r⟩ := g
  dsimp only at *
  go_enter Try.func11, Try.ntmps11
  by_cases h1 : -32 ≤ cx ∧ cx ≤ 31 <;> by_cases h2 : -32 ≤ cy ∧ cy ≤ 31 <;> by_cases h3 : r < 0 <;> by_cases h4 : 8 < r <;> try omega
  all_goals
    go_wp2_with (first | (go_at_call 26; (with_reducible refine (inside_any _ _).mono ?_); rintro e w2 ⟨rfl, rfl⟩; dsimp only))
    go_ret
    refine ⟨?_, hd⟩
    change Ending.returned (Value.int IntKind.i64 _) = _
    simp only [Ending.returned.injEq, Value.int.injEq, true_and, decide_eq_true_eq]
    first | done | rw [if_pos (by omega)] | rw [if_neg (by omega)]

set_option maxHeartbeats 800000 in
theorem refCheck_any (g : Vi.Reg) (w : World) :
    Calls Try.prog 12 #[regV g] w fun e w' => e = .returned (.int .i64 (if Vi.ok g then 0 else 1)) ∧ New w w' := by
  have hd : New w (w.alloc (.cells #[.bool g.on, .int .i64 g.cx, .int .i64 g.cy, .int .i64 g.r] 23)) := (Upd.refl _ _).alloc _
  unfold regV Vi.ok
  obtain ⟨on, cx, cy, r⟩ := g
  dsimp only at *
  go_enter Try.func12, Try.ntmps12
  go_wp2
  all_goals
    go_ret
    refine ⟨?_, hd⟩
    change Ending.returned (Value.int IntKind.i64 _) = _
    simp only [Ending.returned.injEq, Value.int.injEq, true_and, decide_eq_true_eq]
    first | done | rw [if_pos (by omega)] | rw [if_neg (by omega)]

theorem open_any (g : Vi.Reg) (w : World) :
    Calls Try.prog 23 #[regV g] w fun e w' => e = .returned (.bool (Vi.opened g)) ∧ New w w' := by
  have hd : New w (w.alloc (.cells #[.bool g.on, .int .i64 g.cx, .int .i64 g.cy, .int .i64 g.r] 23)) := (Upd.refl _ _).alloc _
  have hc := vCheck_any g
  unfold regV at *
  unfold Vi.opened
  generalize hok : Vi.ok g = b at *
  clear hok
  obtain ⟨on, cx, cy, r⟩ := g
  dsimp only at *
  go_enter Try.func23, Try.ntmps23
  cases on <;> cases b
  all_goals
    go_wp2_with (first | (go_at_call 11; (with_reducible refine (hc _).mono ?_); rintro e w2 ⟨rfl, hu⟩; dsimp only))
    go_ret
    first | exact ⟨rfl, hd⟩ | exact ⟨rfl, hd.trans hu⟩

theorem near_any (c t b : Int) (w : World) (h1 : -10000000 ≤ c ∧ c ≤ 10000000) (h2 : -10000000 ≤ t ∧ t ≤ 10000000) (h3 : -10000000 ≤ b ∧ b ≤ 10000000) :
    Calls Try.prog 27 #[.int .i64 c, .int .i64 t, .int .i64 b] w fun e w' => e = .returned (.bool (decide (c - t ≤ b ∧ t - c ≤ b))) ∧ w' = w := by
  go_enter Try.func27, Try.ntmps27
  go_wp2
  all_goals
    have e1 : wrap64 (t - b) = t - b := by unfold wrap64; omega
    have e2 : wrap64 (t + b) = t + b := by unfold wrap64; omega
    go_ret
    refine ⟨?_, rfl⟩
    change Ending.returned (Value.bool _) = _
    refine congrArg (fun z => Ending.returned (Value.bool z)) (Bool.eq_iff_iff.2 ?_)
    simp only [Bool.and_eq_true, Bool.decide_and, decide_eq_true_eq, Bool.false_eq_true, false_iff, true_iff]
    omega
end Go.Proofs.Ytohflgpkimnodaa
