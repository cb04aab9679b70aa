/- Components: Changed. -/
import Derived.Test.YtpfdbkfjjjiamaaCm6
namespace Go.Proofs.Ytpfdbkfjjjiamaa
open Go.RowKit
/-- which fields have changed, up to the j-th -/
def chgTo (x y z : Bool) (j : Nat) : Nat := (if 0 < j ∧ x = true then 1 else 0) + (if 1 < j ∧ y = true then 2 else 0) + (if 2 < j ∧ z = true then 4 else 0)
def chg (W F : List Int) : Nat := chgTo (decide (W.getD 0 0 ≠ F.getD 0 0)) (decide (W.getD 1 0 ≠ F.getD 1 0)) (decide (W.getD 2 0 ≠ F.getD 2 0)) 3
theorem chgTo_lt (x y z : Bool) (j : Nat) : chgTo x y z j < 8 := by unfold chgTo; split <;> split <;> split <;> omega
set_option maxHeartbeats 4000000 in
theorem Changed_any (k k' : Nat) (a b c a' b' c' : Int) (w : World) :
    Calls Try.prog 9 #[.agg #[.int .u8 k, .int .i32 a, .int .i32 b, .int .i32 c], .agg #[.int .u8 k', .int .i32 a', .int .i32 b', .int .i32 c']] w fun e w' => e = .returned (.int .u8 (chg [a, b, c] [a', b', c'])) ∧ New w w' := by
  obtain ⟨hN0, r1, r2⟩ := two_boxes w k k' a b c a' b' c'
  have R1 := Bx.mk r1
  have R2 := Bx.mk r2
  clear r1 r2
  unfold chg
  simp only [List.getD_cons_zero, List.getD_cons_succ]
  obtain ⟨x, hx⟩ : ∃ x, decide (a ≠ a') = x := ⟨_, rfl⟩
  obtain ⟨y, hy⟩ : ∃ y, decide (b ≠ b') = y := ⟨_, rfl⟩
  obtain ⟨z, hz⟩ : ∃ z, decide (c ≠ c') = z := ⟨_, rfl⟩
  rw [hx, hy, hz]
  have fx : (a == a') = !x := by rw [← hx]; by_cases q : a = a' <;> simp [q]
  have fy : (b == b') = !y := by rw [← hy]; by_cases q : b = b' <;> simp [q]
  have fz : (c == c') = !z := by rw [← hz]; by_cases q : c = c' <;> simp [q]
  clear hx hy hz
  go_enter Try.func9, Try.ntmps9
  go_wp2
  generalize (w.alloc (.cells #[.int .u8 k, .int .i32 a, .int .i32 b, .int .i32 c] 24)).alloc (.cells #[.int .u8 k', .int .i32 a', .int .i32 b', .int .i32 c'] 24) = wz at *
  go_loopw [5, 7] (fun m i wr => ∃ j : Nat, j ≤ 3 ∧ m = .int .u8 (chgTo x y z j : Nat) ∧ i = .int .i64 j ∧ New wz wr) (fun _ i _ => 3 - (intOf i).toNat)
  case atStart => exact ⟨0, by omega, by simp [chgTo], rfl, Upd.refl _ _⟩
  case round =>
    obtain ⟨j, hj, rfl, rfl, hN⟩ := hrel
    obtain ⟨c0, c1, c2, c3⟩ := four_cells (R1.out.new hN)
    obtain ⟨d0, d1, d2, d3⟩ := four_cells (R2.out.new hN)
    have h4 : j = 3 ∨ j = 0 ∨ j = 1 ∨ j = 2 := by omega
    rcases h4 with rfl | rfl | rfl | rfl
    · go_wp2
      go_ret
      exact ⟨rfl, hN0.trans hN⟩
    all_goals
      cases x <;> cases y <;> cases z
      all_goals
        simp only [Bool.not_true, Bool.not_false] at fx fy fz
        simp only [chgTo]
        go_wp2
        go_quiet (fail)
        go_wp2
        first
          | exact ⟨⟨1, by omega, rfl, rfl, hN.drewN _⟩, by decide⟩
          | exact ⟨⟨2, by omega, rfl, rfl, hN.drewN _⟩, by decide⟩
          | exact ⟨⟨3, by omega, rfl, rfl, hN.drewN _⟩, by decide⟩
end Go.Proofs.Ytpfdbkfjjjiamaa
