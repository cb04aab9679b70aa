/- The reference's table, and its Check. -/
import Derived.Test.YtdnkdmdmekdfkaaSc3
namespace Go.Proofs.Ytdnkdmdmekdfkaa
open Go.RowKit

set_option maxRecDepth 4000 in
set_option maxHeartbeats 1000000 in
theorem refCount_any (k : Nat) (w : World) (hk : k < 256) :
    Calls Try.prog 74 #[.int .u8 k] w fun e w' => e = .returned (.int .i64 (flds k).length) ∧ New w w' := by
  rcases six k with rfl | rfl | rfl | rfl | rfl | rfl | h6
  all_goals first
    | (go_enter Try.func74, Try.ntmps74; go_wp2; go_ret; exact ⟨rfl, (Upd.refl _ _).alloc _⟩)
    | (have hk5 : (5 : Int) < (k : Int) := (by omega); rw [flds_big k h6]; go_enter Try.func74, Try.ntmps74; go_wp2; go_ret; exact ⟨rfl, Upd.refl _ _⟩)

theorem refCount_e (k : Nat) (K : Int) (w : World) (hk : k < 256) (hK : K = (k : Int)) :
    Calls Try.prog 74 #[.int .u8 K] w fun e w' => e = .returned (.int .i64 (flds k).length) ∧ New w w' := by subst hK; exact refCount_any k w hk
/-- a field's range; or the error -/
def rngLo (k : Nat) (i : Int) : Int := if 0 ≤ i then (((flds k)[i.toNat]?).map Fld.lo).getD 0 else 0
def rngHi (k : Nat) (i : Int) : Int := if 0 ≤ i then (((flds k)[i.toNat]?).map Fld.hi).getD 0 else 0
def rngE (k : Nat) (i : Int) : Int := if 0 ≤ i ∧ i < (flds k).length then 0 else 1
theorem rng_bad (k : Nat) (i : Int) (h : ¬ (0 ≤ i ∧ i < (flds k).length)) : rngLo k i = 0 ∧ rngHi k i = 0 ∧ rngE k i = 1 := by
  refine ⟨?_, ?_, if_neg h⟩
  · unfold rngLo; split
    · rw [List.getElem?_eq_none (by omega)]; rfl
    · rfl
  · unfold rngHi; split
    · rw [List.getElem?_eq_none (by omega)]; rfl
    · rfl
theorem rng_ok (k i : Nat) (h : i < (flds k).length) : rngLo k i = (flds k)[i].lo ∧ rngHi k i = (flds k)[i].hi ∧ rngE k i = 0 := by
  refine ⟨?_, ?_, if_pos (by omega)⟩
  · rw [rngLo, if_pos (by omega), Int.toNat_natCast, List.getElem?_eq_getElem h]; rfl
  · rw [rngHi, if_pos (by omega), Int.toNat_natCast, List.getElem?_eq_getElem h]; rfl

set_option maxRecDepth 4000 in
set_option maxHeartbeats 4000000 in
theorem refRange_any (k : Nat) (i : Int) (w : World) (hk : k < 256) :
    Calls Try.prog 75 #[.int .u8 k, .int .i64 i] w fun e w' => e = .returned (.tuple #[.int .i32 (rngLo k i), .int .i32 (rngHi k i), .int .i64 (rngE k i)]) ∧ New w w' := by
  by_cases hi : 0 ≤ i ∧ i < (flds k).length
  · obtain ⟨j, rfl⟩ := Int.eq_ofNat_of_zero_le hi.1
    have HC := Bx.mk (fun (K : Int) (hK : K = (k : Int)) w => refCount_e k K w hk hK)
    have hjl : j < (flds k).length := by omega
    clear hi
    rcases six k with rfl | rfl | rfl | rfl | rfl | rfl | h6
    case' inl =>
      have hj : j = 0 ∨ j = 1 := by change j < 2 at hjl; omega
      rcases hj with rfl | rfl
    case' inr.inl =>
      have hj : j = 0 ∨ j = 1 := by change j < 2 at hjl; omega
      rcases hj with rfl | rfl
    case' inr.inr.inl =>
      have hj : j = 0 := by change j < 1 at hjl; omega
      subst hj
    case' inr.inr.inr.inl =>
      have hj : j = 0 ∨ j = 1 ∨ j = 2 := by change j < 3 at hjl; omega
      rcases hj with rfl | rfl | rfl
    case' inr.inr.inr.inr.inl =>
      have hj : j = 0 ∨ j = 1 ∨ j = 2 := by change j < 3 at hjl; omega
      rcases hj with rfl | rfl | rfl
    case' inr.inr.inr.inr.inr.inl =>
      have hj : j = 0 ∨ j = 1 ∨ j = 2 := by change j < 3 at hjl; omega
      rcases hj with rfl | rfl | rfl
    case' inr.inr.inr.inr.inr.inr => exact absurd hjl (by rw [flds_big k h6]; simp)
    all_goals
      clear hjl
      go_enter Try.func75, Try.ntmps75
      go_wp2_with (go_at_call 74; (with_reducible refine (HC.out _ (by decide) _).mono ?_); rintro e w1 ⟨rfl, hu⟩; (first | rw [show (flds 0).length = 2 from rfl] | rw [show (flds 1).length = 2 from rfl] | rw [show (flds 2).length = 1 from rfl] | rw [show (flds 3).length = 3 from rfl] | rw [show (flds 4).length = 3 from rfl] | rw [show (flds 5).length = 3 from rfl]); dsimp only)
      go_returns
      exact ⟨rfl, ((((((((((((((hu.alloc _).alloc _).alloc _).alloc _).alloc _).alloc _).alloc _).alloc _).alloc _).alloc _).alloc _).alloc _).alloc _).alloc _)⟩
  · obtain ⟨e1, e2, e3⟩ := rng_bad k i hi
    rw [e1, e2, e3]
    clear e1 e2 e3
    by_cases h0 : i < 0
    · clear hi
      go_enter Try.func75, Try.ntmps75
      go_wp2
      go_returns
      exact ⟨rfl, Upd.refl _ _⟩
    · have hge : ((flds k).length : Int) ≤ i := by omega
      clear hi
      go_enter Try.func75, Try.ntmps75
      go_wp2_with (go_at_call 74; (with_reducible refine (refCount_any k _ hk).mono ?_); rintro e w1 ⟨rfl, hu⟩; dsimp only)
      go_returns
      exact ⟨rfl, hu⟩
end Go.Proofs.Ytdnkdmdmekdfkaa
