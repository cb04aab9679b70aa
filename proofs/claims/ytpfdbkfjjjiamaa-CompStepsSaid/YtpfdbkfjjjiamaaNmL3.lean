/- The law of ranges. -/
import Derived.Test.YtpfdbkfjjjiamaaNm3
namespace Go.Proofs.Ytpfdbkfjjjiamaa
open Go.RowKit

set_option maxHeartbeats 4000000 in
theorem refIn_any (n lo hi : Int) (w : World) (h1 : -9223372036854775808 ≤ n) (h2 : n ≤ 9223372036854775807) (h3 : -9223372036854775808 ≤ lo) (h4 : lo ≤ 9223372036854775807) (h5 : -9223372036854775808 ≤ hi) (h6 : hi ≤ 9223372036854775807) :
    Calls Try.prog 47 #[.int .i64 n, .int .i64 lo, .int .i64 hi] w fun e w' => ∃ vx, e = .returned (.tuple #[vx, .int .i64 (inE n lo hi)]) ∧ w'.ownsRow 0 4 1 vx (inL n lo hi).length (bools (inL n lo hi)) ∧ New w w' := by
  by_cases hr : hi < lo
  · have HE := Bx.mk (show inE n lo hi = 1 from if_pos hr)
    have HR := Bx.mk (show inL n lo hi = [] by rw [inL, if_pos (.inl hr)])
    rw [HE.out, HR.out]
    clear h1 h2 h3 h4 h5 h6
    go_enter Try.func47, Try.ntmps47
    repeat' (first | fail | go_values | go_skip | go_guarded | go_step | go_upon | go_back)
    go_returns
    exact ⟨_, rfl, World.ownsRow_nil _ _ _ _, Upd.refl _ _⟩
  by_cases ho : n < lo ∨ hi < n
  · have HE := Bx.mk (show inE n lo hi = 5 by rw [inE, if_neg hr, if_pos ho])
    have HR := Bx.mk (show inL n lo hi = [] by rw [inL, if_pos (.inr ho)])
    rw [HE.out, HR.out]
    clear h1 h2 h3 h4 h5 h6
    by_cases hn : n < lo
    · clear ho
      go_enter Try.func47, Try.ntmps47
      repeat' (first | fail | go_values | go_skip | go_guarded | go_step | go_upon | go_back)
      go_returns
      exact ⟨_, rfl, World.ownsRow_nil _ _ _ _, Upd.refl _ _⟩
    · have hn2 : hi < n := by omega
      clear ho
      go_enter Try.func47, Try.ntmps47
      repeat' (first | fail | go_values | go_skip | go_guarded | go_step | go_upon | go_back)
      go_returns
      exact ⟨_, rfl, World.ownsRow_nil _ _ _ _, Upd.refl _ _⟩
  · have HE := Bx.mk (show inE n lo hi = 0 by rw [inE, if_neg hr, if_neg ho])
    have hlt := in_lt n lo hi (by omega) (by omega) h3 h6
    have hw64 := wid_le lo hi
    have HR := Bx.mk (show inL n lo hi = Bi.numBits (n - lo).toNat (wid lo hi) by rw [inL, if_neg (by omega)])
    rw [HE.out, HR.out]
    have e : IntKind.u64.wrap (IntKind.u64.wrap n - IntKind.u64.wrap lo) = n - lo := by
      rw [IntKind.wrap_u64, IntKind.wrap_u64, IntKind.wrap_u64]; omega
    obtain ⟨x, hx⟩ : ∃ x : Nat, n - lo = x := ⟨(n - lo).toNat, by omega⟩
    have hxl : x < 18446744073709551616 := by omega
    rw [hx] at e
    rw [hx, Int.toNat_natCast] at hlt
    rw [hx, Int.toNat_natCast]
    have HQ := Bx.mk (numRes [] x (wid lo hi) hw64 hlt (by simp; omega))
    have HW := Bx.mk (fun w => refWidth_any lo hi w h3 h4 h5 h6)
    have hge : lo ≤ n := by omega
    have hle : n ≤ hi := by omega
    have hlh : lo ≤ hi := by omega
    generalize wid lo hi = d at *
    have HP := Bx.mk (fun w => refPut_any (.slice none 0 0) [] 0 x d w hxl (by omega) (by omega) rfl (by omega) (World.ownsRow_nil _ _ _ _))
    clear hr ho h1 h2 h3 h4 h5 h6
    go_enter Try.func47, Try.ntmps47
    repeat' (first | (first | (go_at_call 56; go_loud ((with_reducible refine (HW.out _).mono ?_); rintro e w2 ⟨rfl, rfl⟩; dsimp only)) | (go_at_call 46; go_loud ((with_reducible refine (HP.out _).mono ?_); rintro e w4 ⟨v4, rfl, ho4, hu4⟩; dsimp only))) | go_values | go_skip | go_guarded | go_step | go_upon | go_back)
    go_returns
    rw [HQ.out, List.nil_append] at ho4
    exact ⟨_, rfl, ho4, hu4⟩

end Go.Proofs.Ytpfdbkfjjjiamaa
