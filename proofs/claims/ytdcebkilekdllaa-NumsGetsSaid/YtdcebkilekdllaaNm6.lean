/- A number in groups, read: the walk of number. -/
import Derived.Test.YtdcebkilekdllaaNm5
namespace Go.Proofs.Ytdcebkilekdllaa
open Go.RowKit

/-- the number whose groups stand next: error, number, what is behind (f groups at most are left, i are read, v is their number) -/
def gv : Nat → Nat → Nat → List Bool → Int × Nat × List Bool
  | 0, _, _, R => (4, 0, R)
  | f + 1, i, v, R =>
    if R.length < 5 then (2, 0, R) else
    if Bi.numOf (R.take 5) / 16 = 0 then
      (if grp (v + Bi.numOf (R.take 5) % 16 * 2 ^ (4 * i)) = i + 1 then (0, v + Bi.numOf (R.take 5) % 16 * 2 ^ (4 * i), R.drop 5) else (4, 0, R))
    else gv f (i + 1) (v + Bi.numOf (R.take 5) % 16 * 2 ^ (4 * i)) (R.drop 5)
theorem or_shift (V x k : Nat) (hV : V < 2 ^ (4 * k)) (hx : x < 16) (hk : k < 16) : bits .or .u64 (V : Int) (IntKind.u64.wrap ((x : Int) * 2 ^ (4 * k))) = ((V + x * 2 ^ (4 * k) : Nat) : Int) := by
  have hp : 2 ^ (4 * k) * 16 ≤ 18446744073709551616 := by
    have : 2 ^ (4 * k) * 16 = 2 ^ (4 * k + 4) := by rw [Nat.pow_add]
    rw [this]
    exact Nat.le_trans (Nat.pow_le_pow_right (by omega) (show 4 * k + 4 ≤ 64 by omega)) (by decide)
  have hb : x * 2 ^ (4 * k) < 18446744073709551616 := by
    have := Nat.mul_le_mul_right (2 ^ (4 * k)) (show x ≤ 15 by omega)
    have h0 : 0 < 2 ^ (4 * k) := Nat.pow_pos (by omega)
    omega
  have e : ((x : Int) * 2 ^ (4 * k)) = ((x * 2 ^ (4 * k) : Nat) : Int) := by rw [Int.natCast_mul, Int.natCast_pow]; rfl
  have h0 : 0 < 2 ^ (4 * k) := Nat.pow_pos (by omega)
  rw [e, IntKind.wrap_u64, show (((x * 2 ^ (4 * k) : Nat) : Int) % 18446744073709551616) = ((x * 2 ^ (4 * k) : Nat) : Int) by omega, u64_or_nat _ _ (by omega) hb]
  congr 1
  have := Nat.two_pow_add_eq_or_of_lt hV x
  rw [Nat.mul_comm] at this
  rw [Nat.add_comm, this, Nat.or_comm]
theorem five_err (R : List Bool) : Bi.getErr R 5 = if R.length < 5 then 2 else 0 := by
  unfold Bi.getErr
  rw [if_neg (by omega)]
  by_cases h : R.length < 5
  · rw [if_pos h, if_pos (by omega)]
  · rw [if_neg h, if_neg (by omega)]

set_option maxHeartbeats 4000000 in
theorem number_any {w : World} {g a : Nat} {v : Value} {P : List (BitVec 8)} (h : IsR w g v P a) (R : List Bool) (hR : (Bi.bitsOf P).drop a = R) (ha : a ≤ 8 * P.length) (hm : P.length ≤ 1000000) :
    Calls Try.prog 47 #[.pointer (some ⟨g, 0, none⟩)] w fun e w' => e = .returned (.tuple #[.int .u64 (gv 16 0 0 R).2.1, .int .i64 (gv 16 0 0 R).1]) ∧
      ∃ a', IsR w' g v P a' ∧ ((gv 16 0 0 R).1 = 0 → (Bi.bitsOf P).drop a' = (gv 16 0 0 R).2.2) ∧ a' ≤ 8 * P.length ∧ Upd (fun b => b = g) w w' := by
  have BP := Bx.mk hm
  have HR := Bx.mk hR
  clear hm hR
  go_enter Try.func47, Try.ntmps47
  repeat' (first | fail | go_values | go_skip | go_guarded | go_step | go_upon | go_back)
  go_loopw [4, 8] (fun x i wr => ∃ (k V ak : Nat) (Rk : List Bool), k ≤ 16 ∧ i = .int .i64 k ∧ x = .int .u64 V ∧ V < 2 ^ (4 * k) ∧ IsR wr g v P ak ∧ Bx ((Bi.bitsOf P).drop ak = Rk) ∧ ak ≤ 8 * P.length ∧ Bx (gv 16 0 0 R = gv (16 - k) k V Rk) ∧ Upd (fun b => b = g) w wr) (fun _ i _ => 16 - (intOf i).toNat)
  case atStart => exact ⟨0, 0, a, R, by omega, rfl, rfl, by simp, h, HR, ha, ⟨rfl⟩, Upd.refl _ _⟩
  case round =>
    obtain ⟨k, V, ak, Rk, hk, rfl, rfl, hV, hI, HRk, hak, HG, hU⟩ := hrel
    by_cases hlt : k < 16
    · have HS := Bx.mk (show gv 16 0 0 R = gv (16 - k - 1 + 1) k V Rk by rw [HG.out, show 16 - k - 1 + 1 = 16 - k by omega])
      by_cases hs : Rk.length < 5
      · have HE := Bx.mk (show gv 16 0 0 R = (2, 0, Rk) by rw [HS.out, gv, if_pos hs])
        have C := Bx.mk (Get_e hI Rk 5 HRk.out hak BP.out (by decide) (by decide) 0 2 (by rw [Bi.getVal, if_neg (by rw [five_err, if_pos hs]; decide)]; rfl) (by rw [five_err, if_pos hs]) Rk (by rw [Bi.getRest, if_neg (by rw [five_err, if_pos hs]; decide)]))
        repeat' (first | (go_at_call 27; (with_reducible refine (C.out).mono ?_); rintro e w2 ⟨rfl, a2, hI2, hR2, ha2, hU2⟩; dsimp only) | go_values | go_skip | go_guarded | go_step | go_upon | go_back)
        go_returns
        rw [HE.out]
        exact ⟨rfl, a2, hI2, (fun h => by cases h), ha2, hU.trans hU2⟩
      · have h0 : Bi.getErr Rk 5 = 0 := by rw [five_err, if_neg hs]
        obtain ⟨x, hx⟩ : ∃ x, Bi.numOf (Rk.take 5) = x := ⟨_, rfl⟩
        have hx32 : x < 32 := by
          have := Bi.numOf_lt (Rk.take 5)
          rw [hx, List.length_take, Nat.min_eq_left (by omega)] at this
          exact this
        have C := Bx.mk (Get_e hI Rk 5 HRk.out hak BP.out (by decide) (by decide) x 0 (by rw [Bi.getVal, if_pos h0]; exact congrArg (fun z : Nat => (z : Int)) hx) h0 (Rk.drop 5) (by rw [Bi.getRest, if_pos h0]; rfl))
        have hA := and15 x (by omega)
        have hO := or_shift V (x % 16) k hV (by omega) hlt
        rw [show ((x % 16 : Nat) : Int) = (x : Int) % 16 by omega] at hO
        have HS2 := Bx.mk (show gv 16 0 0 R = if x / 16 = 0 then (if grp (V + x % 16 * 2 ^ (4 * k)) = k + 1 then (0, V + x % 16 * 2 ^ (4 * k), Rk.drop 5) else (4, 0, Rk)) else gv (16 - (k + 1)) (k + 1) (V + x % 16 * 2 ^ (4 * k)) (Rk.drop 5) by
          rw [HS.out, gv, if_neg hs, hx, show 16 - (k + 1) = 16 - k - 1 by omega])
        have hV2 : V + x % 16 * 2 ^ (4 * k) < 2 ^ (4 * (k + 1)) := by
          rw [show 4 * (k + 1) = 4 * k + 4 by omega, Nat.pow_add]
          have := Nat.mul_le_mul_right (2 ^ (4 * k)) (show x % 16 ≤ 15 by omega)
          omega
        have hV64 : V + x % 16 * 2 ^ (4 * k) < 18446744073709551616 := Nat.lt_of_lt_of_le hV2 (Nat.le_trans (Nat.pow_le_pow_right (by omega) (show 4 * (k + 1) ≤ 64 by omega)) (by decide))
        have eh : (x : Int) / 16 = ((x / 16 : Nat) : Int) := by omega
        generalize V + x % 16 * 2 ^ (4 * k) = V2 at *
        have CG := Bx.mk (fun w => groups_any V2 w hV64)
        have hgb := grp_bd V2
        generalize grp V2 = gr at *
        clear h0 hx
        by_cases hz : x / 16 = 0
        · have hz' : (x : Int) / 16 = 0 := by omega
          by_cases hgr : gr = k + 1
          · have HE := Bx.mk (show gv 16 0 0 R = (0, V2, Rk.drop 5) by rw [HS2.out, if_pos hz, if_pos hgr])
            have CG2 := Bx.mk (fun w => by
              have hcg := CG.out w
              rw [show ((gr : Nat) : Int) = (k : Int) + 1 by omega] at hcg
              exact hcg)
            clear hgr hgb CG
            repeat' (first | (first | (go_at_call 27; (with_reducible refine (C.out).mono ?_); rintro e w2 ⟨rfl, a2, hI2, hR2, ha2, hU2⟩; dsimp only) | (go_at_call 48; (with_reducible refine (CG2.out _).mono ?_); rintro e w3 ⟨rfl, rfl⟩; dsimp only)) | go_values | go_skip | go_guarded | go_step | go_upon | go_back)
            go_returns
            rw [HE.out]
            exact ⟨rfl, a2, hI2, (fun _ => hR2), ha2, hU.trans hU2⟩
          · have HE := Bx.mk (show gv 16 0 0 R = (4, 0, Rk) by rw [HS2.out, if_pos hz, if_neg hgr])
            have hgq : ((gr : Int) == (k : Int) + 1) = false := by simp only [beq_eq_false_iff_ne, ne_eq]; omega
            clear hgr hgb
            repeat' (first | (first | (go_at_call 27; (with_reducible refine (C.out).mono ?_); rintro e w2 ⟨rfl, a2, hI2, hR2, ha2, hU2⟩; dsimp only) | (go_at_call 48; (with_reducible refine (CG.out _).mono ?_); rintro e w3 ⟨rfl, rfl⟩; dsimp only)) | go_values | go_skip | go_guarded | go_step | go_upon | go_back)
            go_returns
            rw [HE.out]
            exact ⟨rfl, a2, hI2, (fun h => by cases h), ha2, hU.trans hU2⟩
        · have hzq : ((x : Int) / 16 == 0) = false := by simp only [beq_eq_false_iff_ne, ne_eq]; omega
          have BZ := Bx.mk hz
          clear eh hz
          repeat' (first | (go_at_call 27; (with_reducible refine (C.out).mono ?_); rintro e w2 ⟨rfl, a2, hI2, hR2, ha2, hU2⟩; dsimp only) | go_values | go_skip | go_guarded | go_step | go_upon | go_back)
          go_roundw
          case rel => exact ⟨k + 1, V2, a2, Rk.drop 5, by omega, by go_num, rfl, hV2, hI2, ⟨hR2⟩, ha2, ⟨by rw [HS2.out, if_neg BZ.out]⟩, hU.trans hU2⟩
          case measure => simp [intOf]; omega
    · obtain rfl : k = 16 := by omega
      have HE := Bx.mk (show gv 16 0 0 R = (4, 0, Rk) by rw [HG.out]; rfl)
      repeat' (first | fail | go_values | go_skip | go_guarded | go_step | go_upon | go_back)
      go_returns
      rw [HE.out]
      exact ⟨rfl, ak, hI, (fun h => by cases h), hak, hU⟩
end Go.Proofs.Ytdcebkilekdllaa
