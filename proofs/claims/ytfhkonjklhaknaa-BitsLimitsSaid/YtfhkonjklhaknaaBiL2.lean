/- The law of limits. -/
import Derived.Test.YtfhkonjklhaknaaBi8
namespace Go.Proofs.Ytfhkonjklhaknaa
open Go.RowKit

theorem limitsErr (L : List Bool) (k : Nat) (hk : k < 16383) (hL : L.length = 64 * k) : Bi.putErr L 9223372036854775815 64 = 0 := by
  unfold Bi.putErr
  rw [if_neg (by omega), if_neg (by decide), if_neg (by simp; omega)]
theorem zeroErr (L : List Bool) (k : Nat) (hk : k ≤ 64) : Bi.putErr L 0 k = if 1048576 < L.length + k then 3 else 0 := by
  unfold Bi.putErr
  rw [if_neg (by omega), if_neg (by simp)]; rfl
theorem res_length (L : List Bool) (x : Nat) (k : Nat) (h : Bi.putErr L x k = 0) : (Bi.putRes L x k).length = L.length + k := by
  rw [Bi.putRes, if_pos h, List.length_append, Bi.numBits_length]; rfl

theorem x7 : (9223372036854775815 : Int) = ((9223372036854775815 : Nat) : Int) := by decide
theorem x7' : 9223372036854775815 < 18446744073709551616 := by decide
theorem limitsPut {w : World} {g : Nat} {v : Value} {L : List Bool} (h : IsW w 0 g v L) (k : Nat) (hk : k < 16383) (hL : L.length = 64 * k) :
    Calls Try.prog 12 #[.pointer (some ⟨g, 0, none⟩), .int .u64 9223372036854775815, .int .i64 64] w fun e w' => e = .returned (.int .i64 0) ∧ ∃ (v' : Value) (M : List Bool), M.length = 64 * (k + 1) ∧ IsW w' 0 g v' M ∧ Wrote 0 g v v' w w' := by
  have HE := limitsErr L k hk hL
  have HR := res_length L 9223372036854775815 64 HE
  exact (Put_e h (Nat.zero_le _) (by omega) 9223372036854775815 x7' 9223372036854775815 64 x7 (by decide) (by decide) 0 HE _ rfl).mono fun e w' ⟨he, v', hW, hU⟩ => ⟨he, v', _, by rw [show ((64 : Int) = ((64 : Nat) : Int)) from rfl] at *; rw [HR, hL]; omega, hW, hU⟩
set_option maxHeartbeats 1000000 in
theorem limits_any (n m : BitVec 8) (w : World) : Calls Try.prog 4 #[.int .u8 n.toNat, .int .u8 m.toNat] w fun e w' => e = .returned (.bool true) ∧ New w w' := by
  have hk : n.toNat % 65 ≤ 64 := by omega
  have hm : m.toNat % 65 ≤ 64 := by omega
  have ek : ((n.toNat : Int) % 65) = ((n.toNat % 65 : Nat) : Int) := by omega
  have em : ((m.toNat : Int) % 65) = ((m.toNat % 65 : Nat) : Int) := by omega
  have hnb := n.isLt
  have hmb := m.isLt
  generalize n.toNat = n0 at *
  generalize m.toNat = m0 at *
  generalize n0 % 65 = k at *
  generalize m0 % 65 = m at *
  go_enter Try.func4, Try.ntmps4
  go_wp2_with (first | (go_at_call 9; go_loud ((with_reducible refine (awake_any _).mono ?_); rintro e w1 ⟨rfl, hu1⟩; dsimp only)) | (go_at_call 10; go_loud ((with_reducible refine (New_any _).mono ?_); rintro e w2 ⟨rfl, hu2, hW2, _⟩; dsimp only)))
  have hsz := hu1.size
  generalize w1.heap.size = g at *
  have hu02 := hu1.trans hu2
  go_loopw [12] (fun i wr => ∃ (j : Nat) (v : Value) (L : List Bool), j ≤ 16383 ∧ i = .int .i64 j ∧ L.length = 64 * j ∧ IsW wr 0 g v L ∧ New w wr ∧ ∀ b, v.ownBlock = some b → w.heap.size ≤ b) (fun i _ => 16383 - (intOf i).toNat)
  case atStart => exact ⟨0, _, [], by omega, rfl, rfl, hW2 0, hu02, fun b hb => by cases hb⟩
  case round =>
    obtain ⟨j, v, L, hj, rfl, hL, hW, hN, hv⟩ := hrel
    by_cases hlt : j < 16383
    · have BJ := Bx.mk hj
      have BL := Bx.mk hL
      have BT := Bx.mk hlt
      have hlt' : (j : Int) < 16383 := by omega
      clear hj hL hlt
      repeat' (first | (go_at_call 12; go_loud ((with_reducible refine (limitsPut hW j BT.out BL.out).mono ?_); rintro e w3 ⟨rfl, v3, M, hM, hW3, hU3⟩; dsimp only)) | go_values | go_skip | go_guarded | go_step | go_upon | go_back)
      go_roundw
      case rel =>
        obtain ⟨n3, b3⟩ := hU3.fresh hN hsz hv
        exact ⟨j + 1, v3, M, by have := BT.out; omega, by go_num, hM, hW3, n3, b3⟩
      case measure => simp [intOf]; omega
    · obtain rfl : j = 16383 := by omega
      have HE := Bx.mk (show Bi.putErr L 0 k = 0 by rw [zeroErr _ _ hk, if_neg (by omega)])
      have HR := Bx.mk (res_length L 0 k HE.out)
      have hL1 : (Bi.putRes L 0 k).length = 1048512 + k := by rw [HR.out, hL]
      by_cases hkm : k + m ≤ 64
      · have HE2 := Bx.mk (show Bi.putErr (Bi.putRes L 0 k) 0 m = 0 by rw [zeroErr _ _ hm, if_neg (by omega)])
        have hd : decide ((k : Int) + (m : Int) ≤ 64) = true := decide_eq_true (by omega)
        go_wp2_with (first | (go_at_call 12; go_loud ((with_reducible refine (Put_e hW3 (Nat.zero_le _) (by omega) 0 (by decide) 0 m rfl (by omega) (by omega) 0 HE2.out _ rfl).mono ?_); rintro e w4 ⟨rfl, v4, hW4, hU4⟩; dsimp only)) | (go_at_call 12; go_loud ((with_reducible refine (Put_e hW (Nat.zero_le _) (by omega) 0 (by decide) 0 k rfl (by omega) (by omega) 0 HE.out _ rfl).mono ?_); rintro e w3 ⟨rfl, v3, hW3, hU3⟩; dsimp only)))
        go_ret
        obtain ⟨n3, b3⟩ := hU3.fresh hN hsz hv
        obtain ⟨n4, b4⟩ := hU4.fresh n3 hsz b3
        exact ⟨rfl, n4⟩
      · have HE2 := Bx.mk (show Bi.putErr (Bi.putRes L 0 k) 0 m = 3 by rw [zeroErr _ _ hm, if_pos (by omega)])
        have HR2 := Bx.mk (show ((Bi.putRes (Bi.putRes L 0 k) 0 m).length : Int) = 1048512 + (k : Int) by rw [Bi.putRes, if_neg (by rw [HE2.out]; decide), hL1]; omega)
        have hd : decide ((k : Int) + (m : Int) ≤ 64) = false := decide_eq_false (by omega)
        go_wp2_with (first | (go_at_call 13; go_loud ((with_reducible refine (Len_e hW4 _ HR2.out).mono ?_); rintro e w5 ⟨rfl, rfl⟩; dsimp only)) | (go_at_call 12; go_loud ((with_reducible refine (Put_e hW3 (Nat.zero_le _) (by omega) 0 (by decide) 0 m rfl (by omega) (by omega) 3 HE2.out _ rfl).mono ?_); rintro e w4 ⟨rfl, v4, hW4, hU4⟩; dsimp only)) | (go_at_call 12; go_loud ((with_reducible refine (Put_e hW (Nat.zero_le _) (by omega) 0 (by decide) 0 k rfl (by omega) (by omega) 0 HE.out _ rfl).mono ?_); rintro e w3 ⟨rfl, v3, hW3, hU3⟩; dsimp only)))
        go_ret
        obtain ⟨n3, b3⟩ := hU3.fresh hN hsz hv
        obtain ⟨n4, b4⟩ := hU4.fresh n3 hsz b3
        exact ⟨rfl, n4⟩
end Go.Proofs.Ytfhkonjklhaknaa
