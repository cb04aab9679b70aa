/- The law of parts. -/
import Derived.Test.YtfhkonjklhaknaaBi8
namespace Go.Proofs.Ytfhkonjklhaknaa
open Go.RowKit

theorem numErr (L : List Bool) (x k : Nat) (hk : k ≤ 64) (hx : x < 2 ^ k) (hL : L.length + k ≤ 1048576) : Bi.putErr L x k = 0 := by
  unfold Bi.putErr
  rw [if_neg (by omega), if_neg (by simp [Nat.div_eq_of_lt hx]), if_neg (by simp; omega)]
theorem numRes (L : List Bool) (x k : Nat) (hk : k ≤ 64) (hx : x < 2 ^ k) (hL : L.length + k ≤ 1048576) : Bi.putRes L x k = L ++ Bi.numBits x k := by
  rw [Bi.putRes, if_pos (numErr L x k hk hx hL)]; rfl
theorem pow_dvd64 (k : Nat) (h : k < 64) : 2 ^ k < 18446744073709551616 := Nat.lt_of_lt_of_eq (Nat.pow_lt_pow_right (by omega) h) (by decide)
theorem and_mask (x m : Nat) (hx : x < 18446744073709551616) (hm : m ≤ 64) : bits .and .u64 (x : Int) (IntKind.u64.wrap (IntKind.u64.wrap (2 ^ m) - 1)) = ((x % 2 ^ m : Nat) : Int) := by
  rw [IntKind.wrap_u64, IntKind.wrap_u64]
  have e : ((2 : Int) ^ m) = ((2 ^ m : Nat) : Int) := by rw [Int.natCast_pow]; rfl
  rw [e]
  by_cases h : m < 64
  · have hp := pow_dvd64 m h
    have h0 : 0 < 2 ^ m := Nat.pow_pos (by omega)
    have e2 : ((((2 ^ m : Nat) : Int) % 18446744073709551616 - 1) % 18446744073709551616) = ((2 ^ m - 1 : Nat) : Int) := by
      generalize 2 ^ m = q at *
      omega
    rw [e2, u64_and_nat _ _ hx (by omega), Nat.and_two_pow_sub_one_eq_mod]
  · obtain rfl : m = 64 := by omega
    have e2 : ((((2 ^ 64 : Nat) : Int) % 18446744073709551616 - 1) % 18446744073709551616) = ((2 ^ 64 - 1 : Nat) : Int) := by decide
    rw [e2, u64_and_nat _ _ hx (by decide), Nat.and_two_pow_sub_one_eq_mod]
theorem IsV.row_ne {w : World} {base g N base' g' N' : Nat} {v v' : Value} {p p' : List (BitVec 8)} (h : IsV w base g v N p) (h2 : IsV w base' g' v' N' p') : ¬ v.ownBlock = some g' := by
  intro hb
  obtain ⟨hl, ⟨rfl, _⟩ | ⟨g3, cap, cur, rfl, hg, hh, r⟩⟩ := h.row
  · cases hb
  · simp only [Value.ownBlock, Option.some.injEq] at hb
    subst hb
    rw [h2.obj] at hh
    injection hh with hh
    injection hh with _ hh
    exact absurd hh (by decide)

theorem mod_all (x m : Nat) (hx : x < 18446744073709551616) (hm : m ≤ 64) (h : ¬ m < 64) : x % 2 ^ m = x := by
  obtain rfl : m = 64 := by omega
  exact Nat.mod_eq_of_lt hx
theorem div_all (x m : Nat) (hx : x < 18446744073709551616) (hm : m ≤ 64) (h : ¬ m < 64) : x / 2 ^ m = 0 := by
  obtain rfl : m = 64 := by omega
  exact Nat.div_eq_of_lt hx
/-- the other writer is as it was -/
theorem Wrote.other {wa wb : World} {base g base' g' : Nat} {v v' u : Value} {L : List Bool} {w0 : World} (hU : Wrote base g v v' wa wb) (h : IsW wa base' g' u L) {N : Nat} {p : List (BitVec 8)} (hg : IsV wa base g v N p) (hne : g' ≠ g) (hv : ∀ b, u.ownBlock = some b → ¬ v.ownBlock = some b) : IsW wb base' g' u L := by
  refine IsV.upd h hU.upd ?_ ?_
  · rintro (q | q)
    · exact hne q
    · exact IsV.row_ne hg h q
  · rintro b hb (q | q)
    · exact IsV.row_ne h hg (q ▸ hb)
    · exact hv b hb q

set_option maxHeartbeats 4000000 in
theorem parts_any (x : Nat) (n k : BitVec 8) (w : World) (hx : x < 18446744073709551616) : Calls Try.prog 5 #[.int .u64 x, .int .u8 n.toNat, .int .u8 k.toNat] w fun e w' => e = .returned (.bool true) ∧ New w w' := by
  have hm : n.toNat % 65 ≤ 64 := by omega
  have em : ((n.toNat : Int) % 65) = ((n.toNat % 65 : Nat) : Int) := by omega
  have hnb := n.isLt
  have hkb := k.isLt
  generalize n.toNat = n0 at *
  generalize k.toNat = k0 at *
  generalize n0 % 65 = m at *
  have hl : k0 % (m + 1) ≤ m := by have := Nat.mod_lt k0 (show 0 < m + 1 by omega); omega
  have el : ((k0 : Int) % ((m : Int) + 1)) = ((k0 % (m + 1) : Nat) : Int) := by rw [Int.natCast_emod]; rfl
  have hlow0 : 0 ≤ (m : Int) + 1 ∧ (m : Int) + 1 ≠ 0 := by omega
  generalize k0 % (m + 1) = low at *
  have hy : x % 2 ^ m < 2 ^ m := Nat.mod_lt _ (Nat.pow_pos (by omega))
  have hyx : x % 2 ^ m < 18446744073709551616 := Nat.lt_of_le_of_lt (Nat.mod_le _ _) hx
  have hA := and_mask x m hx hm
  have hxy : ¬ m < 64 → x % 2 ^ m = x := mod_all x m hx hm
  generalize x % 2 ^ m = y at *
  have hB := and_mask y low hyx (by omega)
  have hly : y % 2 ^ low < 2 ^ low := Nat.mod_lt _ (Nat.pow_pos (by omega))
  have hly2 : y % 2 ^ low < 18446744073709551616 := Nat.lt_of_le_of_lt (Nat.mod_le _ _) hyx
  have hhy : y / 2 ^ low < 2 ^ (m - low) := by
    rw [Nat.div_lt_iff_lt_mul (Nat.pow_pos (by omega)), ← Nat.pow_add, show m - low + low = m by omega]; exact hy
  have hhy2 : y / 2 ^ low < 18446744073709551616 := Nat.lt_of_le_of_lt (Nat.div_le_self _ _) hyx
  have eh : ((y : Int) / 2 ^ low) = ((y / 2 ^ low : Nat) : Int) := by rw [Int.natCast_ediv, Int.natCast_pow]; rfl
  have hh0 : ¬ low < 64 → y / 2 ^ low = 0 := div_all y low hyx (by omega)
  have HS := Bx.mk (show Bi.numBits y low ++ Bi.numBits (y / 2 ^ low) (m - low) = Bi.numBits y m by rw [← Bi.numBits_add, show low + (m - low) = m by omega])
  have HM := Bx.mk (Bi.numBits_mod y low low (Nat.le_refl _))
  generalize y % 2 ^ low = y1 at *
  generalize y / 2 ^ low = y2 at *
  have hE1 := Bx.mk (numErr [] y m hm hy (by simp; omega))
  have hR1 := Bx.mk (numRes [] y m hm hy (by simp; omega))
  have hE2 := Bx.mk (numErr [] y1 low (by omega) hly (by simp; omega))
  have hR2 := Bx.mk (numRes [] y1 low (by omega) hly (by simp; omega))
  have hE3 := Bx.mk (numErr (Bi.numBits y low) y2 (m - low) (by omega) hhy (by rw [Bi.numBits_length]; omega))
  have hR3 := Bx.mk ((numRes (Bi.numBits y low) y2 (m - low) (by omega) hhy (by rw [Bi.numBits_length]; omega)).trans HS.out)
  have hR1' := Bx.mk (hR1.out.trans (List.nil_append _))
  have hR2' := Bx.mk (hR2.out.trans ((List.nil_append _).trans HM.out))
  have hsub : ((m : Int) - (low : Int)) = ((m - low : Nat) : Int) := by omega
  have hlen := Bi.numBits_length y m
  have hlen2 := Bi.numBits_length y low
  have HN := Bx.mk hlen
  generalize m - low = d at *
  have hyn : y1 < 18446744073709551616 := hly2
  clear hy hly hhy
  have hdb := Bx.mk (show low + d = m by have := hsub; omega)
  by_cases hm64 : m < 64
  · clear hxy hh0
    have hlow : low < 64 := by omega
    go_enter Try.func5, Try.ntmps5
    repeat' (first | (first | (go_at_call 9; (with_reducible refine (awake_any _).mono ?_); rintro e w1 ⟨rfl, hu1⟩; dsimp only) | (have _hmark := HS2; (go_at_call 10; (with_reducible refine (New_any _).mono ?_); rintro e w3 ⟨rfl, hu3, hW3, -⟩; have hA3 := IsW.new (hW2 0) hu3; have hne : w1.heap.size ≠ w2.heap.size := (by have := HS2.out; omega); dsimp only)) | (go_at_call 10; (with_reducible refine (New_any _).mono ?_); rintro e w2 ⟨rfl, hu2, hW2, hs2⟩; have HS2 := Bx.mk hs2; clear hs2; dsimp only) | (go_at_call 14; (with_reducible refine (Same_e _ _ _ _ _ _ _ _ _ (Bi.pack_length _) (Bi.pack_length _) (hrA.new huB) hrB true (decide_eq_true rfl)).mono ?_); rintro e w10 ⟨rfl, rfl⟩; dsimp only) | (have _hmark := hrA; (go_at_call 15; (with_reducible refine (Bytes_e (hW6.new huA) (by have := HN.out; omega) _ rfl _ rfl).mono ?_); rintro e w8 ⟨vB, rfl, hoB, huB⟩; obtain ⟨AB, cB, rfl, _, _, hrB, _⟩ := own_rd hoB; dsimp only)) | (go_at_call 15; (with_reducible refine (Bytes_e hA6 (by have := HN.out; omega) _ rfl _ rfl).mono ?_); rintro e w7 ⟨vA, rfl, hoA, huA⟩; obtain ⟨AA, cA, rfl, _, _, hrA, _⟩ := own_rd hoA; dsimp only) | (go_at_call 13; (with_reducible refine (Len_e hW6 _ rfl).mono ?_); rintro e w9 ⟨rfl, rfl⟩; dsimp only) | (go_at_call 13; (with_reducible refine (Len_e hA6 _ rfl).mono ?_); rintro e w9 ⟨rfl, rfl⟩; dsimp only) | (go_at_call 12; (with_reducible refine (Put_e hW5 hU5.upd.size (by omega) y2 (by omega) (y2 : Int) d rfl (by omega) (by omega) 0 hE3.out _ hR3.out).mono ?_); rintro e w6 ⟨rfl, vc, hW6, hU6⟩; have hA6 := hU6.other (w0 := w6) hA5 hW5 hne (fun b hb hb2 => by have h1 := own_lt hA4.row b hb; have h2 := own_ge hW5.row b hb2; omega); dsimp only) | (go_at_call 12; (with_reducible refine (Put_e (hB4 w4.heap.size) (Nat.le_refl _) (by simp) y1 hyn y1 low rfl (by omega) (by omega) 0 hE2.out _ hR2'.out).mono ?_); rintro e w5 ⟨rfl, vb, hW5, hU5⟩; have hA5 := hU5.other (w0 := w5) hA4 (hB4 w4.heap.size) hne (fun b hb hb2 => by cases hb2); dsimp only) | (go_at_call 12; (with_reducible refine (Put_e hA3 (Nat.zero_le _) (by simp) y hyx y m rfl (by omega) (by omega) 0 hE1.out _ hR1'.out).mono ?_); rintro e w4 ⟨rfl, va, hA4, hU4⟩; have hB4 := fun B => hU4.other (w0 := w4) (hW3 B) hA3 hne.symm (fun b hb => by cases hb); dsimp only)) | go_values | go_skip | go_guarded | go_step | go_upon | go_back)


    go_ret
    have n3 := (hu1.trans hu2).trans hu3
    have hz1 := hu1.size
    have hs2 := HS2.out
    obtain ⟨n4, b4⟩ := hU4.fresh n3 hz1 (fun b hb => by cases hb)
    obtain ⟨n5, b5⟩ := hU5.fresh n4 (by omega) (fun b hb => by cases hb)
    obtain ⟨n6, b6⟩ := hU6.fresh n5 (by omega) b5
    exact ⟨rfl, (n6.trans huA).trans huB⟩
  have hxe := hxy hm64
  clear hxy
  subst hxe
  clear hA
  by_cases hlow : low < 64
  · clear hh0
    go_enter Try.func5, Try.ntmps5
    repeat' (first | (first | (go_at_call 9; (with_reducible refine (awake_any _).mono ?_); rintro e w1 ⟨rfl, hu1⟩; dsimp only) | (have _hmark := HS2; (go_at_call 10; (with_reducible refine (New_any _).mono ?_); rintro e w3 ⟨rfl, hu3, hW3, -⟩; have hA3 := IsW.new (hW2 0) hu3; have hne : w1.heap.size ≠ w2.heap.size := (by have := HS2.out; omega); dsimp only)) | (go_at_call 10; (with_reducible refine (New_any _).mono ?_); rintro e w2 ⟨rfl, hu2, hW2, hs2⟩; have HS2 := Bx.mk hs2; clear hs2; dsimp only) | (go_at_call 14; (with_reducible refine (Same_e _ _ _ _ _ _ _ _ _ (Bi.pack_length _) (Bi.pack_length _) (hrA.new huB) hrB true (decide_eq_true rfl)).mono ?_); rintro e w10 ⟨rfl, rfl⟩; dsimp only) | (have _hmark := hrA; (go_at_call 15; (with_reducible refine (Bytes_e (hW6.new huA) (by have := HN.out; omega) _ rfl _ rfl).mono ?_); rintro e w8 ⟨vB, rfl, hoB, huB⟩; obtain ⟨AB, cB, rfl, _, _, hrB, _⟩ := own_rd hoB; dsimp only)) | (go_at_call 15; (with_reducible refine (Bytes_e hA6 (by have := HN.out; omega) _ rfl _ rfl).mono ?_); rintro e w7 ⟨vA, rfl, hoA, huA⟩; obtain ⟨AA, cA, rfl, _, _, hrA, _⟩ := own_rd hoA; dsimp only) | (go_at_call 13; (with_reducible refine (Len_e hW6 _ rfl).mono ?_); rintro e w9 ⟨rfl, rfl⟩; dsimp only) | (go_at_call 13; (with_reducible refine (Len_e hA6 _ rfl).mono ?_); rintro e w9 ⟨rfl, rfl⟩; dsimp only) | (go_at_call 12; (with_reducible refine (Put_e hW5 hU5.upd.size (by omega) y2 (by omega) (y2 : Int) d rfl (by omega) (by omega) 0 hE3.out _ hR3.out).mono ?_); rintro e w6 ⟨rfl, vc, hW6, hU6⟩; have hA6 := hU6.other (w0 := w6) hA5 hW5 hne (fun b hb hb2 => by have h1 := own_lt hA4.row b hb; have h2 := own_ge hW5.row b hb2; omega); dsimp only) | (go_at_call 12; (with_reducible refine (Put_e (hB4 w4.heap.size) (Nat.le_refl _) (by simp) y1 hyn y1 low rfl (by omega) (by omega) 0 hE2.out _ hR2'.out).mono ?_); rintro e w5 ⟨rfl, vb, hW5, hU5⟩; have hA5 := hU5.other (w0 := w5) hA4 (hB4 w4.heap.size) hne (fun b hb hb2 => by cases hb2); dsimp only) | (go_at_call 12; (with_reducible refine (Put_e hA3 (Nat.zero_le _) (by simp) y hyx y m rfl (by omega) (by omega) 0 hE1.out _ hR1'.out).mono ?_); rintro e w4 ⟨rfl, va, hA4, hU4⟩; have hB4 := fun B => hU4.other (w0 := w4) (hW3 B) hA3 hne.symm (fun b hb => by cases hb); dsimp only)) | go_values | go_skip | go_guarded | go_step | go_upon | go_back)
    go_ret
    have n3 := (hu1.trans hu2).trans hu3
    have hz1 := hu1.size
    have hs2 := HS2.out
    obtain ⟨n4, b4⟩ := hU4.fresh n3 hz1 (fun b hb => by cases hb)
    obtain ⟨n5, b5⟩ := hU5.fresh n4 (by omega) (fun b hb => by cases hb)
    obtain ⟨n6, b6⟩ := hU6.fresh n5 (by omega) b5
    exact ⟨rfl, (n6.trans huA).trans huB⟩
  · have hh := hh0 hlow
    clear hh0 eh
    subst hh
    go_enter Try.func5, Try.ntmps5
    repeat' (first | (first | (go_at_call 9; (with_reducible refine (awake_any _).mono ?_); rintro e w1 ⟨rfl, hu1⟩; dsimp only) | (have _hmark := HS2; (go_at_call 10; (with_reducible refine (New_any _).mono ?_); rintro e w3 ⟨rfl, hu3, hW3, -⟩; have hA3 := IsW.new (hW2 0) hu3; have hne : w1.heap.size ≠ w2.heap.size := (by have := HS2.out; omega); dsimp only)) | (go_at_call 10; (with_reducible refine (New_any _).mono ?_); rintro e w2 ⟨rfl, hu2, hW2, hs2⟩; have HS2 := Bx.mk hs2; clear hs2; dsimp only) | (go_at_call 14; (with_reducible refine (Same_e _ _ _ _ _ _ _ _ _ (Bi.pack_length _) (Bi.pack_length _) (hrA.new huB) hrB true (decide_eq_true rfl)).mono ?_); rintro e w10 ⟨rfl, rfl⟩; dsimp only) | (have _hmark := hrA; (go_at_call 15; (with_reducible refine (Bytes_e (hW6.new huA) (by have := HN.out; omega) _ rfl _ rfl).mono ?_); rintro e w8 ⟨vB, rfl, hoB, huB⟩; obtain ⟨AB, cB, rfl, _, _, hrB, _⟩ := own_rd hoB; dsimp only)) | (go_at_call 15; (with_reducible refine (Bytes_e hA6 (by have := HN.out; omega) _ rfl _ rfl).mono ?_); rintro e w7 ⟨vA, rfl, hoA, huA⟩; obtain ⟨AA, cA, rfl, _, _, hrA, _⟩ := own_rd hoA; dsimp only) | (go_at_call 13; (with_reducible refine (Len_e hW6 _ rfl).mono ?_); rintro e w9 ⟨rfl, rfl⟩; dsimp only) | (go_at_call 13; (with_reducible refine (Len_e hA6 _ rfl).mono ?_); rintro e w9 ⟨rfl, rfl⟩; dsimp only) | (go_at_call 12; (with_reducible refine (Put_e hW5 hU5.upd.size (by omega) 0 (by decide) 0 d rfl (by omega) (by omega) 0 hE3.out _ hR3.out).mono ?_); rintro e w6 ⟨rfl, vc, hW6, hU6⟩; have hA6 := hU6.other (w0 := w6) hA5 hW5 hne (fun b hb hb2 => by have h1 := own_lt hA4.row b hb; have h2 := own_ge hW5.row b hb2; omega); dsimp only) | (go_at_call 12; (with_reducible refine (Put_e (hB4 w4.heap.size) (Nat.le_refl _) (by simp) y1 hyn y1 low rfl (by omega) (by omega) 0 hE2.out _ hR2'.out).mono ?_); rintro e w5 ⟨rfl, vb, hW5, hU5⟩; have hA5 := hU5.other (w0 := w5) hA4 (hB4 w4.heap.size) hne (fun b hb hb2 => by cases hb2); dsimp only) | (go_at_call 12; (with_reducible refine (Put_e hA3 (Nat.zero_le _) (by simp) y hyx y m rfl (by omega) (by omega) 0 hE1.out _ hR1'.out).mono ?_); rintro e w4 ⟨rfl, va, hA4, hU4⟩; have hB4 := fun B => hU4.other (w0 := w4) (hW3 B) hA3 hne.symm (fun b hb => by cases hb); dsimp only)) | go_values | go_skip | go_guarded | go_step | go_upon | go_back)
    go_ret
    have n3 := (hu1.trans hu2).trans hu3
    have hz1 := hu1.size
    have hs2 := HS2.out
    obtain ⟨n4, b4⟩ := hU4.fresh n3 hz1 (fun b hb => by cases hb)
    obtain ⟨n5, b5⟩ := hU5.fresh n4 (by omega) (fun b hb => by cases hb)
    obtain ⟨n6, b6⟩ := hU6.fresh n5 (by omega) b5
    exact ⟨rfl, (n6.trans huA).trans huB⟩
end Go.Proofs.Ytfhkonjklhaknaa
