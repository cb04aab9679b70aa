/- Numbers in groups: the walks of groups, PutVar, Zig. -/
import Derived.Test.YtdcebkilekdllaaBi8
import Derived.Test.YtdcebkilekdllaaWid
namespace Go.Proofs.Ytdcebkilekdllaa
open Go.RowKit

/-- how many groups a number takes -/
def grp (v : Nat) : Nat := max 1 ((Lib.bitLen v + 3) / 4)
theorem grp_bd (v : Nat) : 1 ≤ grp v ∧ grp v ≤ 16 := by have := bitLen_le v; unfold grp; omega
def varX (v i n : Nat) : Nat := v / 2 ^ (4 * i) % 16 + (if i + 1 < n then 16 else 0)
theorem varX_lt (v i n : Nat) : varX v i n < 32 := by unfold varX; split <;> omega
def varTo (v n k : Nat) : List Bool := (List.range k).flatMap fun i => Bi.numBits (varX v i n) 5
def varBits (v : Nat) : List Bool := varTo v (grp v) (grp v)
theorem varTo_succ (v n k : Nat) : varTo v n (k + 1) = varTo v n k ++ Bi.numBits (varX v k n) 5 := by simp [varTo, List.range_succ]
theorem varTo_length (v n k : Nat) : (varTo v n k).length = 5 * k := by
  induction k with
  | zero => rfl
  | succ k ih => rw [varTo_succ, List.length_append, ih, Bi.numBits_length]; omega

theorem groups_any (v : Nat) (w : World) (hv : v < 18446744073709551616) :
    Calls Try.prog 48 #[.int .u64 v] w fun e w' => e = .returned (.int .i64 (grp v)) ∧ w' = w := by
  have hl := bitLen_le v
  have hb := grp_bd v
  have HG := Bx.mk (show max 1 (((Lib.bitLen v : Nat) + 4 - 1 : Int) / 4) = (grp v : Int) by unfold grp; omega)
  have hL := Len64_any (v : Int) w (by omega) (by omega)
  rw [Int.toNat_natCast] at hL
  have BL := Bx.mk hL
  clear hL
  generalize Lib.bitLen v = b at *
  generalize grp v = n at *
  have hmx : max 1 (((b : Int) + 4 - 1) / 4) = (n : Int) := HG.out
  go_enter Try.func48, Try.ntmps48
  repeat' (first | (first | (go_at_call 39; (with_reducible refine (BL.out).mono ?_); rintro e w1 ⟨rfl, rfl⟩; dsimp only) | ((with_reducible refine at_wpList ?_); refine wpList_max rfl _ _ _ _ rfl _ _ _ _ _ hmx rfl rfl ?_)) | go_values | go_skip | go_guarded | go_step | go_upon | go_back)
  go_ret
  exact ⟨rfl, rfl⟩

theorem and15 (z : Nat) (hz : z < 18446744073709551616) : bits .and .u64 (z : Int) 15 = ((z % 16 : Nat) : Int) := by
  rw [show (15 : Int) = ((15 : Nat) : Int) from rfl, u64_and_nat _ _ hz (by decide), show (15 : Nat) = 2 ^ 4 - 1 from rfl, Nat.and_two_pow_sub_one_eq_mod]
theorem or16 (y : Nat) (hy : y < 16) : bits .or .u64 (y : Int) 16 = ((y + 16 : Nat) : Int) := by
  rw [show (16 : Int) = ((16 : Nat) : Int) from rfl, u64_or_nat _ _ (by omega) (by decide)]
  congr 1
  have := Nat.two_pow_add_eq_or_of_lt (i := 4) hy 1
  rw [Nat.or_comm]
  exact this.symm.trans (by omega)
theorem Wrote.trans {w w1 w2 : World} {base g : Nat} {v v1 v2 : Value} (h1 : Wrote base g v v1 w w1) (h2 : Wrote base g v1 v2 w1 w2) : Wrote base g v v2 w w2 := by
  refine ⟨h1.upd.then h2.upd (fun b hb => ?_), fun b hb => ?_⟩
  · rcases hb with rfl | hb
    · exact .inl (.inl rfl)
    · exact (h1.at_ b hb).elim (fun e => .inl (.inr e)) .inr
  · rcases h2.at_ b hb with h | h
    · exact h1.at_ b h
    · exact .inr (Nat.le_trans h1.upd.size h)
def pvErr (L : List Bool) (x : Nat) : Int := if 1048576 < L.length + 5 * grp x then 3 else 0
def pvRes (L : List Bool) (x : Nat) : List Bool := if pvErr L x = 0 then L ++ varBits x else L
theorem fiveErr (L : List Bool) (x : Nat) (hx : x < 32) (hL : L.length + 5 ≤ 1048576) : Bi.putErr L x 5 = 0 := by
  unfold Bi.putErr
  rw [if_neg (by omega), if_neg (by simp [Nat.div_eq_of_lt (show x < 2 ^ 5 from hx)]), if_neg (by simp; omega)]
theorem fiveRes (L : List Bool) (x : Nat) (hx : x < 32) (hL : L.length + 5 ≤ 1048576) : Bi.putRes L x 5 = L ++ Bi.numBits x 5 := by
  rw [Bi.putRes, if_pos (fiveErr L x hx hL)]; rfl

theorem PutVar_nil (x : Int) (n : Nat) (w : World) (hx : x = (n : Int)) (hn : n < 18446744073709551616) : Calls Try.prog 34 #[.pointer none, .int .u64 x] w fun e w' => e = .returned (.int .i64 10) ∧ w' = w := by
  subst hx
  go_enter Try.func34, Try.ntmps34
  repeat' (first | (go_at_call 48; (with_reducible refine (groups_any n _ hn).mono ?_); rintro e w1 ⟨rfl, rfl⟩; dsimp only) | go_values | go_skip | go_guarded | go_step | go_upon | go_back)
  go_ret
  exact ⟨rfl, rfl⟩

set_option maxHeartbeats 4000000 in
theorem PutVar_any {w : World} {base g : Nat} {v : Value} {L : List Bool} (h : IsW w base g v L) (hb : base ≤ w.heap.size) (hL : L.length ≤ 1048576) (x : Nat) (hx : x < 18446744073709551616) :
    Calls Try.prog 34 #[.pointer (some ⟨g, 0, none⟩), .int .u64 x] w fun e w' => e = .returned (.int .i64 (pvErr L x)) ∧ ∃ v', IsW w' base g v' (pvRes L x) ∧ Wrote base g v v' w w' := by
  obtain ⟨hg1, hg16⟩ := grp_bd x
  obtain ⟨n, hn⟩ : ∃ n, grp x = n := ⟨_, rfl⟩
  have HG := Bx.mk (groups_any x · hx)
  have HV := Bx.mk (show varBits x = varTo x n n by rw [varBits, hn])
  have HE0 := Bx.mk (show pvErr L x = if 1048576 < L.length + 5 * n then 3 else 0 by rw [pvErr, hn])
  rw [hn] at hg1 hg16 HG
  clear hn
  by_cases hlong : 1048576 < L.length + 5 * n
  · have HE := Bx.mk (show pvErr L x = 3 by rw [HE0.out, if_pos hlong])
    have HR := Bx.mk (show pvRes L x = L from if_neg (by rw [HE.out]; decide))
    rw [HE.out, HR.out]
    have hl' : (1048576 : Int) < (L.length : Int) + (n : Int) * 5 := by omega
    have BL := Bx.mk hL
    have hLi : (L.length : Int) ≤ 1048576 := by omega
    clear hlong hL
    go_enter Try.func34, Try.ntmps34
    repeat' (first | (first | (go_at_call 48; (with_reducible refine (HG.out _).mono ?_); rintro e w1 ⟨rfl, rfl⟩; dsimp only) | (go_at_call 20; (with_reducible refine (Len_e h _ rfl).mono ?_); rintro e w1 ⟨rfl, rfl⟩; dsimp only)) | go_values | go_skip | go_guarded | go_step | go_upon | go_back)
    go_ret
    exact ⟨rfl, v, h, Upd.refl _ _, fun _ q => .inl q⟩
  · have HE := Bx.mk (show pvErr L x = 0 by rw [HE0.out, if_neg hlong])
    have HR := Bx.mk (show pvRes L x = L ++ varTo x n n by rw [pvRes, if_pos HE.out, HV.out])
    rw [HE.out, HR.out]
    have hl' : (L.length : Int) + (n : Int) * 5 ≤ 1048576 := by omega
    have BLn := Bx.mk (show L.length + 5 * n ≤ 1048576 by omega)
    have hLi : (L.length : Int) ≤ 1048576 := by omega
    clear hlong hL HE0 HV
    go_enter Try.func34, Try.ntmps34
    repeat' (first | (first | (go_at_call 48; (with_reducible refine (HG.out _).mono ?_); rintro e w1 ⟨rfl, rfl⟩; dsimp only) | (go_at_call 20; (with_reducible refine (Len_e h _ rfl).mono ?_); rintro e w1 ⟨rfl, rfl⟩; dsimp only)) | go_values | go_skip | go_guarded | go_step | go_upon | go_back)
    have hn16 : (n : Int) ≤ 16 := by omega
    go_loopw [21] (fun i wr => ∃ (k : Nat) (vr : Value), k ≤ n ∧ i = .int .i64 k ∧ IsW wr base g vr (L ++ varTo x n k) ∧ Wrote base g v vr w1 wr) (fun i _ => n - (intOf i).toNat)
    case atStart => exact ⟨0, v, by omega, rfl, by simpa [varTo] using h, Upd.refl _ _, fun _ q => .inl q⟩
    case round =>
      obtain ⟨k, vr, hk, rfl, hW, hU⟩ := hrel
      by_cases hlt : k < n
      · have hz : x / 2 ^ (4 * k) < 18446744073709551616 := Nat.lt_of_le_of_lt (Nat.div_le_self _ _) hx
        have hA := and15 (x / 2 ^ (4 * k)) hz
        rw [show ((x / 2 ^ (4 * k) : Nat) : Int) = (x : Int) / 2 ^ (4 * k) by rw [Int.natCast_ediv, Int.natCast_pow]; rfl] at hA
        have HX := Bx.mk (show varX x k n = x / 2 ^ (4 * k) % 16 + (if k + 1 < n then 16 else 0) from rfl)
        have hlx := varX_lt x k n
        have HS := Bx.mk (varTo_succ x n k)
        have hlen : (L ++ varTo x n k).length = L.length + 5 * k := by rw [List.length_append, varTo_length]
        have HE5 := Bx.mk (fiveErr (L ++ varTo x n k) (varX x k n) hlx (by have := BLn.out; omega))
        have HR5 := Bx.mk (fiveRes (L ++ varTo x n k) (varX x k n) hlx (by have := BLn.out; omega))
        have HL5 := Bx.mk (show (L ++ varTo x n k).length ≤ 1048576 by have := BLn.out; omega)
        have hy16 : x / 2 ^ (4 * k) % 16 < 16 := by omega
        generalize x / 2 ^ (4 * k) % 16 = y at *
        have hO := or16 y hy16
        clear hz hlen
        have hbw : base ≤ wr.heap.size := Nat.le_trans hb hU.upd.size
        have HBw := Bx.mk hbw
        clear hbw
        by_cases hkn : k + 1 < n
        · have HY := Bx.mk (show (y : Int) + 16 = ((varX x k n : Nat) : Int) by rw [HX.out, if_pos hkn]; omega)
          have hk1 : (k : Int) < (n : Int) - 1 := by omega
          repeat' (first | (go_at_call 40; (with_reducible refine (Put_e hW HBw.out HL5.out (varX x k n) (by omega) _ 5 HY.out (by decide) (by decide) 0 HE5.out _ HR5.out).mono ?_); rintro e w3 ⟨rfl, v3, hW3, hU3⟩; dsimp only) | go_values | go_skip | go_guarded | go_step | go_upon | go_back)
          go_roundw
          case rel => exact ⟨k + 1, v3, by omega, by go_num, by rw [HS.out, ← List.append_assoc]; exact hW3, hU.trans hU3⟩
          case measure => simp [intOf]; omega
        · have HY := Bx.mk (show (y : Int) = ((varX x k n : Nat) : Int) by rw [HX.out, if_neg hkn]; omega)
          have hk1 : ¬ (k : Int) < (n : Int) - 1 := by omega
          repeat' (first | (go_at_call 40; (with_reducible refine (Put_e hW HBw.out HL5.out (varX x k n) (by omega) _ 5 HY.out (by decide) (by decide) 0 HE5.out _ HR5.out).mono ?_); rintro e w3 ⟨rfl, v3, hW3, hU3⟩; dsimp only) | go_values | go_skip | go_guarded | go_step | go_upon | go_back)
          go_roundw
          case rel => exact ⟨k + 1, v3, by omega, by go_num, by rw [HS.out, ← List.append_assoc]; exact hW3, hU.trans hU3⟩
          case measure => simp [intOf]; omega
      · obtain rfl : k = n := by omega
        repeat' (first | fail | go_values | go_skip | go_guarded | go_step | go_upon | go_back)
        go_ret
        exact ⟨rfl, vr, hW, hU⟩

/-- signs -/
def zig (n : Int) : Int := if n < 0 then -2 * n - 1 else 2 * n
theorem xor_ones (x : Nat) (hx : x < 18446744073709551616) : bits .xor .u64 (x : Int) 18446744073709551615 = ((18446744073709551615 - x : Nat) : Int) := by
  rw [show (18446744073709551615 : Int) = ((18446744073709551615 : Nat) : Int) from rfl, u64_xor_nat _ _ hx (by decide)]
  congr 1
  have h1 : BitVec.ofNat 64 x ^^^ BitVec.allOnes 64 = ~~~ BitVec.ofNat 64 x := BitVec.xor_allOnes
  have h2 := congrArg BitVec.toNat h1
  rw [BitVec.toNat_xor, BitVec.toNat_not, BitVec.toNat_ofNat, BitVec.toNat_allOnes, Nat.mod_eq_of_lt (show x < 2 ^ 64 from hx)] at h2
  exact h2
theorem xor_none (x : Nat) (hx : x < 18446744073709551616) : bits .xor .u64 (x : Int) 0 = (x : Int) := by
  rw [show (0 : Int) = ((0 : Nat) : Int) from rfl, u64_xor_nat _ _ hx (by decide), Nat.xor_zero]
theorem zig_eq (n : Int) (h1 : -9223372036854775808 ≤ n) (h2 : n ≤ 9223372036854775807) : bits .xor .u64 (IntKind.u64.wrap (wrap64 (n * 2))) (IntKind.u64.wrap (n / 9223372036854775808)) = zig n := by
  by_cases h : n < 0
  · obtain ⟨x, hx⟩ : ∃ x : Nat, n * 2 + 18446744073709551616 = x := ⟨(n * 2 + 18446744073709551616).toNat, by omega⟩
    have e1 : IntKind.u64.wrap (wrap64 (n * 2)) = (x : Int) := by rw [IntKind.wrap_u64]; unfold wrap64; omega
    have e2 : IntKind.u64.wrap (n / 9223372036854775808) = 18446744073709551615 := by rw [IntKind.wrap_u64]; omega
    rw [e1, e2, xor_ones x (by omega), zig, if_pos h]
    omega
  · obtain ⟨x, hx⟩ : ∃ x : Nat, n * 2 = x := ⟨(n * 2).toNat, by omega⟩
    have e1 : IntKind.u64.wrap (wrap64 (n * 2)) = (x : Int) := by rw [IntKind.wrap_u64]; unfold wrap64; omega
    have e2 : IntKind.u64.wrap (n / 9223372036854775808) = 0 := by rw [IntKind.wrap_u64]; omega
    rw [e1, e2, xor_none x (by omega), zig, if_neg h]
    omega
theorem Zig_any (n : Int) (w : World) (h1 : -9223372036854775808 ≤ n) (h2 : n ≤ 9223372036854775807) :
    Calls Try.prog 13 #[.int .i64 n] w fun e w' => e = .returned (.int .u64 (zig n)) ∧ w' = w := by
  have HE := Bx.mk (zig_eq n h1 h2)
  clear h1 h2
  go_enter Try.func13, Try.ntmps13
  repeat' (first | fail | go_values | go_skip | go_guarded | go_step | go_upon | go_back)
  go_ret
  exact ⟨congrArg (fun z => Ending.returned (Value.int .u64 z)) HE.out, rfl⟩

def n30 : List (BitVec 8) := [48, 0]
theorem n30_new (w : World) : Rd (w.alloc (.cells #[.int .u8 48, .int .u8 0] 5)) (some ⟨w.heap.size, 0, none⟩) (u8s n30) := rd_new w (u8s n30) _
theorem PutVar_e {w : World} {base g : Nat} {v : Value} {L : List Bool} (h : IsW w base g v L) (hb : base ≤ w.heap.size) (hL : L.length ≤ 1048576) (x : Nat) (X : Int) (hX : X = (x : Int)) (hx : x < 18446744073709551616) (E : Int) (hE : pvErr L x = E) (M : List Bool) (hM : pvRes L x = M) :
    Calls Try.prog 34 #[.pointer (some ⟨g, 0, none⟩), .int .u64 X] w fun e w' => e = .returned (.int .i64 E) ∧ ∃ v', IsW w' base g v' M ∧ Wrote base g v v' w w' := by
  subst hX; subst hE; subst hM; exact PutVar_any h hb hL x hx
theorem Zig_e (n N : Int) (hn : N = n) (w : World) (h1 : -9223372036854775808 ≤ n) (h2 : n ≤ 9223372036854775807) (E : Int) (hE : zig n = E) :
    Calls Try.prog 13 #[.int .i64 N] w fun e w' => e = .returned (.int .u64 E) ∧ w' = w := by subst hE; subst hn; exact Zig_any _ w h1 h2
theorem Width_e (lo hi : Int) (w : World) (h1 : -9223372036854775808 ≤ lo) (h2 : lo ≤ 9223372036854775807) (h3 : -9223372036854775808 ≤ hi) (h4 : hi ≤ 9223372036854775807) (E : Int) (hE : (wid lo hi : Int) = E) :
    Calls Try.prog 12 #[.int .i64 lo, .int .i64 hi] w fun e w' => e = .returned (.int .i64 E) ∧ w' = w := by subst hE; exact Width_any lo hi w h1 h2 h3 h4

def v16 : List Bool := [false, false, false, false, true, true, false, false, false, false]
set_option maxHeartbeats 1000000 in
theorem awake_any (w : World) : Calls Try.prog 11 #[] w fun e w' => e = .returned (.bool true) ∧ New w w' := by
  have T1 := Bx.mk (show pvErr [] 16 = 0 by decide)
  have T2 := Bx.mk (show pvRes [] 16 = v16 by decide)
  have T3 := Bx.mk (show Bi.pack v16 = n30 by decide)
  have T4 := Bx.mk (show zig (-1) = 1 by decide)
  have T5 := Bx.mk (show (wid 0 1000 : Int) = 10 by decide +kernel)
  go_enter Try.func11, Try.ntmps11
  repeat' (first | (first
    | (go_at_call 21; (with_reducible refine (Same_e _ _ 2 2 _ _ n30 n30 _ rfl rfl (hr4.new ((Upd.refl _ _).alloc _)) (n30_new _) true (decide_eq_true rfl)).mono ?_); rintro e w5 ⟨rfl, rfl⟩; dsimp only)
    | (go_at_call 22; (with_reducible refine (Bytes_e hW1 (by decide) 2 (by decide) n30 T3.out).mono ?_); rintro e w4 ⟨v4, rfl, ho4, hu4⟩; (obtain ⟨A4, c4, rfl, _, _, hr4, _⟩ := own_rd ho4); dsimp only)
    | (go_at_call 20; (with_reducible refine (Len_e hW1 10 (by decide)).mono ?_); rintro e w4 ⟨rfl, rfl⟩; dsimp only)
    | (go_at_call 34; (with_reducible refine (PutVar_e (hW0 0) (Nat.zero_le _) (by decide) 16 16 (by decide) (by decide) 0 T1.out v16 T2.out).mono ?_); rintro e w1 ⟨rfl, v1, hW1, hU1⟩; dsimp only)
    | (go_at_call 13; (with_reducible refine (Zig_e (-1) _ (by decide) _ (by decide) (by decide) 1 T4.out).mono ?_); rintro e w6 ⟨rfl, rfl⟩; dsimp only)
    | (go_at_call 12; (with_reducible refine (Width_e 0 1000 _ (by decide) (by decide) (by decide) (by decide) 10 T5.out).mono ?_); rintro e w7 ⟨rfl, rfl⟩; dsimp only)
    | (go_at_call 38; (with_reducible refine (New_any _).mono ?_); rintro e w0 ⟨rfl, hu0, hW0, hsz0⟩; dsimp only)) | go_values | go_skip | go_guarded | go_step | go_upon | go_back)

  go_ret
  obtain ⟨n1, b1⟩ := hU1.fresh hu0 (Nat.le_refl _) (fun b hb => by cases hb)
  exact ⟨rfl, (n1.trans hu4).alloc _⟩
end Go.Proofs.Ytdcebkilekdllaa
