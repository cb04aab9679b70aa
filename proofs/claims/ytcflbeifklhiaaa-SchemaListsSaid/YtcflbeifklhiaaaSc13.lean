/- The reference's Mask, and Same. -/
import Derived.Test.YtcflbeifklhiaaaSc12
import Derived.Test.YtcflbeifklhiaaaBiPure
namespace Go.Proofs.Ytcflbeifklhiaaa
open Go.RowKit

theorem comp_eq (w : World) (k a b c : Int) : (binOp .neq 24 (.agg #[.int .u8 k, .int .i32 a, .int .i32 b, .int .i32 c]) (.agg #[.int .u8 k, .int .i32 a, .int .i32 b, .int .i32 c])).run Try.prog w = .ok (.bool false) w := by
  have h := run_equalIn_array (P := Try.prog) w 9997 22 21 .i32 3 Try.underlying22 Try.underlying21 (z := some (.int .i32 0)) (bytes := 4) (by kernel_rfl) [a, b, c] [a, b, c] rfl rfl
  rw [run_neq_struct]
  rw [show (10000 : Nat) = 9999 + 1 from rfl, run_equalIn_struct w 9999 24 _ _ (by kernel_rfl) (by kernel_rfl)]
  have hu : Try.prog.underlying 24 = some (.struct (Try.prog.fieldsOf 24)) := by kernel_rfl
  simp [Program.fieldsOf, Try.underlying24, Op.eqFields, part, isAgg, run_underlying Try.underlying22, run_underlying Try.underlying5, go_sem]
  have h2 : (Op.equalIn 9999 22 (.agg #[.int .i32 a, .int .i32 b, .int .i32 c]) (.agg #[.int .i32 a, .int .i32 b, .int .i32 c])).run Try.prog w = .ok true w := by simpa using h
  rw [h2]
  rfl

theorem mk_bitG' (i : Nat) (hi : i < 8) : ∀ (L : List C4) (m : BitVec 8), (L.foldl (fun m q => if q.k < 6 then m ||| BitVec.twoPow 8 q.k else m) m).getLsbD i = (m.getLsbD i || (decide (i < 6) && has L i)) := by
  intro L
  induction L with
  | nil => intro m; simp [has]
  | cons q L ih =>
    intro m
    rw [List.foldl_cons, ih]
    by_cases h6 : q.k < 6
    · rw [if_pos h6]
      simp only [BitVec.getLsbD_or, BitVec.getLsbD_twoPow, has, List.any_cons, Bool.or_assoc]
      congr 1
      rw [Bool.eq_iff_iff]
      simp
      by_cases hq : q.k = i
      · subst hq; simp [h6, hi]
      · simp [hq]
    · rw [if_neg h6]
      congr 1
      simp only [has, List.any_cons]
      by_cases hi6 : i < 6
      · have : (q.k == i) = false := by simp; omega
        simp [this]
      · simp [hi6]
theorem mk_bitG (L : List C4) (i : Nat) (hi : i < 8) : (mk L).getLsbD i = (decide (i < 6) && has L i) := by
  rw [mk, mk_bitG' i hi L 0#8]; simp
/-- the bits so far -/
def soFar (L : List C4) (k : Nat) (j : Nat) (y : BitVec 8) : Prop := ∀ i, i < 8 → y.getLsbD i = ((decide (i < k) && has L i) || (decide (i = k) && has (L.take j) k))
theorem soFar_zero (L : List C4) : soFar L 0 0 0#8 := by intro i hi; simp [has]
theorem soFar_next {L : List C4} {k : Nat} {y : BitVec 8} (h : soFar L k L.length y) : soFar L (k + 1) 0 y := by
  intro i hi
  rw [h i hi, List.take_length]
  by_cases h1 : i < k
  · simp [h1, has, show i < k + 1 by omega, show ¬ i = k by omega, show ¬ i = k + 1 by omega]
  · by_cases h2 : i = k
    · subst h2; simp [has, show ¬ i = i + 1 by omega]
    · simp [h1, h2, has, show ¬ i < k + 1 by omega]
theorem soFar_same {L : List C4} {k j : Nat} {y : BitVec 8} (h : soFar L k j y) (hj : j < L.length) (hn : (L[j].k == k && !(y.getLsbD k)) = false) (hk : k < 8) : soFar L k (j + 1) y := by
  intro i hi
  rw [h i hi, has_take L k j hj]
  by_cases hik : i = k
  · subst hik
    have hy := h i hi
    simp at hy
    rw [hy] at hn
    simp
    cases h1 : has (L.take j) i
    · rw [h1] at hn; simp at hn; simp [hn]
    · simp
  · simp [hik]
theorem soFar_set {L : List C4} {k j : Nat} {y : BitVec 8} (h : soFar L k j y) (hj : j < L.length) (hq : L[j].k = k) (hk : k < 8) : soFar L k (j + 1) (y ||| BitVec.twoPow 8 k) := by
  intro i hi
  rw [BitVec.getLsbD_or, BitVec.getLsbD_twoPow, h i hi, has_take L k j hj]
  by_cases hik : i = k
  · subst hik; simp [hq, hk]
  · simp [hik, show ¬ k = i by omega]
theorem soFar_end {L : List C4} {y : BitVec 8} (h : soFar L 6 0 y) : y = mk L := by
  apply BitVec.eq_of_getLsbD_eq
  intro i hi
  rw [h i hi, mk_bitG L i hi]
  simp [has]
theorem bit_mod (y : BitVec 8) (k : Nat) : ((y.toNat : Int) / 2 ^ k) % 2 = ((y.getLsbD k).toNat : Int) := by
  have e : ((y.toNat : Int) / 2 ^ k) = ((y.toNat / 2 ^ k : Nat) : Int) := by rw [Int.natCast_ediv, Int.natCast_pow]; rfl
  rw [e, BitVec.getLsbD, Nat.testBit, Nat.shiftRight_eq_div_pow, Nat.one_and_eq_mod_two]
  rcases Nat.mod_two_eq_zero_or_one (y.toNat / 2 ^ k) with h | h <;> simp [h] <;> omega

theorem bit_tmod (y : BitVec 8) (k : Nat) : ((y.toNat : Int) / 2 ^ k).tmod 2 = ((y.getLsbD k).toNat : Int) := by
  rw [Int.tmod_eq_emod_of_nonneg (Int.ediv_nonneg (by omega) (Int.pow_nonneg (by omega))), bit_mod]
set_option maxHeartbeats 4000000 in
theorem refMask_any (A : Option Addr) (n c : Nat) (L : List C4) (w : World) (hl : L.length = n) (hn : n ≤ 1000) (hx : Rd w A (ccells L)) :
    Calls Try.prog 21 #[.slice A n c] w fun e w' => e = .returned (.int .u8 (mk L).toNat) ∧ New w w' := by
  have HL := Bx.mk hl
  clear hl
  go_enter Try.func21, Try.ntmps21
  repeat' (first | fail | go_values | go_skip | go_guarded | go_step | go_upon | go_back)
  go_loopw [3, 7] (fun m i wr => ∃ (k : Nat) (y : BitVec 8), k ≤ 6 ∧ i = .int .u8 k ∧ m = .int .u8 y.toNat ∧ Bx (soFar L k 0 y) ∧ New w wr) (fun _ i _ => 6 - (intOf i).toNat)
  case atStart => exact ⟨0, 0#8, by omega, rfl, rfl, ⟨soFar_zero L⟩, Upd.refl _ _⟩
  case round =>
    obtain ⟨k, y0, hk, rfl, rfl, HY0, hN0⟩ := hrel
    by_cases hlt0 : k < 6
    · repeat' (first | fail | go_values | go_skip | go_guarded | go_step | go_upon | go_back)
      obtain ⟨wo, rfl⟩ : ∃ wo : World, wo = wr := ⟨_, rfl⟩
      go_loopw [3, 12] (fun m i wr => ∃ (j : Nat) (y : BitVec 8), j ≤ n ∧ i = .int .i64 j ∧ m = .int .u8 y.toNat ∧ Bx (soFar L k j y) ∧ New w wr) (fun _ i _ => n - (intOf i).toNat)
      case atStart => exact ⟨0, y0, by omega, rfl, rfl, HY0, hN0⟩
      case round =>
        obtain ⟨j, y, hj, rfl, rfl, HY, hN⟩ := hrel
        by_cases hlt : j < n
        · have hjL : j < L.length := by rw [HL.out]; exact hlt
          obtain ⟨b0, off, rfl, h0, h1, h2, h3⟩ := (hx.new hN).four j hjL
          have HS := Bx.mk (fun h => soFar_same HY.out hjL h (by omega))
          have HT := Bx.mk (fun h => soFar_set HY.out hjL h (by omega))
          have hbm := bit_tmod y k
          have HO := Bx.mk (fun h => Bi.or_add y k (by omega) h)
          generalize y.getLsbD k = bit at *
          generalize L[j] = q at *
          obtain ⟨k1, a, b, c'⟩ := q
          simp only at h0 h1 h2 h3 HS HT
          obtain ⟨n0, n1, n2, n3⟩ := c4_new wr k1 a b c'
          have hNa := hN.alloc (.cells #[.int .u8 k1, .int .i32 a, .int .i32 b, .int .i32 c'] 24)
          by_cases hk1 : k1 = k
          · subst hk1
            cases bit with
            | true =>
              have HG := Bx.mk (HS.out (by simp))
              rw [Bool.toNat_true] at hbm
              repeat' (first | fail | go_values | go_skip | go_guarded | go_step | go_upon | go_back)
              go_roundw
              case rel => exact ⟨j + 1, y, by omega, by go_num, rfl, HG, hNa⟩
              case measure => simp [intOf]; omega
            | false =>
              have HG := Bx.mk (HT.out rfl)
              rw [Bool.toNat_false] at hbm
              have ho := HO.out rfl
              have HX := Bx.mk (show (y.toNat : Int) + 2 ^ k1 % 256 = ((y ||| BitVec.twoPow 8 k1).toNat : Int) by
                rw [← ho, pow_bv k1 (by omega), BitVec.toNat_twoPow, Nat.mod_eq_of_lt (Nat.pow_lt_pow_right (by omega) (show k1 < 8 by omega))]; omega)
              have hbd : (y.toNat : Int) + 2 ^ k1 % 256 ≤ 255 := by rw [HX.out]; have := (y ||| BitVec.twoPow 8 k1).isLt; omega
              have hbd0 : 0 ≤ (2 : Int) ^ k1 % 256 := by omega
              clear ho
              repeat' (first | fail | go_values | go_skip | go_guarded | go_step | go_upon | go_back)
              go_roundw
              case rel => exact ⟨j + 1, y ||| BitVec.twoPow 8 k1, by omega, by go_num, by rw [HX.out], HG, hNa⟩
              case measure => simp [intOf]; omega
          · have HG := Bx.mk (HS.out (by simp [hk1]))
            have hk1i : ¬ (k1 : Int) = (k : Int) := by omega
            have hbq : ((k1 : Int) == (k : Int)) = false := by simp; omega
            clear hbm
            repeat' (first | fail | go_values | go_skip | go_guarded | go_step | go_upon | go_back)
            go_roundw
            case rel => exact ⟨j + 1, y, by omega, by go_num, rfl, HG, hNa⟩
            case measure => simp [intOf]; omega
        · obtain rfl : j = n := by omega
          have HG := Bx.mk (show soFar L (k + 1) 0 y from soFar_next (by have := HY.out; rwa [← HL.out] at this))
          repeat' (first | fail | go_values | go_skip | go_guarded | go_step | go_upon | go_back)
          go_roundw
          case rel => exact ⟨k + 1, y, by omega, by go_num, rfl, HG, hN⟩
          case measure => simp [intOf]; omega
    · obtain rfl : k = 6 := by omega
      have HE := Bx.mk (soFar_end HY0.out)
      repeat' (first | fail | go_values | go_skip | go_guarded | go_step | go_upon | go_back)
      go_ret
      exact ⟨by rw [← HE.out]; rfl, hN0⟩

set_option maxHeartbeats 4000000 in
theorem Same_any (A B : Option Addr) (n c d : Nat) (L : List C4) (w : World) (hl : L.length = n) (hn : n ≤ 1000) (hx : Rd w A (ccells L)) (hy : Rd w B (ccells L)) :
    Calls Try.prog 22 #[.slice A n c, .slice B n d] w fun e w' => e = .returned (.bool true) ∧ New w w' := by
  have HL := Bx.mk hl
  clear hl
  go_enter Try.func22, Try.ntmps22
  repeat' (first | fail | go_values | go_skip | go_guarded | go_step | go_upon | go_back)
  go_loopw [13] (fun i wr => ∃ (j : Nat), j ≤ n ∧ i = .int .i64 j ∧ New w wr) (fun i _ => n - (intOf i).toNat)
  case atStart => exact ⟨0, by omega, rfl, Upd.refl _ _⟩
  case round =>
    obtain ⟨j, hj, rfl, hN⟩ := hrel
    by_cases hlt : j < n
    · have hjL : j < L.length := by rw [HL.out]; exact hlt
      obtain ⟨b0, o0, rfl, h0, h1, h2, h3⟩ := (hx.new hN).four j hjL
      obtain ⟨b1, o1, rfl, g0, g1, g2, g3⟩ := (hy.new hN).four j hjL
      have hce := fun w => comp_eq w L[j].k L[j].a L[j].b L[j].c
      generalize L[j].k = k at *
      generalize L[j].a = a at *
      generalize L[j].b = b at *
      generalize L[j].c = c' at *
      have hjn : (j : Int) < (n : Int) := by omega
      repeat' (first | fail | go_values | go_skip | go_guarded | go_step | go_upon | go_back)
      go_quiet (fail)
      repeat' (first | fail | go_values | go_skip | go_guarded | go_step | go_upon | go_back)
      go_roundw
      case rel => exact ⟨j + 1, by omega, by go_num, hN.drewN _⟩
      case measure => simp [intOf]; omega
    · obtain rfl : j = n := by omega
      repeat' (first | fail | go_values | go_skip | go_guarded | go_step | go_upon | go_back)
      go_ret
      exact ⟨rfl, hN⟩
end Go.Proofs.Ytcflbeifklhiaaa
