/- The walks of the reader of bits. -/
import Derived.Test.YtpfdbkfjjjiamaaBi4
namespace Go.Proofs.Ytpfdbkfjjjiamaa
open Go.RowKit

/-- a reader at block g: its bytes P lie in v, so many bits are read -/
structure IsR (w : World) (g : Nat) (v : Value) (P : List (BitVec 8)) (at_ : Nat) : Prop where
  obj : w.heap[g]? = some (.cells #[v, .int .i64 at_] 73 (0, 0))
  row : w.ownsRow 0 5 1 v P.length (u8s P)
section
variable {w w' : World} {g a : Nat} {v : Value} {P : List (BitVec 8)}
theorem IsR.c0 (h : IsR w g v P a) : w.cell? ⟨g, 0, none⟩ = some v := by rw [World.cell?, h.obj]; rfl
theorem IsR.c1 (h : IsR w g v P a) : w.cell? ⟨g, 1, none⟩ = some (.int .i64 a) := by rw [World.cell?, h.obj]; rfl
theorem IsR.fz (h : IsR w g v P a) (o : Nat) : w.frozen? ⟨g, o, none⟩ = false := by simp [World.frozen?, h.obj]
theorem IsR.apart (h : IsR w g v P a) : ¬ v.ownBlock = some g := by
  intro hb
  obtain ⟨hl, ⟨rfl, _⟩ | ⟨g', cap, cur, rfl, hg, hh, r⟩⟩ := h.row
  · cases hb
  · simp only [Value.ownBlock, Option.some.injEq] at hb
    subst hb
    rw [h.obj] at hh
    injection hh with hh
    injection hh with _ hh
    exact absurd hh (by decide)
theorem IsR.upd {S : Nat → Prop} (h : IsR w g v P a) (k : Upd S w w') (h1 : ¬ S g) (h2 : ∀ b, v.ownBlock = some b → ¬ S b) : IsR w' g v P a :=
  ⟨k.blk h.obj h1, own_upd h.row k h2⟩
theorem IsR.new (h : IsR w g v P a) (k : New w w') : IsR w' g v P a := h.upd k (fun q => q) (fun _ _ q => q)
theorem IsR.setN (h : IsR w g v P a) (M : Nat) : IsR (w.setCell ⟨g, 1, none⟩ (.int .i64 M)) g v P M :=
  ⟨heap_setCell_same w g 1 _ _ _ h.obj, own_upd h.row (Upd.set1 w _ _) (fun b hb q => h.apart ((show b = g from q) ▸ hb))⟩
end

theorem Read_any (A : Option Addr) (n c : Nat) (P : List (BitVec 8)) (w : World) (hl : P.length = n) (hm : n ≤ 1000000) (hx : Rd w A (u8s P)) :
    Calls Try.prog 14 #[.slice A n c] w fun e w' => ∃ g v, e = .returned (.pointer (some ⟨g, 0, none⟩)) ∧ IsR w' g v P 0 ∧ New w w' ∧ w.heap.size ≤ g ∧ ∀ b, v.ownBlock = some b → w.heap.size ≤ b := by
  go_enter Try.func14, Try.ntmps14
  go_wp2_with (go_at_call 38; (with_reducible refine (Clone_n A n c P _ hl (by omega) hx).mono ?_); rintro e w1 ⟨v1, rfl, ho1, hu1⟩; obtain ⟨A1, c1, rfl, _⟩ := own_rd ho1; dsimp only)
  go_ret
  exact ⟨_, _, rfl, ⟨heap_alloc_new _ _, by subst hl; exact (own_lower ho1 (Nat.zero_le _)).alloc _⟩, hu1.alloc _, hu1.size, fun b hb => own_ge ho1 b hb⟩

theorem Left_nil (w : World) : Calls Try.prog 19 #[.pointer none] w fun e w' => e = .returned (.int .i64 0) ∧ w = w' := by
  go_enter Try.func19, Try.ntmps19
  go_wp2
  go_ret
  exact ⟨rfl, rfl⟩
theorem Left_any {w : World} {g a : Nat} {v : Value} {P : List (BitVec 8)} (h : IsR w g v P a) (n lf : Nat) (hn : P.length = n) (hlf : 8 * n = lf + a) (hm : n ≤ 1000000) :
    Calls Try.prog 19 #[.pointer (some ⟨g, 0, none⟩)] w fun e w' => e = .returned (.int .i64 lf) ∧ New w w' := by
  have c0 := h.c0
  have c1 := h.c1
  obtain ⟨A, c, rfl, _⟩ := own_rd h.row
  rw [hn] at c0
  have e1 : (8 : Int) * (n : Int) - (a : Int) = (lf : Int) := by omega
  clear h
  go_enter Try.func19, Try.ntmps19
  go_wp2
  go_quiet (fail)
  go_wp2
  go_ret
  exact ⟨rfl, (Upd.refl _ _).drewN _⟩

theorem and_bit8 (y : BitVec 8) (r : Nat) : bits .and .u8 ((y.toNat : Int) / 2 ^ r) 1 = ((y.getLsbD r).toNat : Int) := by
  have e : ((y.toNat : Int) / 2 ^ r) = ((y.toNat / 2 ^ r : Nat) : Int) := by rw [Int.natCast_ediv, Int.natCast_pow]; rfl
  rw [e, show (1 : Int) = ((1 : Nat) : Int) from rfl, u8_and_nat _ _ (Nat.lt_of_le_of_lt (Nat.div_le_self _ _) y.isLt) (by decide), Nat.and_one_is_mod, BitVec.getLsbD, Nat.testBit, Nat.shiftRight_eq_div_pow, Nat.one_and_eq_mod_two]
  rcases Nat.mod_two_eq_zero_or_one (y.toNat / 2 ^ r) with h | h <;> simp [h]
theorem or64 (V k : Nat) (b : Bool) (hV : V < 2 ^ k) (hk : k < 64) : bits .or .u64 (V : Int) ((b.toNat : Int) * 2 ^ k % 18446744073709551616) = ((V + b.toNat * 2 ^ k : Nat) : Int) := by
  have hp : 2 ^ k < 18446744073709551616 := Nat.lt_of_lt_of_eq (Nat.pow_lt_pow_right (by omega) hk) (by decide)
  have hb : b.toNat * 2 ^ k < 18446744073709551616 := by cases b <;> simp <;> omega
  have e : ((b.toNat : Int) * 2 ^ k % 18446744073709551616) = ((b.toNat * 2 ^ k : Nat) : Int) := by
    have : ((b.toNat : Int) * 2 ^ k) = ((b.toNat * 2 ^ k : Nat) : Int) := by rw [Int.natCast_mul, Int.natCast_pow]; rfl
    rw [this]; omega
  rw [e, u64_or_nat _ _ (by omega) hb]
  congr 1
  have := Nat.two_pow_add_eq_or_of_lt hV b.toNat
  rw [Nat.mul_comm] at this
  rw [Nat.add_comm, this, Nat.or_comm]

set_option maxHeartbeats 1000000 in
theorem Get_any {w : World} {g a : Nat} {v : Value} {P : List (BitVec 8)} (h : IsR w g v P a) (R : List Bool) (n : Int) (hR : (Bi.bitsOf P).drop a = R) (ha : a ≤ 8 * P.length) (hm : P.length ≤ 1000000) (hn1 : -9223372036854775808 ≤ n) (hn2 : n ≤ 9223372036854775807) :
    Calls Try.prog 16 #[.pointer (some ⟨g, 0, none⟩), .int .i64 n] w fun e w' => e = .returned (.tuple #[.int .u64 (Bi.getVal R n), .int .i64 (Bi.getErr R n)]) ∧
      ∃ a', IsR w' g v P a' ∧ (Bi.bitsOf P).drop a' = Bi.getRest R n ∧ a' ≤ 8 * P.length ∧ Upd (fun b => b = g) w w' := by
  have hlR : R.length + a = 8 * P.length := by rw [← hR, List.length_drop, Bi.bitsOf_length]; omega
  by_cases hn : n < 0 ∨ n > 64
  · have HE := Bx.mk (show Bi.getErr R n = 1 from if_pos hn)
    have HV := Bx.mk (show Bi.getVal R n = 0 from if_neg (by rw [HE.out]; decide))
    have HR := Bx.mk (show Bi.getRest R n = R from if_neg (by rw [HE.out]; decide))
    rw [HE.out, HR.out, HV.out]
    by_cases hn0 : n < 0
    · clear hn
      go_enter Try.func16, Try.ntmps16
      go_wp2
      go_returns
      exact ⟨rfl, a, h, hR, ha, Upd.refl _ _⟩
    · have hn64 : 64 < n := by omega
      clear hn
      go_enter Try.func16, Try.ntmps16
      go_wp2
      go_returns
      exact ⟨rfl, a, h, hR, ha, Upd.refl _ _⟩
  obtain ⟨m, rfl⟩ := Int.eq_ofNat_of_zero_le (show 0 ≤ n by omega)
  have hm64 : m ≤ 64 := by omega
  by_cases hs : R.length < m
  · have HE := Bx.mk (show Bi.getErr R m = 2 by rw [Bi.getErr, if_neg hn, if_pos (by omega)])
    have HV := Bx.mk (show Bi.getVal R m = 0 from if_neg (by rw [HE.out]; decide))
    have HR := Bx.mk (show Bi.getRest R m = R from if_neg (by rw [HE.out]; decide))
    rw [HE.out, HR.out, HV.out]
    clear hn
    go_enter Try.func16, Try.ntmps16
    go_wp2_with (go_at_call 19; (with_reducible refine (Left_any h P.length R.length rfl (by omega) hm).mono ?_); rintro e w1 ⟨rfl, hu1⟩; dsimp only)
    go_returns
    exact ⟨rfl, a, h.new hu1, hR, ha, hu1.upd⟩
  have HE := Bx.mk (show Bi.getErr R m = 0 by rw [Bi.getErr, if_neg hn, if_neg (by omega)])
  have HV := Bx.mk (show Bi.getVal R m = Bi.numOf (R.take m) from if_pos HE.out)
  have HR := Bx.mk (show Bi.getRest R m = R.drop m from if_pos HE.out)
  rw [HE.out, HR.out, HV.out]
  clear hn
  go_enter Try.func16, Try.ntmps16
  go_wp2_with (go_at_call 19; (with_reducible refine (Left_any h P.length R.length rfl (by omega) hm).mono ?_); rintro e w1 ⟨rfl, hu1⟩; have h1 := h.new hu1; dsimp only)
  go_loopw [6, 7, 24] (fun y _ i wr => ∃ k : Nat, k ≤ m ∧ i = .int .i64 k ∧ y = .int .u64 (Bi.numOf (R.take k) : Nat) ∧ IsR wr g v P (a + k) ∧ Upd (fun b => b = g) w wr) (fun _ _ i _ => m - (intOf i).toNat)
  case atStart => exact ⟨0, by omega, rfl, by simp [Bi.numOf], h1, hu1.upd⟩
  case round =>
    obtain ⟨k, hk, rfl, rfl, hI, hU⟩ := hrel
    by_cases hlt : k < m
    · have c0 := hI.c0
      have c1 := hI.c1
      have hfz := hI.fz 1
      have hq : (a + k) / 8 < P.length := by omega
      obtain ⟨gr, c, rfl, hg, hcell, _, _⟩ := own_u8 hI.row ((a + k) / 8) hq
      have HB := Bx.mk (show (P.getD ((a + k) / 8) 0#8).getLsbD ((a + k) % 8) = R.getD k false by
        rw [← Bi.bitsOf_getD, ← hR, List.getD_eq_getElem?_getD, List.getD_eq_getElem?_getD, List.getElem?_drop])
      have HS := Bx.mk (show Bi.numOf (R.take (k + 1)) = Bi.numOf (R.take k) + (R.getD k false).toNat * 2 ^ k by
        rw [take_snoc_bool _ _ (by omega), Bi.numOf_snoc, List.length_take, Nat.min_eq_left (by omega)])
      have hV : Bi.numOf (R.take k) < 2 ^ k := by
        have := Bi.numOf_lt (R.take k)
        rwa [List.length_take, Nat.min_eq_left (by omega)] at this
      have hr8 : (a + k) % 8 < 8 := by omega
      have hN0 : a + k ≤ 8000000 := by omega
      generalize hN : a + k = N at *
      have hq' : ((N / 8 : Nat) : Int) < (P.length : Int) := by omega
      have e1 : IntKind.i64.wrap ((N : Int) / 8) = ((N / 8 : Nat) : Int) := by rw [IntKind.wrap_i64]; omega
      have e2 : (N : Int) % 8 = ((N % 8 : Nat) : Int) := by omega
      have e3 : (N : Int).tmod 8 = ((N % 8 : Nat) : Int) := by rw [Int.tmod_eq_emod_of_nonneg (by omega)]; omega
      generalize N / 8 = q at *
      generalize N % 8 = r at *
      generalize P.getD q 0#8 = y at *
      have HA := and_bit8 y r
      rw [HB.out] at HA
      generalize R.getD k false = bit at *
      generalize Bi.numOf (R.take k) = V at *
      have HO := Bx.mk (show bits .or .u64 (V : Int) (IntKind.u64.wrap (IntKind.u64.wrap (bit.toNat : Int) * 2 ^ k)) = ((V + bit.toNat * 2 ^ k : Nat) : Int) by
        rw [IntKind.wrap_u64, IntKind.wrap_u64, show ((bit.toNat : Int) % 18446744073709551616) = bit.toNat by cases bit <;> rfl]; exact or64 V k bit hV (by omega))
      go_wp2
      go_quiet (fail)
      go_wp2
      go_roundw
      case rel => exact ⟨k + 1, by omega, by go_num, by rw [HO.out, HS.out], by rw [← Nat.add_assoc, hN]; exact (hI.new ((Upd.refl _ _).drewN nq)).setN (N + 1), (hU.drewN nq).setCell (p := ⟨g, 1, none⟩) (.inl rfl) _⟩
      case measure => simp [intOf]; omega
    · obtain rfl : k = m := by omega
      go_wp2
      go_returns
      exact ⟨rfl, a + k, hI, by rw [← hR, List.drop_drop], by omega, hU⟩

theorem Get_nil (n : Int) (w : World) : Calls Try.prog 16 #[.pointer none, .int .i64 n] w fun e w' => e = .returned (.tuple #[.int .u64 0, .int .i64 10]) ∧ w = w' := by
  go_enter Try.func16, Try.ntmps16
  go_wp2
  go_returns
  exact ⟨rfl, rfl⟩
theorem End_nil (w : World) : Calls Try.prog 27 #[.pointer none] w fun e w' => e = .returned (.int .i64 10) ∧ w = w' := by
  go_enter Try.func27, Try.ntmps27
  go_wp2
  go_ret
  exact ⟨rfl, rfl⟩
theorem Put_nil (x n : Int) (w : World) : Calls Try.prog 45 #[.pointer none, .int .u64 x, .int .i64 n] w fun e w' => e = .returned (.int .i64 10) ∧ w = w' := by
  go_enter Try.func45, Try.ntmps45
  go_wp2
  go_ret
  exact ⟨rfl, rfl⟩

/-- what is left of the last byte -/
theorem last_bits (P : List (BitVec 8)) (a lf : Nat) (hlf : 8 * P.length = lf + a) (h0 : 0 < lf) (h8 : lf < 8) : ((Bi.bitsOf P).drop a).any id = decide (¬ (P.getD (P.length - 1) 0#8).toNat / 2 ^ (a % 8) = 0) := by
  have hlen : ((Bi.bitsOf P).drop a).length = lf := by rw [List.length_drop, Bi.bitsOf_length]; omega
  have key : ∀ i, ((Bi.bitsOf P).drop a).getD i false = ((P.getD (P.length - 1) 0#8).toNat / 2 ^ (a % 8)).testBit i := by
    intro i
    rw [Nat.testBit_div_two_pow, List.getD_eq_getElem?_getD, List.getElem?_drop, ← List.getD_eq_getElem?_getD, Bi.bitsOf_getD]
    by_cases hi : i < lf
    · rw [show (a + i) / 8 = P.length - 1 by omega, show (a + i) % 8 = i + a % 8 by omega]; rfl
    · have e1 : P.getD ((a + i) / 8) 0#8 = 0#8 := by rw [List.getD_eq_getElem?_getD, List.getElem?_eq_none (by omega)]; rfl
      rw [e1]
      have e2 : (P.getD (P.length - 1) 0#8).toNat < 2 ^ (i + a % 8) := Nat.lt_of_lt_of_le (P.getD (P.length - 1) 0#8).isLt (Nat.pow_le_pow_right (n := 2) (i := 8) (by omega) (by omega))
      rw [Nat.testBit_lt_two_pow e2]; simp
  generalize (P.getD (P.length - 1) 0#8).toNat / 2 ^ (a % 8) = z at *
  generalize (Bi.bitsOf P).drop a = R at *
  rw [Bool.eq_iff_iff, List.any_eq_true, decide_eq_true_eq]
  constructor
  · rintro ⟨b, hb, hbt⟩ hz
    obtain ⟨i, hi, rfl⟩ := List.mem_iff_getElem.1 hb
    have := key i
    rw [hz, Nat.zero_testBit, List.getD_eq_getElem?_getD, List.getElem?_eq_getElem hi] at this
    simp at this hbt
    rw [this] at hbt; cases hbt
  · intro hz
    obtain ⟨i, hi⟩ := Nat.exists_testBit_of_ne_zero hz
    have := key i
    rw [hi, List.getD_eq_getElem?_getD] at this
    rcases Nat.lt_or_ge i R.length with hl | hl
    · rw [List.getElem?_eq_getElem hl] at this
      exact ⟨R[i], List.getElem_mem hl, by simpa using this⟩
    · rw [List.getElem?_eq_none hl] at this; cases this
end Go.Proofs.Ytpfdbkfjjjiamaa
