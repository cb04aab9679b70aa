/- The walks of the frame's functions: what each computes. -/
import Derived.Test.YtbpmjbhmcnjnoaaKit
import Derived.Test.YtbpmjbhmcnjnoaaFrRef
namespace Go.Proofs.Ytbpmjbhmcnjnoaa
open Go.RowKit
open Fr (Byte)

theorem step_even (c : BitVec 32) : (bits .and .u32 (c.toNat : Int) 1 != 0) = c.getLsbD 0 := by
  rw [show (1 : Int) = ((1 : Nat) : Int) from rfl, u32_and_nat _ _ c.isLt (by decide), Nat.and_one_is_mod]
  simp only [BitVec.getLsbD, Nat.testBit_zero]
  rcases Nat.mod_two_eq_zero_or_one c.toNat with h | h <;> simp [h]
theorem half_bv (c : BitVec 32) : ((c.toNat : Int) / 2) = ((c >>> 1).toNat : Int) := by
  rw [BitVec.toNat_ushiftRight, Nat.shiftRight_eq_div_pow]; omega
theorem xor32 (a b : BitVec 32) : bits .xor .u32 (a.toNat : Int) (b.toNat : Int) = ((a ^^^ b).toNat : Int) := by
  rw [u32_xor_nat _ _ a.isLt b.isLt, BitVec.toNat_xor]

set_option maxHeartbeats 400000 in
theorem step_any (c : BitVec 32) (w : World) :
    Calls Try.prog 21 #[.int .u32 c.toNat] w fun e w' => e = .returned (.int .u32 (Fr.step c).toNat) ∧ w = w' := by
  have hc := c.isLt
  have hs := step_even c
  have hh := half_bv c
  have hx := xor32 (c >>> 1) 3988292384#32
  rw [show ((3988292384#32).toNat : Int) = 3988292384 from rfl] at hx
  by_cases h : c.getLsbD 0 = true
  · have e : Fr.step c = (c >>> 1) ^^^ 3988292384#32 := by unfold Fr.step; rw [if_pos h]
    rw [h] at hs; rw [e, ← hx, ← hh]
    clear h hx hh e
    go_enter Try.func21, Try.ntmps21
    go_wp2
    go_ret
    exact ⟨rfl, rfl⟩
  · have e : Fr.step c = c >>> 1 := by unfold Fr.step; rw [if_neg h]
    rw [Bool.not_eq_true] at h; rw [h] at hs; rw [e, ← hh]
    clear h hx hh e
    go_enter Try.func21, Try.ntmps21
    go_wp2
    go_ret
    exact ⟨rfl, rfl⟩

theorem Fr_steps_take (n : Nat) : ∀ c, Fr.steps (n + 1) c = Fr.step (Fr.steps n c) := by
  induction n with
  | zero => intro c; rfl
  | succ n ih => intro c; rw [Fr.steps, ih]; rfl
theorem Fr_bytes_take (c : BitVec 32) (xs : List Byte) (k : Nat) (h : k < xs.length) : Fr.bytes c (xs.take (k + 1)) = Fr.byte (Fr.bytes c (xs.take k)) xs[k] := by
  rw [List.take_succ_eq_append_getElem h, Fr.bytes, List.foldl_append]; rfl

set_option maxHeartbeats 400000 in
theorem Sum_any (A : Option Addr) (c : Nat) (xs : List Byte) (w : World) (hm : xs.length ≤ 140737488351232) (hx : Rd w A (u8s xs)) :
    Calls Try.prog 12 #[.slice A xs.length c] w fun e w' => e = .returned (.int .u32 (Fr.sum xs).toNat) ∧ w = w' := by
  go_enter Try.func12, Try.ntmps12
  go_wp2
  go_loop [3, 8] (fun c i => ∃ k : Nat, k ≤ xs.length ∧ i = .int .i64 k ∧ c = .int .u32 (Fr.bytes 0xffffffff#32 (xs.take k)).toNat) (fun _ i => xs.length - (intOf i).toNat)
  case atStart => exact ⟨0, Nat.zero_le _, rfl, rfl⟩
  case round =>
    obtain ⟨k, hk, rfl, rfl⟩ := hrel
    by_cases hlt : k < xs.length
    · obtain ⟨b, off, rfl, hcell⟩ := hx.at_ k (by simpa [u8s] using hlt)
      simp only [u8s, List.getElem_map] at hcell
      have HB := Bx.mk (Fr_bytes_take 0xffffffff#32 xs k hlt)
      generalize hC : Fr.bytes 4294967295#32 (List.take k xs) = C at HB
      have hw : bits .xor .u32 (C.toNat : Int) (xs[k].toNat : Int) = ((C ^^^ xs[k].setWidth 32).toNat : Int) := by
        rw [← xor32, BitVec.toNat_setWidth, Nat.mod_eq_of_lt (by have := xs[k].isLt; omega)]
      have hb := xs[k].isLt
      have HW := Bx.mk hw
      clear hC hw
      go_wp2
      rw [HW.out]
      generalize hY : C ^^^ BitVec.setWidth 32 xs[k] = Y at *
      have HY := Bx.mk hY
      clear hY HW
      go_loop [3, 16] (fun c i => ∃ j : Nat, j ≤ 8 ∧ i = .int .i64 j ∧ c = .int .u32 (Fr.steps j Y).toNat) (fun _ i => 8 - (intOf i).toNat)
      case atStart => exact ⟨0, Nat.zero_le _, rfl, rfl⟩
      case round =>
        obtain ⟨j, hj, rfl, rfl⟩ := hrel
        have HS := Bx.mk (Fr_steps_take j Y)
        by_cases hj8 : j < 8
        · go_wp2_with (go_at_call 21; refine (step_any _ _).mono ?_; rintro e w' ⟨rfl, rfl⟩)
          go_round
          case rel => exact ⟨j + 1, by omega, by go_num, by rw [HS.out]⟩
          case measure => simp [intOf]; omega
        · obtain rfl : j = 8 := by omega
          go_wp2
          go_round
          case rel => exact ⟨k + 1, by omega, by go_num, by rw [HB.out, Fr.byte, HY.out]⟩
          case measure => simp [intOf]; omega
    · obtain rfl : k = xs.length := by omega
      have hn : bits .xor .u32 IntKind.u32.max ((Fr.bytes 0xffffffff#32 xs).toNat : Int) = ((Fr.sum xs).toNat : Int) := by
        have := xor32 0xffffffff#32 (Fr.bytes 0xffffffff#32 xs)
        rw [show ((0xffffffff#32).toNat : Int) = IntKind.u32.max from rfl] at this
        rw [this, Fr.sum]
        rw [show (0xffffffff#32 : BitVec 32) = BitVec.allOnes 32 from rfl, BitVec.allOnes_xor]
      have HN := Bx.mk hn
      clear hn
      rw [List.take_length]
      go_wp2
      go_ret
      exact ⟨by rw [← HN.out]; rfl, rfl⟩


theorem info8 : (Try.prog.info? 5).map (fun i => (i.zero, i.size, i.bytes)) = some (some (.int .u8 0), 1, 1) := by kernel_rfl
theorem infob : (Try.prog.info? 4).map (fun i => (i.zero, i.size, i.bytes)) = some (some (.bool false), 1, 1) := by kernel_rfl

set_option maxHeartbeats 400000 in
theorem Same_any (A A' : Option Addr) (c c' : Nat) (xs ys : List Byte) (w : World) (hx : Rd w A (u8s xs)) (hy : Rd w A' (u8s ys)) :
    Calls Try.prog 18 #[.slice A xs.length c, .slice A' ys.length c'] w fun e w' => e = .returned (.bool (decide (xs = ys))) ∧ w = w' := by
  have h1 := conv_str (c := c) Try.underlying22 Try.underlying5 Try.underlying9 hx rfl
  have h2 := conv_str (c := c') Try.underlying22 Try.underlying5 Try.underlying9 hy rfl
  clear hx hy
  go_enter Try.func18, Try.ntmps18
  go_wp2
  go_ret
  exact ⟨congrArg (fun b => Ending.returned (.bool b)) (strOf_beq xs ys), rfl⟩
set_option maxHeartbeats 400000 in
theorem Equal_any (A A' : Option Addr) (c c' : Nat) (xs ys : List Byte) (w : World) (hx : Rd w A (u8s xs)) (hy : Rd w A' (u8s ys)) :
    Calls Try.prog 23 #[.slice A xs.length c, .slice A' ys.length c'] w fun e w' => e = .returned (.bool (decide (xs = ys))) ∧ w = w' := by
  have h1 := conv_str (c := c) Try.underlying22 Try.underlying5 Try.underlying9 hx rfl
  have h2 := conv_str (c := c') Try.underlying22 Try.underlying5 Try.underlying9 hy rfl
  clear hx hy
  go_enter Try.func23, Try.ntmps23
  go_wp2
  go_ret
  exact ⟨congrArg (fun b => Ending.returned (.bool b)) (strOf_beq xs ys), rfl⟩
set_option maxHeartbeats 400000 in
theorem Clone_any (A : Option Addr) (c : Nat) (xs : List Byte) (w : World) (hm : xs.length ≤ 140737488351232) (hx : Rd w A (u8s xs)) :
    Calls Try.prog 25 #[.slice A xs.length c] w (RetRow 5 1 xs.length (u8s xs) w) := by
  have hn := Lib.run_eql_slice_nil (P := Try.prog) w 22 5 A xs.length c 0 0 Try.underlying22
  cases A with
  | none =>
    obtain rfl := u8s_nil (rd_none hx rfl)
    replace hn : (binOp BinOp.eql 22 (.slice none 0 c) (.slice none 0 0)).run Try.prog w = .ok (.bool true) w := hn
    go_enter Try.func25, Try.ntmps25
    go_wp2
    go_ret
    exact ⟨_, rfl, World.ownsRow_nil _ _ _ _, .refl _ _⟩
  | some a =>
    have hl0 := own_lit0 w w.heap.size 5 1 (Nat.le_refl _)
    have hs := (hx.new ((Upd.refl _ w).alloc (.cells #[] 5))).src (P := Try.prog) (n := xs.length) (c := c) (size := 1) Try.underlying22 (fun h => by cases h) (by simp [u8s]) (u8s_one xs)
    go_enter Try.func25, Try.ntmps25
    go_wp2_with (at_builtin; refine wpList_appN _ rfl _ _ 22 22 rfl _ 5 (.int .u8 0) 1 1 Try.underlying22 info8 rfl _ _ _ hl0 rfl _ _ _ hs rfl _ ((Upd.refl Nowhere w).alloc _) ?c1 ?c2 ?_; (case c1 => unfold maxLen; omega); (case c2 => omega); intro v' w1 ho hu hk hv)
    go_ret
    simp only [Nat.zero_add, List.nil_append] at ho
    exact ⟨_, rfl, ho, hu⟩
theorem bitsOf_take (xs : List Byte) (k : Nat) (h : k < xs.length) : Fr.bitsOf (xs.take (k + 1)) = Fr.bitsOf (xs.take k) ++ Fr.bits8 xs[k] := by
  rw [List.take_succ_eq_append_getElem h]; unfold Fr.bitsOf; rw [List.flatMap_append]; simp [List.flatMap_cons]
theorem odd_bit (b : Byte) : ((b.toNat : Int) % 2 == 1) = b[0] := by
  rw [← BitVec.getLsbD_eq_getElem]
  simp only [BitVec.getLsbD, Nat.testBit_zero]
  rw [Bool.eq_iff_iff]; simp; omega
theorem half_byte (b : Byte) (j : Nat) : (((b >>> j).toNat : Int) / 2) = ((b >>> (j + 1)).toNat : Int) := by
  rw [BitVec.toNat_ushiftRight, BitVec.toNat_ushiftRight, Nat.shiftRight_succ]; omega
theorem half1 (y : Byte) : (y.toNat : Int) / (2 : Int) = ((y >>> 1).toNat : Int) := by
  rw [BitVec.toNat_ushiftRight, Nat.shiftRight_eq_div_pow]; omega
set_option maxHeartbeats 400000 in
theorem Bits_any (A : Option Addr) (c : Nat) (xs : List Byte) (w : World) (hm : xs.length * 8 ≤ 140737488351232) (hx : Rd w A (u8s xs)) :
    Calls Try.prog 22 #[.slice A xs.length c] w (RetRow 4 1 (8 * xs.length) (bools (Fr.bitsOf xs)) w) := by
  go_enter Try.func22, Try.ntmps22
  go_wp2
  go_loopw [3, 8] (fun l i wr => ∃ k : Nat, k ≤ xs.length ∧ i = .int .i64 k ∧ New w wr ∧ wr.ownsRow w.heap.size 4 1 l (8 * k) (bools (Fr.bitsOf (xs.take k)))) (fun _ i _ => xs.length - (intOf i).toNat)
  case atStart => exact ⟨0, Nat.zero_le _, rfl, .refl _ _, World.ownsRow_nil _ _ _ _⟩
  case round =>
    obtain ⟨k, hk, rfl, hu, ho⟩ := hrel
    by_cases hlt : k < xs.length
    · obtain ⟨b, off, rfl, hcell⟩ := u8s_at (hx.new hu) k hlt
      have HB := Bx.mk (bitsOf_take xs k hlt)
      generalize xs[k] = x at hcell HB
      go_wp2
      obtain ⟨wo, rfl⟩ : ∃ wo : World, wo = wr := ⟨_, rfl⟩
      go_loopw [3, 5, 12] (fun l b i wr => ∃ (j : Nat) (y : Byte), j ≤ 8 ∧ i = .int .i64 j ∧ b = .int .u8 (y.toNat : Int) ∧ Bx (y = x >>> j) ∧ New w wr ∧ wr.ownsRow w.heap.size 4 1 l (8 * k + j) (bools (Fr.bitsOf (xs.take k) ++ (Fr.bits8 x).take j))) (fun _ _ i _ => 8 - (intOf i).toNat)
      case atStart => exact ⟨0, x, Nat.zero_le _, rfl, rfl, ⟨by simp⟩, hu, by simpa using ho⟩
      case round =>
        obtain ⟨j, y, hj, rfl, rfl, HY, hu1, ho1⟩ := hrel
        by_cases hj8 : j < 8
        · have hb := y.isLt
          have hbit := odd_bit y
          have ho2 := ho1.alloc (.cells #[.bool (y[0])] 4)
          have hs : Src Try.prog 1 42 (.slice (some ⟨wr.heap.size, 0, none⟩) 1 1) 1 [.bool (y[0])] (wr.alloc (.cells #[.bool (y[0])] 4)) :=
            Src.ofSlice _ Try.underlying42 _ 1 1 _ rfl (cell_one_new _ _ _) (by simp [Value.oneCell'])
          have hz := hu1.size
          go_wp2_with (at_builtin; refine wpList_appN _ rfl _ _ 42 42 rfl _ 4 (.bool false) 1 1 Try.underlying42 infob rfl _ _ _ ho2 rfl _ _ _ hs rfl _ (hu1.alloc _) ?c1 ?c2 ?_; (case c1 => unfold maxLen; omega); (case c2 => omega); intro v1 w1 ho3 hu3 hk3 hv3)
          go_roundw
          case rel => exact ⟨j + 1, y >>> 1, by omega, by go_num, by rw [half1], ⟨by rw [HY.out, BitVec.shiftRight_add]⟩, hu3, by
            rw [take_snoc_bool _ _ (by rw [Fr.bits8_length]; exact hj8), ← List.append_assoc, bools_append, Fr.bits8_get]
            have e : y[0] = x.getLsbD j := by rw [HY.out, BitVec.getElem_ushiftRight]; simp
            rw [e] at ho3
            exact ho3⟩
          case measure => simp [intOf]; omega
        · obtain rfl : j = 8 := by omega
          go_wp2
          go_roundw
          case rel => exact ⟨k + 1, by omega, by go_num, hu1, by
            rw [HB.out, show 8 * (k + 1) = 8 * k + 8 from rfl]
            rw [List.take_of_length_le (l := Fr.bits8 x) (by rw [Fr.bits8_length]; omega)] at ho1
            exact ho1⟩
          case measure => simp [intOf]; omega
    · obtain rfl : k = xs.length := by omega
      rw [List.take_length] at ho
      go_wp2
      go_ret
      exact ⟨_, rfl, ho, hu⟩
end Go.Proofs.Ytbpmjbhmcnjnoaa
