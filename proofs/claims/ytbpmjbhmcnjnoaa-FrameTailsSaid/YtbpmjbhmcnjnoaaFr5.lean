/- The walks of the frame's references. -/
import Derived.Test.YtbpmjbhmcnjnoaaFr4
import Derived.Test.YtbpmjbhmcnjnoaaFrTurn
namespace Go.Proofs.Ytbpmjbhmcnjnoaa
open Go.RowKit

theorem tail4 (s : BitVec 32) : u8s (tailOf s) = [.int .u8 ((s.toNat : Int) % 256), .int .u8 ((s.toNat : Int) / 256 % 256), .int .u8 ((s.toNat : Int) / 65536 % 256), .int .u8 ((s.toNat : Int) / 16777216)] := by
  have h := fun k => byte_of_shift s k
  have h0 := h 0
  have h1 := h 8
  have h2 := h 16
  have h3 := h 24
  simp only [u8s, tailOf, List.range, List.range.loop, List.map_cons, List.map_nil]
  rw [show 8 * 0 = 0 from rfl, show 8 * 1 = 8 from rfl, show 8 * 2 = 16 from rfl, show 8 * 3 = 24 from rfl, ← h0, ← h1, ← h2, ← h3]
  have := s.isLt
  have e : (s.toNat : Int) / 2 ^ 24 % 256 = (s.toNat : Int) / 16777216 := by omega
  rw [e]
  simp

set_option maxHeartbeats 400000 in
theorem refSeal_any (A : Option Addr) (n c : Nat) (xs : List Byte) (w : World) (hl : xs.length = n) (hm : n ≤ 5000) (hA : A = none → n = 0) (hx : Rd w A (u8s xs)) :
    Calls Try.prog 20 #[.slice A n c] w (RetRowE 5 1 (sealRes xs).length (u8s (sealRes xs)) (sealErr xs) w) := by
  subst hl
  by_cases h : xs.length ≤ 4096
  · have E1 := Bx.mk (show sealRes xs = sealed xs from if_pos h)
    have E2 := Bx.mk (show sealErr xs = 0 from if_pos h)
    have HT := Bx.mk (tail4 (Fr.sum xs))
    have hsb := (Fr.sum xs).isLt
    generalize hS : Fr.sum xs = S at *
    have HS := Bx.mk hS
    clear hS
    have HA := Bx.mk hA
    clear hA
    go_enter Try.func20, Try.ntmps20
    go_wp2_with (first | (at_builtin; refine wpList_appN _ rfl _ _ 22 22 rfl _ 5 (.int .u8 0) 1 1 Try.underlying22 info8 rfl _ _ _ ho2 rfl _ _ _ hs2 rfl _ (hu2.alloc _) ?c1 ?c2 ?_; (case c1 => unfold maxLen; omega); (case c2 => omega); intro v3 w3 ho3 hu3 hk3 hv3) | ((at_builtin; refine wpList_appN _ rfl _ _ 22 22 rfl _ 5 (.int .u8 0) 1 1 Try.underlying22 info8 rfl _ _ _ hl0 rfl _ _ _ hs rfl _ (hu1.alloc _) ?c1 ?c2 ?_; (case c1 => unfold maxLen; omega); (case c2 => omega); intro v2 w2 ho2' hu2 hk2 hv2); have ho2 := ho2'.alloc (.cells #[.int .u8 ((S.toNat : Int) % 256), .int .u8 ((S.toNat : Int) / 256 % 256), .int .u8 ((S.toNat : Int) / 65536 % 256), .int .u8 ((S.toNat : Int) / 16777216)] 5); have hs2 := Src.ofSlice (P := Try.prog) (size := 1) _ Try.underlying22 _ 4 4 _ rfl (cells_new w2 [.int .u8 ((S.toNat : Int) % 256), .int .u8 ((S.toNat : Int) / 256 % 256), .int .u8 ((S.toNat : Int) / 65536 % 256), .int .u8 ((S.toNat : Int) / 16777216)] 5) (by rw [← HT.out]; exact u8s_one _)) | (go_at_call 13; (with_reducible refine (refSum_any _ _ xs _ (by omega) hx).mono ?_); rintro e w1 ⟨rfl, hu1⟩; rw [HS.out]; have hl0 := own_lower (own_lit0 w1 w1.heap.size 5 1 (Nat.le_refl _)) hu1.size; have hs := (hx.new (hu1.alloc (.cells #[] 5))).src (P := Try.prog) (n := xs.length) (c := c) (size := 1) Try.underlying22 HA.out (by simp [u8s]) (u8s_one xs); dsimp only))
    go_ret2
    rw [E1.out, E2.out]
    refine ⟨_, rfl, ?_, hu3⟩
    rw [sealed, u8s_append, HS.out, HT.out]
    simpa [tailOf] using ho3
  · have E1 := Bx.mk (show sealRes xs = [] from if_neg h)
    have E2 := Bx.mk (show sealErr xs = 3 from if_neg h)
    go_enter Try.func20, Try.ntmps20
    go_wp2
    go_ret2
    rw [E1.out, E2.out]
    exact ⟨_, rfl, World.ownsRow_nil _ _ _ _, .refl _ _⟩
theorem odd_word (b : BitVec 32) : ((b.toNat : Int) % 2 == 1) = b[0] := by
  rw [← BitVec.getLsbD_eq_getElem]
  simp only [BitVec.getLsbD, Nat.testBit_zero]
  rw [Bool.eq_iff_iff]; simp; omega
theorem xor_two (x : Byte) (r : Nat) (h : r < 8) : bits .xor .u8 (x.toNat : Int) (2 ^ r % 256) = ((x ^^^ BitVec.twoPow 8 r).toNat : Int) := by
  have e : ((2 : Int) ^ r % 256) = ((BitVec.twoPow 8 r).toNat : Int) := by
    rw [BitVec.toNat_twoPow]
    rw [Int.natCast_emod, Int.natCast_pow]
    rfl
  rw [e, u8_xor_nat _ _ x.isLt (BitVec.twoPow 8 r).isLt, BitVec.toNat_xor]
set_option maxHeartbeats 400000 in
theorem Turn_any (A : Option Addr) (n c a : Nat) (xs : List Byte) (pat : BitVec 32) (w : World) (hl : xs.length = n) (hm : n ≤ 5000) (ha : a ≤ 100000) (hA : A = none → n = 0) (hx : Rd w A (u8s xs)) :
    Calls Try.prog 15 #[.slice A n c, .int .i64 a, .int .u32 pat.toNat] w (RetRow 5 1 n (u8s (Fr.turnTo xs a pat 32)) w) := by
  subst hl
  have hl0 := own_lit0 w w.heap.size 5 1 (Nat.le_refl _)
  have hs := (hx.new ((Upd.refl _ w).alloc (.cells #[] 5))).src (P := Try.prog) (n := xs.length) (c := c) (size := 1) Try.underlying22 hA (by simp [u8s]) (u8s_one xs)
  clear hA
  go_enter Try.func15, Try.ntmps15
  go_wp2_with (at_builtin; refine wpList_appN _ rfl _ _ 22 22 rfl _ 5 (.int .u8 0) 1 1 Try.underlying22 info8 rfl _ _ _ hl0 rfl _ _ _ hs rfl _ ((Upd.refl Nowhere w).alloc _) ?c1 ?c2 ?_; (case c1 => unfold maxLen; omega); (case c2 => omega); intro v1 w1 ho1 hu1 hk1 hv1; simp only [Nat.zero_add, List.nil_append] at ho1)
  obtain ⟨A1, c1, rfl, hc1, _, hr1, _⟩ := own_rd ho1
  clear hs hk1 hv1 hr1
  go_loopw [2, 8, 9, 13] (fun p _ _ i wr => ∃ (k : Nat) (y : BitVec 32), k ≤ 32 ∧ i = .int .i64 k ∧ p = .int .u32 y.toNat ∧ Bx (y = pat >>> k) ∧ New w wr ∧ wr.ownsRow w.heap.size 5 1 (.slice A1 xs.length c1) xs.length (u8s (Fr.turnTo xs a pat k))) (fun _ _ _ i _ => 32 - (intOf i).toNat)
  case atStart => exact ⟨0, pat, by omega, rfl, rfl, ⟨by simp⟩, hu1, ho1⟩
  case round =>
    obtain ⟨k, y, hk, rfl, rfl, HY, hu, ho⟩ := hrel
    by_cases hlt : k < 32
    · have hy := y.isLt
      have HL := Bx.mk (Fr.turnTo_length xs a pat k)
      have HT := Bx.mk (show Fr.turnTo xs a pat (k + 1) = Fr.tstep (Fr.turnTo xs a pat k) (a + k) (pat.getLsbD k) from rfl)
      generalize Fr.turnTo xs a pat k = L at *
      have hodd : ((y.toNat : Int) % 2 == 1) = y[0] := odd_word y
      have HB := Bx.mk (show pat.getLsbD k = y[0] by rw [HY.out, BitVec.getElem_ushiftRight]; simp)
      have HN := Bx.mk (show (y.toNat : Int) / (2 : Int) = ((y >>> 1).toNat : Int) from half_bv y)
      generalize y[0] = b0 at hodd HB
      cases b0 with
      | false =>
        go_wp2
        go_roundw
        case rel => exact ⟨k + 1, y >>> 1, by omega, by go_num, by rw [HN.out], ⟨by rw [HY.out, BitVec.shiftRight_add]⟩, hu, by rw [HT.out, HB.out]; unfold Fr.tstep; rw [if_neg (by simp)]; exact ho⟩
        case measure => simp [intOf]; omega
      | true =>
        by_cases hin : a + k < 8 * xs.length
        · have he1 : ((a : Int) + k) / 8 = (((a + k) / 8 : Nat) : Int) := by omega
          have he2 : ((a : Int) + k) % 8 = (((a + k) % 8 : Nat) : Int) := by omega
          have hq : (a + k) / 8 < xs.length := by omega
          have hr : (a + k) % 8 < 8 := by omega
          have HT2 := Bx.mk (show Fr.tstep L (a + k) true = L.set ((a + k) / 8) (L.getD ((a + k) / 8) 0#8 ^^^ BitVec.twoPow 8 ((a + k) % 8)) by unfold Fr.tstep; rw [if_pos ⟨rfl, by rw [HL.out]; exact hin⟩])
          generalize (a + k) / 8 = q at he1 hq HT2
          generalize (a + k) % 8 = r at he2 hr HT2
          obtain ⟨g, c', hv, hg, hcell, hfz, hset⟩ := own_u8 ho q hq
          obtain ⟨rfl, rfl⟩ : A1 = some ⟨g, 0, none⟩ ∧ c1 = c' := by simpa using hv
          clear hv
          have HX := Bx.mk (xor_two (L.getD q 0#8) r hr)
          generalize L.getD q 0#8 = x at hcell HT2 HX
          have HS := Bx.mk hset
          clear hset
          have hx8 := x.isLt
          go_wp2
          go_roundw
          case rel => exact ⟨k + 1, y >>> 1, by omega, by go_num, by rw [HN.out], ⟨by rw [HY.out, BitVec.shiftRight_add]⟩, hu.setCell (.inr hg) _, by rw [HX.out, HT.out, HB.out, HT2.out]; exact HS.out _⟩
          case measure => simp [intOf]; omega
        · go_wp2
          go_roundw
          case rel => exact ⟨k + 1, y >>> 1, by omega, by go_num, by rw [HN.out], ⟨by rw [HY.out, BitVec.shiftRight_add]⟩, hu, by rw [HT.out, HB.out]; unfold Fr.tstep; rw [if_neg (by rw [HL.out]; omega)]; exact ho⟩
          case measure => simp [intOf]; omega
    · obtain rfl : k = 32 := by omega
      go_wp2
      go_ret
      exact ⟨_, rfl, ho, hu⟩
end Go.Proofs.Ytbpmjbhmcnjnoaa
