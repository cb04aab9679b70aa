/- The walk of Put. -/
import Derived.Test.YtpfdbkfjjjiamaaBi1
import Derived.StillTailTactics
namespace Go.Proofs.Ytpfdbkfjjjiamaa
open Go.RowKit

theorem and_bit (v k : Nat) (hv : v < 18446744073709551616) : bits .and .u64 ((v : Int) / 2 ^ k) 1 = ((v.testBit k).toNat : Int) := by
  have e : ((v : Int) / 2 ^ k) = ((v / 2 ^ k : Nat) : Int) := by rw [Int.natCast_ediv, Int.natCast_pow]; rfl
  rw [e, show (1 : Int) = ((1 : Nat) : Int) from rfl, u64_and_nat _ _ (Nat.lt_of_le_of_lt (Nat.div_le_self _ _) hv) (by decide), Nat.and_one_is_mod, Nat.testBit, Nat.shiftRight_eq_div_pow, Nat.one_and_eq_mod_two]
  rcases Nat.mod_two_eq_zero_or_one (v / 2 ^ k) with h | h <;> simp [h]
theorem shl_bit (b : Bool) (r : Nat) (hr : r < 8) (w : World) : (Op.shift BinOp.shl IntKind.u8 (b.toNat : Int) IntKind.i64 (r : Int)).run Try.prog w = .ok (.int .u8 ((Bi.bitAt b r).toNat : Int)) w := by
  have : r = 0 ∨ r = 1 ∨ r = 2 ∨ r = 3 ∨ r = 4 ∨ r = 5 ∨ r = 6 ∨ r = 7 := by omega
  rcases this with rfl | rfl | rfl | rfl | rfl | rfl | rfl | rfl <;> cases b <;> rfl
theorem wrap_bit (b : Bool) : IntKind.u8.wrap (b.toNat : Int) = (b.toNat : Int) := by cases b <;> rfl
theorem bitAt_nat (b : Bool) (r : Nat) (hr : r < 8) : ((b.toNat : Int) * 2 ^ r % 256) = ((Bi.bitAt b r).toNat : Int) := by
  have : r = 0 ∨ r = 1 ∨ r = 2 ∨ r = 3 ∨ r = 4 ∨ r = 5 ∨ r = 6 ∨ r = 7 := by omega
  rcases this with rfl | rfl | rfl | rfl | rfl | rfl | rfl | rfl <;> cases b <;> rfl
theorem or_bits (x y : BitVec 8) : bits .or .u8 (x.toNat : Int) (y.toNat : Int) = ((x ||| y).toNat : Int) := by
  rw [u8_or_nat _ _ x.isLt y.isLt, BitVec.toNat_or]
/-- what the call does to a writer's block and row -/
structure Wrote (base g : Nat) (v v' : Value) (w w' : World) : Prop where
  upd : Upd (fun b => b = g ∨ v.ownBlock = some b) w w'
  at_ : ∀ b, v'.ownBlock = some b → v.ownBlock = some b ∨ w.heap.size ≤ b

set_option maxRecDepth 4000 in
set_option maxHeartbeats 1000000 in
theorem Put_any (base g : Nat) (v : Value) (L : List Bool) (x : Nat) (n : Int) (w : World) (hx : x < 18446744073709551616) (hn1 : -9223372036854775808 ≤ n) (hn2 : n ≤ 9223372036854775807) (hL : L.length ≤ 1048576) (hb : base ≤ w.heap.size) (h : IsW w base g v L) :
    Calls Try.prog 45 #[.pointer (some ⟨g, 0, none⟩), .int .u64 x, .int .i64 n] w fun e w' => e = .returned (.int .i64 (Bi.putErr L x n)) ∧ ∃ v', IsW w' base g v' (Bi.putRes L x n) ∧ Wrote base g v v' w w' := by
  have c1 := h.c1
  by_cases hn : n < 0 ∨ n > 64
  · have HE := Bx.mk (show Bi.putErr L x n = 1 from if_pos hn)
    have HR := Bx.mk (show Bi.putRes L x n = L from if_neg (by rw [HE.out]; decide))
    rw [HE.out, HR.out]
    by_cases hn0 : n < 0
    · clear hn
      go_enter Try.func45, Try.ntmps45
      go_wp2
      go_ret
      exact ⟨rfl, v, h, Upd.refl _ _, fun _ q => .inl q⟩
    · have hn64 : 64 < n := by omega
      clear hn
      go_enter Try.func45, Try.ntmps45
      go_wp2
      go_ret
      exact ⟨rfl, v, h, Upd.refl _ _, fun _ q => .inl q⟩
  obtain ⟨m, rfl⟩ := Int.eq_ofNat_of_zero_le (show 0 ≤ n by omega)
  have hm : m ≤ 64 := by omega
  by_cases hr : x / 2 ^ m ≠ 0
  · have HE := Bx.mk (show Bi.putErr L x m = 5 by rw [Bi.putErr, if_neg hn, if_pos (by simpa using hr)])
    have HR := Bx.mk (show Bi.putRes L x m = L from if_neg (by rw [HE.out]; decide))
    rw [HE.out, HR.out]
    have hm64 : m < 64 := by
      rcases Nat.lt_or_ge m 64 with q | q
      · exact q
      · obtain rfl : m = 64 := by omega
        exact absurd (Nat.div_eq_of_lt hx) hr
    have hd : ((x : Int) / 2 ^ m) ≠ 0 := by
      have e : ((x : Int) / 2 ^ m) = ((x / 2 ^ m : Nat) : Int) := by rw [Int.natCast_ediv, Int.natCast_pow]; rfl
      rw [e]; omega
    clear hn hr
    go_enter Try.func45, Try.ntmps45
    go_wp2
    go_ret
    exact ⟨rfl, v, h, Upd.refl _ _, fun _ q => .inl q⟩
  have hd : m < 64 → ((x : Int) / 2 ^ m) = 0 := by
    intro _
    have e : ((x : Int) / 2 ^ m) = ((x / 2 ^ m : Nat) : Int) := by rw [Int.natCast_ediv, Int.natCast_pow]; rfl
    rw [e]; omega
  by_cases hlong : 1048576 < L.length + m
  · have HE := Bx.mk (show Bi.putErr L x m = 3 by rw [Bi.putErr, if_neg hn, if_neg (by simpa using hr), if_pos (by simpa using hlong)])
    have HR := Bx.mk (show Bi.putRes L x m = L from if_neg (by rw [HE.out]; decide))
    rw [HE.out, HR.out]
    clear hn hr
    have hlong' : (1048576 : Int) < (L.length : Int) + (m : Int) := by omega
    by_cases hm64 : m < 64
    · replace hd := hd hm64
      go_enter Try.func45, Try.ntmps45
      go_wp2
      go_ret
      exact ⟨rfl, v, h, Upd.refl _ _, fun _ q => .inl q⟩
    · clear hd
      go_enter Try.func45, Try.ntmps45
      go_wp2
      go_ret
      exact ⟨rfl, v, h, Upd.refl _ _, fun _ q => .inl q⟩
  have HE := Bx.mk (show Bi.putErr L x m = 0 by rw [Bi.putErr, if_neg hn, if_neg (by simpa using hr), if_neg (by simpa using hlong)])
  have HR := Bx.mk (show Bi.putRes L x m = L ++ Bi.numBits x m from if_pos HE.out)
  rw [HE.out, HR.out]
  have hlen : L.length + m ≤ 1048576 := by omega
  clear hn hr hlong
  by_cases hm64 : m < 64
  all_goals (first | (replace hd := hd hm64) | clear hd)
  all_goals go_enter Try.func45, Try.ntmps45
  all_goals go_wp2
  all_goals
    go_loopw [7, 36] (fun _ i wr => ∃ (k : Nat) (vr : Value), k ≤ m ∧ i = .int .i64 k ∧ IsW wr base g vr (L ++ Bi.numBits x k) ∧ Wrote base g v vr w wr) (fun _ i _ => m - (intOf i).toNat)
    case atStart => exact ⟨0, v, by omega, rfl, by simpa [Bi.numBits] using h, Upd.refl _ _, fun _ q => .inl q⟩
    case round =>
      obtain ⟨k, vr, hk, rfl, hW, hU⟩ := hrel
      by_cases hlt : k < m
      · have HL := Bx.mk (show Bi.numBits x (k + 1) = Bi.numBits x k ++ [x.testBit k] from Bi.numBits_succ x k)
        have hbit := and_bit x k hx
        have hwb := wrap_bit (x.testBit k)
        generalize x.testBit k = bit at HL hbit hwb
        have hN : (L ++ Bi.numBits x k).length = L.length + k := by simp [Bi.numBits_length]
        have hM : (L ++ Bi.numBits x k).length ≤ 1048576 := by omega
        have HN := Bx.mk hN
        clear hN
        generalize hMM : L ++ Bi.numBits x k = M at hW HN hM
        have HM := Bx.mk hMM
        clear hMM
        by_cases h8 : M.length % 8 = 0
        · have hp : (Bi.pack M).length = M.length / 8 := by rw [Bi.pack_length]; unfold Bi.nbytes; omega
          have h8' : (M.length : Int) % 8 = 0 := by omega
          have e1 : IntKind.i64.wrap ((M.length : Int) / 8) = ((M.length / 8 : Nat) : Int) := by rw [IntKind.wrap_i64]; omega
          have e3 : (M.length : Int).tmod 8 = ((0 : Nat) : Int) := by rw [Int.tmod_eq_emod_of_nonneg (by omega)]; omega
          have HS := Bx.mk (Bi.pack_snoc0 M bit h8)
          have hqs : M.length / 8 ≤ 140000 := by omega
          generalize M.length / 8 = q at *
          have hrow := hW.row.alloc (.cells #[.int .u8 0] 5)
          have hsrc := Src.ofSlice (P := Try.prog) (size := 1) _ Try.underlying31 _ 1 1 _ rfl (cells_new wr [.int .u8 0] 5) (by intro u hu; simp at hu; subst hu; rfl)
          have hbase : base ≤ (wr.alloc (.cells #[.int .u8 0] 5)).heap.size := by have := hU.upd.size; simp; omega
          have hsh := shl_bit bit 0 (by omega)
          have HO := Bx.mk (show bits .or .u8 (0 : Int) (bit.toNat : Int) = ((0#8 ||| Bi.bitAt bit 0).toNat : Int) by cases bit <;> rfl)
          have c0 := IsV.c0 hW
          have c1 := IsV.c1 hW
          rw [hp] at hrow
          go_wp2_with ((at_builtin; refine wpList_appB rfl _ _ 31 31 rfl _ 5 (.int .u8 0) 1 1 Try.underlying31 info8 rfl _ _ _ hrow rfl _ _ _ hsrc rfl hbase ?c1 ?c2 ?_; (case c1 => unfold maxLen; omega); (case c2 => omega); intro v2 w2 ho hk hwh); obtain ⟨gr, c, rfl, hfr, hc2, c0', c1', hcell, hfz, d1, f1, hset, hgr⟩ := IsV.step0 hW hp hk hwh ho)
          have hU3 : Upd (fun b => b = g ∨ v.ownBlock = some b) w (w2.setCell ⟨g, 0, none⟩ (.slice (some ⟨gr, 0, none⟩) (q + 1) c)) :=
            ((hU.upd.alloc (.cells #[.int .u8 0] 5)).then hk (fun b hb => (hU.at_ b hb).elim (fun e => .inl (.inr e)) .inr)).setCell (p := ⟨g, 0, none⟩) (.inl (.inl rfl)) _
          have hgr' : v.ownBlock = some gr ∨ w.heap.size ≤ gr := hgr.elim (fun e => hU.at_ gr e) (fun e => .inr (by have := hU.upd.size; simp at e; omega))
          clear hfr hc2 ho hk hwh hgr hrow hsrc hbase
          have hq2 : (q : Int) < (q : Int) + 1 := by omega
          generalize w2.setCell ⟨g, 0, none⟩ (.slice (some ⟨gr, 0, none⟩) (q + 1) c) = w3 at *
          go_still_tail 24, (by kernel_rfl)
          change wpList _ _ _ _ _ w3.drew
          go_wp2
          go_roundw
          case rel =>
            refine ⟨k + 1, .slice (some ⟨gr, 0, none⟩) (q + 1) c, by omega, by go_num, ?_, ?_, fun b hb => ?_⟩
            · rw [HL.out, ← List.append_assoc, HM.out, HO.out]
              have := (IsV.setN (hset (0#8 ||| Bi.bitAt bit 0)) (M.length + 1)).new ((Upd.refl _ _).drew)
              unfold IsW
              rw [HS.out, List.length_append]
              exact this
            · exact ((hU3.setCell (p := ⟨gr, q, none⟩) (hgr'.elim (fun e => .inl (.inr e)) .inr) _).setCell (p := ⟨g, 1, none⟩) (.inl (.inl rfl)) _).drew
            · have e : gr = b := by simpa [Value.ownBlock] using hb
              exact e ▸ hgr'
          case measure => simp [intOf]; omega
        · have hq : M.length / 8 < (Bi.pack M).length := by rw [Bi.pack_length]; unfold Bi.nbytes; omega
          have h8' : ¬ (M.length : Int) % 8 = 0 := by omega
          have e1 : IntKind.i64.wrap ((M.length : Int) / 8) = ((M.length / 8 : Nat) : Int) := by rw [IntKind.wrap_i64]; omega
          have e2 : (M.length : Int) % 8 = ((M.length % 8 : Nat) : Int) := by omega
          have hr : M.length % 8 < 8 := by omega
          have HS := Bx.mk (Bi.pack_snoc1 M bit h8)
          have HG := Bx.mk (show (Bi.pack M).getD (M.length / 8) 0#8 = Bi.byteOf M (M.length / 8) from Bi.packN_getD _ _ _ (by rw [← Bi.pack_length]; exact hq))
          have e3 : (M.length : Int).tmod 8 = ((M.length % 8 : Nat) : Int) := by rw [Int.tmod_eq_emod_of_nonneg (by omega)]; omega
          generalize M.length / 8 = q at *
          generalize M.length % 8 = r at *
          obtain ⟨gr, c, rfl, hne, hcell, hfz, hset⟩ := IsV.elem hW q hq
          have c0 := IsV.c0 hW
          have c1 := IsV.c1 hW
          have d1 := IsV.d1 hW hne q
          have f1 := fun u => IsV.f1 hW hne q u 1
          have hq' : (q : Int) < ((Bi.pack M).length : Int) := by omega
          generalize (Bi.pack M).getD q 0#8 = y at hcell HG
          have hsh := shl_bit bit r hr
          have HO := Bx.mk (show bits .or .u8 (y.toNat : Int) ((bit.toNat : Int) * 2 ^ r % 256) = ((y ||| Bi.bitAt bit r).toNat : Int) by rw [bitAt_nat bit r hr, or_bits])
          go_wp2
          go_still_tail 24, (by kernel_rfl)
          change wpList _ _ _ _ _ wr.drew
          go_wp2
          go_roundw
          case rel =>
            refine ⟨k + 1, _, by omega, by go_num, ?_, ?_, hU.at_⟩
            · rw [HL.out, ← List.append_assoc, HM.out, HO.out]
              have := (IsV.setN (hset (y ||| Bi.bitAt bit r)) (M.length + 1)).new ((Upd.refl _ _).drew)
              unfold IsW
              rw [HS.out, ← HG.out, List.length_append]
              exact this
            · exact ((hU.upd.setCell (p := ⟨gr, q, none⟩) ((hU.at_ gr rfl).elim (fun e => .inl (.inr e)) .inr) _).setCell (p := ⟨g, 1, none⟩) (.inl (.inl rfl)) _).drew
          case measure => simp [intOf]; omega
      · obtain rfl : k = m := by omega
        go_wp2
        go_ret
        exact ⟨rfl, vr, hW, hU⟩
end Go.Proofs.Ytpfdbkfjjjiamaa
