/- The walks of the reference's Put and Bytes. -/
import Derived.Test.YtpfdbkfjjjiamaaBi2
import Derived.Handy
namespace Go.Proofs.Ytpfdbkfjjjiamaa
open Go.RowKit

/-- rows of unlike elements lie apart -/
theorem own_apart {w : World} {base base' e e' size size' n n' : Nat} {v v' : Value} {xs xs' : List Value} (h : w.ownsRow base e size v n xs) (h' : w.ownsRow base' e' size' v' n' xs') (hne : e ≠ e') (b : Nat) (hb : v.ownBlock = some b) : ¬ v'.ownBlock = some b := by
  intro hb'
  obtain ⟨_, ⟨rfl, _⟩ | ⟨g1, c1, cur1, rfl, _, hh1, _⟩⟩ := h
  · cases hb
  obtain ⟨_, ⟨rfl, _⟩ | ⟨g2, c2, cur2, rfl, _, hh2, _⟩⟩ := h'
  · cases hb'
  simp only [Value.ownBlock, Option.some.injEq] at hb hb'
  subst hb; subst hb'
  rw [hh1] at hh2
  injection hh2 with hh2
  injection hh2 with _ hh2
  exact hne hh2
theorem own_lt {w : World} {base e size n : Nat} {v : Value} {xs : List Value} (h : w.ownsRow base e size v n xs) (b : Nat) (hb : v.ownBlock = some b) : b < w.heap.size := (h.lt b hb).2
theorem parity (y : Nat) : ((y : Int) % 2 == 1) = y.testBit 0 := by
  rw [Nat.testBit_zero, Bool.eq_iff_iff]; simp; omega

set_option maxHeartbeats 1000000 in
theorem refPut_w (v : Value) (L : List Bool) (nl x : Nat) (n : Int) (w : World) (hx : x < 18446744073709551616) (hn1 : -9223372036854775808 ≤ n) (hn2 : n ≤ 9223372036854775807) (hl : L.length = nl) (hL : nl ≤ 1048576) (ho : w.ownsRow 0 4 1 v nl (bools L)) :
    Calls Try.prog 46 #[v, .int .u64 x, .int .i64 n] w fun e w' => ∃ v', e = .returned (.tuple #[v', .int .i64 (Bi.putErr L x n)]) ∧ w'.ownsRow 0 4 1 v' (Bi.putRes L x n).length (bools (Bi.putRes L x n)) ∧ New w w' ∧ ∀ b, v'.ownBlock = some b → v.ownBlock = some b ∨ w.heap.size ≤ b := by
  by_cases hn : n < 0 ∨ n > 64
  · have HE := Bx.mk (show Bi.putErr L x n = 1 from if_pos hn)
    have HR := Bx.mk (show Bi.putRes L x n = L from if_neg (by rw [HE.out]; decide))
    rw [HE.out, HR.out]
    by_cases hn0 : n < 0
    · clear hn
      go_enter Try.func46, Try.ntmps46
      go_wp2
      go_returns
      exact ⟨v, rfl, hl ▸ ho, Upd.refl _ _, fun _ q => .inl q⟩
    · have hn64 : 64 < n := by omega
      clear hn
      go_enter Try.func46, Try.ntmps46
      go_wp2
      go_returns
      exact ⟨v, rfl, hl ▸ ho, Upd.refl _ _, fun _ q => .inl q⟩
  obtain ⟨m, rfl⟩ := Int.eq_ofNat_of_zero_le (show 0 ≤ n by omega)
  have hm : m ≤ 64 := by omega
  have HN := Bx.mk hn
  clear hn
  have HRow := Bx.mk ho
  have HL := Bx.mk hl
  obtain ⟨A, c, rfl, hc, _, hr, hA⟩ := own_rd ho
  have hl0 := own_lit0 w w.heap.size 4 1 (Nat.le_refl _)
  have hs := (hr.new ((Upd.refl _ w).alloc (.cells #[] 4))).src (P := Try.prog) (n := nl) (c := c) (size := 1) Try.underlying34 (fun e => by
    subst e
    obtain ⟨_, h | ⟨_, _, _, h, _⟩⟩ := ho
    · exact h.2
    · cases h) (by simp [bools, hl]) (by intro u hu; obtain ⟨_, _, rfl⟩ := List.mem_map.1 hu; rfl)
  clear hr hA ho
  go_enter Try.func46, Try.ntmps46
  go_wp2_with (at_builtin; refine wpList_appN _ rfl _ _ 34 34 rfl _ 4 (.bool false) 1 1 Try.underlying34 infob rfl _ _ _ hl0 rfl _ _ _ hs rfl _ ((Upd.refl Nowhere w).alloc _) ?c1 ?c2 ?_; (case c1 => unfold maxLen; omega); (case c2 => omega); intro v1 w1 ho1 hu1 hk1 hv1; simp only [Nat.zero_add, List.nil_append] at ho1)
  clear hs hl0 hk1 hv1
  go_loopw [1, 8, 20] (fun y l i wr => ∃ (k z : Nat), k ≤ m ∧ i = .int .i64 k ∧ y = .int .u64 z ∧ Bx (z = x / 2 ^ k) ∧ z < 18446744073709551616 ∧ New w wr ∧ wr.ownsRow w.heap.size 4 1 l (nl + k) (bools (L ++ Bi.numBits x k))) (fun _ _ i _ => m - (intOf i).toNat)
  case atStart => exact ⟨0, x, by omega, rfl, rfl, ⟨by simp⟩, hx, hu1, by simpa [Bi.numBits] using ho1⟩
  case round =>
    obtain ⟨k, z, hk, rfl, rfl, HZ, hz, hu, ho⟩ := hrel
    by_cases hlt : k < m
    · have hbit := parity z
      have HB := Bx.mk (show z.testBit 0 = x.testBit k by rw [HZ.out, Nat.testBit_div_two_pow]; simp)
      have HH := Bx.mk (show z / 2 = x / 2 ^ (k + 1) by rw [HZ.out, Nat.div_div_eq_div_mul, Nat.pow_succ])
      have hz2 : z / 2 < 18446744073709551616 := by omega
      have HC := Bx.mk (show ((z : Int) / 2) = ((z / 2 : Nat) : Int) by omega)
      have HS := Bx.mk (Bi.numBits_succ x k)
      generalize z.testBit 0 = bit at hbit HB
      have ho2 := ho.alloc (.cells #[.bool bit] 4)
      have hs : Src Try.prog 1 34 (.slice (some ⟨wr.heap.size, 0, none⟩) 1 1) 1 [.bool bit] (wr.alloc (.cells #[.bool bit] 4)) :=
        Src.ofSlice _ Try.underlying34 _ 1 1 _ rfl (cells_new wr [.bool bit] _) (by simp [Value.oneCell'])
      have hsz := hu.size
      go_wp2_with (at_builtin; refine wpList_appN _ rfl _ _ 34 34 rfl _ 4 (.bool false) 1 1 Try.underlying34 infob rfl _ _ _ ho2 rfl _ _ _ hs rfl _ (hu.alloc _) ?c1 ?c2 ?_; (case c1 => unfold maxLen; omega); (case c2 => omega); intro v3 w3 ho3 hu3 hk3 hv3)
      go_roundw
      case rel => exact ⟨k + 1, z / 2, by omega, by go_num, by rw [HC.out], ⟨HH.out⟩, hz2, hu3, by rw [HS.out, ← List.append_assoc, bools_append, ← HB.out]; exact ho3⟩
      case measure => simp [intOf]; omega
    · obtain rfl : k = m := by omega
      obtain ⟨A2, c2, rfl, hc2, _, _, _⟩ := own_rd ho
      by_cases hz0 : z = 0
      · by_cases hlong : 1048576 < nl + k
        · have HE := Bx.mk (show Bi.putErr L x k = 3 by rw [Bi.putErr, if_neg HN.out, if_neg (by simp [← HZ.out, hz0]), if_pos (by simpa [HL.out] using hlong)])
          have HR := Bx.mk (show Bi.putRes L x k = L from if_neg (by rw [HE.out]; decide))
          have hlong' : (1048576 : Int) < (nl : Int) + (k : Int) := by omega
          clear hlong
          subst hz0
          go_wp2
          go_returns
          rw [HE.out, HR.out]
          exact ⟨_, rfl, by rw [HL.out]; exact own_new HRow.out hu, hu, fun _ q => .inl q⟩
        · have HE := Bx.mk (show Bi.putErr L x k = 0 by rw [Bi.putErr, if_neg HN.out, if_neg (by simp [← HZ.out, hz0]), if_neg (by simpa [HL.out] using hlong)])
          have HR := Bx.mk (show Bi.putRes L x k = L ++ Bi.numBits x k from if_pos HE.out)
          have hlong' : (nl : Int) + (k : Int) ≤ 1048576 := by omega
          clear hlong
          subst hz0
          go_wp2
          go_returns
          rw [HE.out, HR.out]
          exact ⟨_, rfl, by rw [List.length_append, Bi.numBits_length, HL.out]; exact own_lower ho (Nat.zero_le _), hu, fun b q => .inr (own_ge ho b q)⟩
      · have HE := Bx.mk (show Bi.putErr L x k = 5 by rw [Bi.putErr, if_neg HN.out, if_pos (by simpa [← HZ.out] using hz0)])
        have HR := Bx.mk (show Bi.putRes L x k = L from if_neg (by rw [HE.out]; decide))
        have hz0' : ¬ (z : Int) = 0 := by omega
        go_wp2
        go_returns
        rw [HE.out, HR.out]
        exact ⟨_, rfl, by rw [HL.out]; exact own_new HRow.out hu, hu, fun _ q => .inl q⟩
theorem refPut_any (v : Value) (L : List Bool) (nl x : Nat) (n : Int) (w : World) (hx : x < 18446744073709551616) (hn1 : -9223372036854775808 ≤ n) (hn2 : n ≤ 9223372036854775807) (hl : L.length = nl) (hL : nl ≤ 1048576) (ho : w.ownsRow 0 4 1 v nl (bools L)) :
    Calls Try.prog 46 #[v, .int .u64 x, .int .i64 n] w fun e w' => ∃ v', e = .returned (.tuple #[v', .int .i64 (Bi.putErr L x n)]) ∧ w'.ownsRow 0 4 1 v' (Bi.putRes L x n).length (bools (Bi.putRes L x n)) ∧ New w w' :=
  (refPut_w v L nl x n w hx hn1 hn2 hl hL ho).mono fun _ _ ⟨v', a, b, c, _⟩ => ⟨v', a, b, c⟩
end Go.Proofs.Ytpfdbkfjjjiamaa
