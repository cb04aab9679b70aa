/- The walk of the reference's Bytes. -/
import Derived.Test.YtpfdbkfjjjiamaaBi3
namespace Go.Proofs.Ytpfdbkfjjjiamaa
open Go.RowKit

theorem add_bit (y : BitVec 8) (r : Nat) (hr : r < 8) (h : y.getLsbD r = false) : ((y.toNat : Int) + 2 ^ r % 256) = ((y ||| Bi.bitAt true r).toNat : Int) := by
  have e : ((2 : Int) ^ r % 256) = ((2 ^ r : Nat) : Int) := by
    have : r = 0 ∨ r = 1 ∨ r = 2 ∨ r = 3 ∨ r = 4 ∨ r = 5 ∨ r = 6 ∨ r = 7 := by omega
    rcases this with rfl | rfl | rfl | rfl | rfl | rfl | rfl | rfl <;> rfl
  rw [e, Bi.bitAt, if_pos rfl, ← Bi.or_add y r hr h]; omega

set_option maxHeartbeats 1000000 in
theorem refBytes_any (A : Option Addr) (c nl : Nat) (L : List Bool) (w : World) (hl : L.length = nl) (hL : nl ≤ 2000000) (hx : Rd w A (bools L)) :
    Calls Try.prog 25 #[.slice A nl c] w (RetRow 5 1 (Bi.nbytes L) (u8s (Bi.pack L)) w) := by
  have hnb : (((nl : Int) + 7) / 8) = ((Bi.nbytes L : Nat) : Int) := by unfold Bi.nbytes; omega
  have hnb2 : Bi.nbytes L ≤ 250001 := by unfold Bi.nbytes; omega
  have HQ := Bx.mk (show ∀ k, k < nl → k / 8 < Bi.nbytes L by intro k hk; unfold Bi.nbytes; omega)
  have HP := Bx.mk (show Bi.pack L = Bi.packN (Bi.nbytes L) L from rfl)
  have HL := Bx.mk hl
  rw [HP.out]
  generalize Bi.nbytes L = n at *
  clear hl HP
  go_enter Try.func25, Try.ntmps25
  go_wp2_with ((with_reducible refine at_wpList ?_); refine wpList_make rfl _ _ _ rfl 5 (.int .u8 0) 1 Try.underlying31 info8 rfl n .i64 .i64 (congrArg (Value.int .i64) (hnb)) (congrArg (Value.int .i64) (hnb)) ?c1 ?c2 _ _ (Upd.refl Nowhere w) ?_; (case c1 => omega); (case c2 => unfold maxLen; omega); intro w1 ho1 hu1 hk1)
  clear hk1
  go_loopw [4, 5, 13] (fun _ _ i wr => ∃ k : Nat, k ≤ nl ∧ i = .int .i64 k ∧ New w wr ∧ wr.ownsRow w.heap.size 5 1 (.slice (some ⟨w.heap.size, 0, none⟩) n n) n (u8s (Bi.packN n (L.take k)))) (fun _ _ i _ => nl - (intOf i).toNat)
  case atStart => exact ⟨0, by omega, rfl, hu1, by
    have e : Bi.packN n (L.take 0) = List.replicate n 0#8 := by
      apply List.ext_getElem
      · simp [Bi.packN]
      · intro i h1 h2; rw [Bi.packN_getElem, Bi.byteOf_beyond _ _ (by simp)]; simp
    rw [e]; simpa [u8s] using ho1⟩
  case round =>
    obtain ⟨k, hk, rfl, hu, ho⟩ := hrel
    by_cases hlt : k < nl
    · have hkL : k < L.length := by rw [HL.out]; exact hlt
      obtain ⟨b0, off, rfl, hcell⟩ := (hx.new hu).at_ k (by simpa [bools] using hkL)
      simp only [bools, List.getElem_map] at hcell
      have HT := Bx.mk (show L.take (k + 1) = L.take k ++ [L[k]] from List.take_succ_eq_append_getElem hkL)
      have hlk : (L.take k).length = k := by simp; omega
      have HS := Bx.mk (Bi.packN_snoc n (L.take k) L[k])
      have HY0 := Bx.mk (show (Bi.byteOf (L.take k) (k / 8)).getLsbD (k % 8) = false by
        rw [Bi.byteOf_bit _ _ _ (by omega), show 8 * (k / 8) + k % 8 = k by omega, List.getD_eq_getElem?_getD, List.getElem?_eq_none (by omega)]; rfl)
      have hqn := HQ.out k hlt
      have HG := Bx.mk (Bi.packN_getD n (L.take k) (k / 8) hqn)
      rw [hlk] at HS
      have HZ : ∀ {p : List (BitVec 8)} {q : Nat} {y : BitVec 8}, q < p.length → p.getD q 0#8 = y → p.set q (y ||| Bi.bitAt false (k % 8)) = p := by
        intro p q y hq hy
        have : y ||| Bi.bitAt false (k % 8) = y := by simp [Bi.bitAt]
        rw [this]
        apply List.ext_getElem
        · simp
        · intro i h1 h2
          rw [List.getElem_set]
          by_cases h : q = i
          · subst h; rw [if_pos rfl, ← hy]; simp [h2]
          · rw [if_neg h]
      have HZ' := Bx.mk (HZ (by rw [Bi.packN_length]; exact hqn) HG.out)
      clear HZ
      have e1 : ((k : Int) / 8) = ((k / 8 : Nat) : Int) := by omega
      have e2 : ((k : Int) % 8) = ((k % 8 : Nat) : Int) := by omega
      have hr8 : k % 8 < 8 := by omega
      generalize L[k] = bit at hcell HT HS
      generalize Bi.packN n (L.take k) = P at *
      generalize Bi.byteOf (L.take k) (k / 8) = y at *
      generalize k / 8 = q at *
      generalize k % 8 = r at *
      have HT' := Bx.mk (show Bi.packN n (L.take (k + 1)) = P.set q (y ||| Bi.bitAt bit r) by rw [HT.out, HS.out])
      clear HT HS
      cases bit with
      | false =>
        go_wp2
        go_roundw
        case rel => exact ⟨k + 1, by omega, by go_num, hu, by rw [HT'.out, HZ'.out]; exact ho⟩
        case measure => simp [intOf]; omega
      | true =>
        obtain ⟨g, c', hv, hg, hcell2, hfz, hset⟩ := own_u8 ho q hqn
        obtain ⟨rfl, rfl⟩ : w.heap.size = g ∧ n = c' := by simpa using hv
        clear hv
        rw [HG.out] at hcell2
        have HX := Bx.mk (add_bit y r hr8 HY0.out)
        have hbd : (y.toNat : Int) + 2 ^ r % 256 ≤ 255 := by rw [HX.out]; have := (y ||| Bi.bitAt true r).isLt; omega
        have hbd0 : 0 ≤ (2 : Int) ^ r % 256 := by omega
        go_wp2
        go_roundw
        case rel => exact ⟨k + 1, by omega, by go_num, hu.setCell (.inr (Nat.le_refl _)) _, by rw [HX.out, HT'.out]; exact hset _⟩
        case measure => simp [intOf]; omega
    · obtain rfl : k = nl := by omega
      have HA := Bx.mk (show L.take k = L by rw [← HL.out]; exact List.take_length)
      rw [HA.out] at ho
      go_wp2
      go_ret
      exact ⟨_, rfl, ho, hu⟩
end Go.Proofs.Ytpfdbkfjjjiamaa
