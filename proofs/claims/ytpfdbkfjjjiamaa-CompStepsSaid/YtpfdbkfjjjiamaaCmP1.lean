/- Parts written: put, Put, PutStep: walked. -/
import Derived.Test.YtpfdbkfjjjiamaaCmPure2
namespace Go.Proofs.Ytpfdbkfjjjiamaa
open Go.RowKit
theorem New.wrote {base g : Nat} {v : Value} {w w' : World} (h : New w w') : Wrote base g v v w w' := ⟨New.upd h, fun _ q => .inl q⟩
set_option maxHeartbeats 4000000 in
theorem put_any {w : World} {base g : Nat} {v : Value} {L : List Bool} (h : IsW w base g v L) (hb : base ≤ w.heap.size) (hL : L.length ≤ 1000) (A : Option Addr) (n c : Nat) (Q : List (Nat × Nat)) (hn : Q.length = n) (hn9 : n ≤ 9) (hx : Rd w A (pcells Q)) (h64 : ∀ q ∈ Q, q.2 ≤ 64) (hlt : ∀ q ∈ Q, q.1 < 2 ^ q.2)
    (ha : ∀ a, A = some a → a.block ≠ g ∧ ∀ b, v.ownBlock = some b → a.block ≠ b) (hal : ∀ a, A = some a → a.block < w.heap.size) :
    Calls Try.prog 48 #[.pointer (some ⟨g, 0, none⟩), .slice A n c] w fun e w' => e = .returned (.int .i64 0) ∧ ∃ v', IsW w' base g v' (L ++ bitsP Q) ∧ Wrote base g v v' w w' := by
  have hps : ∀ j, psize (Q.take j) ≤ 64 * j := by
    intro j
    induction j with
    | zero => simp [psize]
    | succ j ih =>
      by_cases hj : j < Q.length
      · rw [List.take_succ_eq_append_getElem hj, psize_append, psize_one]
        have := h64 Q[j] (List.getElem_mem hj)
        omega
      · rw [List.take_of_length_le (by omega)]
        rw [List.take_of_length_le (by omega)] at ih
        omega
  have hpn : psize Q ≤ 576 := by have := hps Q.length; rw [List.take_length] at this; omega
  have CZ := Bx.mk (size_any A n c Q w hn (by omega) hx h64)
  have HN := Bx.mk hn
  have H64 := Bx.mk h64
  have HLT := Bx.mk hlt
  have HPS := Bx.mk hps
  have HAA := Bx.mk ha
  have HAL := Bx.mk hal
  generalize psize Q = z at *
  have hzi : (z : Int) ≤ 576 := by omega
  have hLi : (L.length : Int) ≤ 1000 := by omega
  have BL := Bx.mk hL
  have hng : ¬ (1048576 : Int) < (L.length : Int) + (z : Int) := by omega
  clear hn h64 hlt hps ha hal hL hpn
  go_enter Try.func48, Try.ntmps48
  repeat' (first | (first | (go_at_call 26; go_loud ((with_reducible refine (Len_e h _ rfl).mono ?_); rintro e w1 ⟨rfl, e1⟩; subst e1; dsimp only)) | (go_at_call 34; go_loud ((with_reducible refine (CZ.out).mono ?_); rintro e w2 ⟨rfl, hu2⟩; dsimp only))) | go_values | go_skip | go_guarded | go_step | go_upon | go_back)
  have hxw := hx
  go_loopw [15] (fun i wr => ∃ (j : Nat) (vr : Value), j ≤ n ∧ i = .int .i64 j ∧ Bx (IsW wr base g vr (L ++ bitsP (Q.take j))) ∧ Wrote base g v vr w wr) (fun i _ => n - (intOf i).toNat)
  case atStart => exact ⟨0, v, Nat.zero_le _, rfl, ⟨by simpa [bitsP] using h.new hu2⟩, New.wrote hu2⟩
  case round =>
    obtain ⟨j, vr, hj, rfl, hW, hU⟩ := hrel
    by_cases hlt : j < n
    · have hji : (j : Int) < (n : Int) := by omega
      have hjl : j < Q.length := by rw [HN.out]; exact hlt
      have hxr : Rd wr A (pcells Q) := hx.upd hU.upd (fun a hA _ q => q.elim (fun e => (HAA.out a hA).1 e) (fun e => (HAA.out a hA).2 _ e rfl))
      obtain ⟨b, off, rfl, hc0, hc1⟩ := hxr.two j hjl
      have hq := HLT.out Q[j] (List.getElem_mem hjl)
      have hd := H64.out Q[j] (List.getElem_mem hjl)
      have HS := Bx.mk (show bitsP (Q.take (j + 1)) = bitsP (Q.take j) ++ Bi.numBits Q[j].1 Q[j].2 by rw [List.take_succ_eq_append_getElem hjl, bitsP_append, bitsP_cons]; simp [bitsP])
      have hll : (L ++ bitsP (Q.take j)).length ≤ 1576 := by rw [List.length_append, bitsP_length]; have := HPS.out j; have := BL.out; omega
      generalize Q[j] = q at *
      obtain ⟨x, d⟩ := q
      dsimp only at hc0 hc1 hq hd HS
      have hx64 : x < 18446744073709551616 := Nat.lt_of_lt_of_le hq (Nat.pow_le_pow_right (by decide) hd)
      have E0 := Bx.mk (numErr (L ++ bitsP (Q.take j)) x d hd hq (by omega))
      have R0 := Bx.mk (numRes (L ++ bitsP (Q.take j)) x d hd hq (by omega))
      have HLL := Bx.mk (show (L ++ bitsP (Q.take j)).length ≤ 1048576 by omega)
      have hz := (Upd.refl Nowhere wr).alloc (.cells #[.int .u64 x, .int .i64 d] 93)
      have hWz := Bx.mk (IsW.new hW.out hz)
      have HBZ := Bx.mk (show base ≤ (wr.alloc (.cells #[.int .u64 x, .int .i64 d] 93)).heap.size from Nat.le_trans (Nat.le_trans hb hU.upd.size) hz.size)
      have HZ := Bx.mk hz
      have HDI := Bx.mk (show -9223372036854775808 ≤ (d : Int) ∧ (d : Int) ≤ 9223372036854775807 by omega)
      clear hz hq hd hll
      repeat' (first | (go_at_call 45; go_loud ((with_reducible refine (Put_e hWz.out HBZ.out HLL.out x hx64 _ d rfl HDI.out.1 HDI.out.2 0 E0.out _ R0.out).mono ?_); rintro e w3 ⟨rfl, v3, hW3, hU3⟩; dsimp only)) | go_values | go_skip | go_guarded | go_step | go_upon | go_back)
      go_roundw
      case rel => exact ⟨j + 1, v3, by omega, by go_num, ⟨by rw [HS.out, ← List.append_assoc]; exact hW3⟩, (hU.trans (New.wrote HZ.out)).trans hU3⟩
      case measure => simp [intOf]; omega
    · obtain rfl : j = n := by omega
      have hW' := hW.out
      rw [List.take_of_length_le (by rw [HN.out]; exact Nat.le_refl _)] at hW'
      repeat' (first | fail | go_values | go_skip | go_guarded | go_step | go_upon | go_back)
      go_ret
      exact ⟨rfl, vr, hW', hU⟩
end Go.Proofs.Ytpfdbkfjjjiamaa
