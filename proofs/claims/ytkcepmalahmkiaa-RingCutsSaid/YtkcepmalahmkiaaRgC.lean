/- RingCuts: walked. -/
import Derived.Test.YtkcepmalahmkiaaRgAwake
import Derived.Test.YtkcepmalahmkiaaRgU13
import Derived.Test.YtkcepmalahmkiaaRgPure2
namespace Go.Proofs.Ytkcepmalahmkiaa
open Go.RowKit
def t32s (ts : List Nat) : List Value := ts.map fun (t : Nat) => .int .u32 t
theorem t32_at {w : World} {A : Option Addr} {xs : List Nat} (h : Rd w A (t32s xs)) (k : Nat) (hk : k < xs.length) :
    ∃ b off, A = some ⟨b, off, none⟩ ∧ w.cell? ⟨b, off + k, none⟩ = some (.int .u32 xs[k]) := by
  obtain ⟨b, off, h1, h2⟩ := h.at_ k (by simpa [t32s] using hk)
  exact ⟨b, off, h1, by simpa [t32s] using h2⟩
/-- what the law puts behind a tick -/
def xor5 (t : Nat) : Int := bits .xor .u32 (t : Int) 5
theorem xor5_eq (t : Nat) : bits .xor .u32 (t : Int) 5 = xor5 t := rfl
theorem tksU_t32s (xs : List (Rit Int)) : tksU xs = t32s (xs.map (·.tick)) := by simp [tksU, t32s]
set_option maxRecDepth 20000 in
set_option maxHeartbeats 4000000 in
theorem RingCuts_any (A : Option Addr) (n c : Nat) (ts : List Nat) (at_ : Nat) (w : World) (hl : ts.length = n) (hn : n ≤ 9223372036854775807) (hx : Rd w A (t32s ts)) (ht : ∀ t ∈ ts, t < 4294967296) (hat : at_ < 4294967296) :
    Calls Try.prog 4 #[.slice A n c, .int .u32 at_] w fun e w' => e = .returned (.bool true) ∧ New w w' := by
  have HL := Bx.mk hl
  have HT := Bx.mk ht
  have HX := Bx.mk hx
  clear hl ht hx
  go_enter Try.func4, Try.ntmps4
  go_wp2_with (first
    | (go_at_call 7; (with_reducible refine (awake_any _).mono ?_); rintro e w1 ⟨rfl, N1⟩; dsimp only)
    | (go_at_call 14; (with_reducible refine (UAt.of_new 40 40 rfl _ (by omega) (by omega)).mono ?_); rintro e w2 ⟨rfl, N2, hR2⟩; dsimp only))
  go_loopw [26] (fun i wr => ∃ (j : Nat) (xs : List (Rit Int)), j ≤ n ∧ i = .int .i64 j ∧ Bx (UAt w1 wr w1.heap.size 40 xs) ∧ New w1 wr ∧ Bx (∀ x ∈ xs, x.v = xor5 x.tick)) (fun i _ => n - (intOf i).toNat)
  case atStart => exact ⟨0, [], Nat.zero_le _, rfl, ⟨hR2⟩, N2, ⟨fun x hx => by cases hx⟩⟩
  case round =>
    obtain ⟨j, xs, hj, rfl, hR, hN, hP⟩ := hrel
    by_cases hlt : j < n
    · obtain ⟨b, off, rfl, hc⟩ := t32_at ((HX.out.new N1).new hN) j (by rw [HL.out]; exact hlt)
      have htt := HT.out _ (List.getElem_mem (show j < ts.length by rw [HL.out]; exact hlt))
      generalize ts[j]'(by rw [HL.out]; exact hlt) = t at *
      by_cases h40 : j < 40
      · have h40i : (j : Int) < 40 := by omega
        repeat' (first | (rw [xor5_eq]; (go_at_call 15; (with_reducible refine (hR.out.put t t rfl (xor5 t) htt).mono ?_); rintro e w3 ⟨rfl, hR3, hU3⟩; dsimp only)) | go_values | go_skip | go_guarded | go_step | go_upon | go_back)
        go_roundw
        case rel => exact ⟨j + 1, _, by omega, by go_num, ⟨hR3⟩, UBlk.new hU3 hN (Nat.le_refl _), ⟨putL_all hP.out rfl⟩⟩
        case measure => simp [intOf]; omega
      · have h40i : ¬ (j : Int) < 40 := by omega
        repeat' (first | fail | go_values | go_skip | go_guarded | go_step | go_upon | go_back)
        go_roundw
        case rel => exact ⟨j + 1, _, by omega, by go_num, hR, hN, hP⟩
        case measure => simp [intOf]; omega
    · obtain rfl : j = n := by omega
      have hup := Bx.mk hR.out.rising
      obtain ⟨m, hm⟩ : ∃ m, xs.length = m := ⟨_, rfl⟩
      obtain ⟨p, hp⟩ : ∃ p, lb xs at_ = p := ⟨_, rfl⟩
      obtain ⟨q, hq⟩ : ∃ q, (xs.drop p).length = q := ⟨_, rfl⟩
      have hpq : p + q = m := by rw [← hq, List.length_drop, hm, ← hp]; have := lb_le xs at_; omega
      have hm40 : m ≤ 40 := by rw [← hm]; exact hR.out.len
      have HP := Bx.mk hp
      have hlb0 := Bx.mk (show lb (xs.drop p) at_ = 0 by rw [← HP.out]; exact lb_drop hup.out at_)
      have hpqi : (p : Int) + (q : Int) = (m : Int) := by omega
      have HM := Bx.mk hm
      have HQ := Bx.mk hq
      clear hm hp hq
      repeat' (first | (first
        | (have _m := S4; (go_at_call 17; (with_reducible refine (S4.out.cut at_ at_ rfl).mono ?_); rintro e w6 ⟨rfl, hR6, hU6⟩; rw [hlb0.out] at hR6 ⊢; have S5 := Bx.mk hR6; have ho6 := UBlk.row ho5 hU6 (by decide) (by decide); have hoa6 := UBlk.row hoa5 hU6 (by decide) (by decide); have N6 := UBlk.new hU6 N5 (Nat.le_refl _); dsimp only))
        | (have _m := S3; (go_at_call 16; (with_reducible refine (S3.out.ticks).mono ?_); rintro e w5 ⟨v5, rfl, ho5, hu5⟩; rw [HQ.out] at ho5; have S4 := Bx.mk (S3.out.next hu5); have hoa5 := own_new hoa4 hu5; have N5 := N4.trans hu5; obtain ⟨A5, c5, rfl, _, _, _, _⟩ := own_rd ho5; dsimp only))
        | (have _m := S2; (go_at_call 17; (with_reducible refine (S2.out.cut at_ at_ rfl).mono ?_); rintro e w4 ⟨rfl, hR4, hU4⟩; rw [HP.out] at hR4 ⊢; have S3 := Bx.mk hR4; have hoa4 := UBlk.row hoa3 hU4 (by decide) (by decide); have N4 := UBlk.new hU4 N3 (Nat.le_refl _); dsimp only))
        | (go_at_call 16; (with_reducible refine (hR.out.ticks).mono ?_); rintro e w3 ⟨v3, rfl, hoa3, hu3⟩; rw [HM.out] at hoa3; have S2 := Bx.mk (hR.out.next hu3); have N3 := hN.trans hu3; obtain ⟨A3, c3, rfl, _, _, _, _⟩ := own_rd hoa3; dsimp only)) | go_values | go_skip | go_guarded | go_step | go_upon | go_back)
      rw [List.drop_zero] at hR6
      have HS := Bx.mk hR6
      have HP2 := hP
      clear S2 S3 S4 S5 hR6 hR4 hR2 hU4 hU6 hu3 hu5 hoa3 hoa4 hoa5 ho5
      go_loopw [61] (fun i wr2 => ∃ (k : Nat), k ≤ m ∧ i = .int .i64 k ∧ New w6 wr2) (fun i _ => m - (intOf i).toNat)
      case atStart => exact ⟨0, Nat.zero_le _, rfl, Upd.refl _ _⟩
      case round =>
        obtain ⟨k, hk, rfl, hNk⟩ := hrel
        by_cases hkm : k < m
        · have hkmi : (k : Int) < (m : Int) := by omega
          have hkx : k < xs.length := by rw [HM.out]; exact hkm
          obtain ⟨gA, cA, hvA, _, _, _, _, hrA⟩ := own_some (own_new hoa6 hNk) (by omega)
          simp only [Value.slice.injEq, true_and] at hvA
          obtain ⟨rfl, rfl⟩ := hvA
          obtain ⟨b, off, hbo, hc⟩ := t32_at (tksU_t32s xs ▸ hrA) k (by simpa using hkx)
          simp only [Option.some.injEq, Addr.mk.injEq, and_true, List.getElem_map] at hbo hc
          obtain ⟨rfl, rfl⟩ := hbo
          have hF := found_drop hup.out at_ k hkx
          have hV := hP.out _ (List.getElem_mem hkx)
          have hLB := lb_iff hup.out at_ k hkx
          rw [HP.out] at hF hLB
          have hC2 : ∀ (hq : p ≤ k), (xs.drop p)[k - p]? = some xs[k] := fun hq => by rw [List.getElem?_drop, show p + (k - p) = k by omega, List.getElem?_eq_getElem hkx]
          generalize xs[k] = x at *
          obtain ⟨tk, xv⟩ := x
          dsimp only at hc hF hV hLB hC2
          rw [Nat.zero_add] at hc
          subst hV
          by_cases hat2 : at_ ≤ tk
          · have hat2i : (at_ : Int) ≤ (tk : Int) := by omega
            have hpk : p ≤ k := Nat.le_of_not_lt fun l => by have := hLB.2 l; omega
            obtain ⟨d, rfl⟩ : ∃ d, k = p + d := ⟨k - p, by omega⟩
            have hC3 := hC2 hpk
            rw [Nat.add_sub_cancel_left] at hC3
            obtain ⟨gB, cB, hvB, _, _, _, _, hrB⟩ := own_some (own_new ho6 hNk) (by omega)
            simp only [Value.slice.injEq, true_and] at hvB
            obtain ⟨rfl, rfl⟩ := hvB
            have hdl : d < (xs.drop p).length := by rw [HQ.out]; omega
            obtain ⟨b2, off2, hbo2, hc2⟩ := t32_at (tksU_t32s (xs.drop p) ▸ hrB) d (by simpa using hdl)
            rw [List.getElem?_eq_getElem hdl] at hC3
            simp only [Option.some.injEq, Addr.mk.injEq, and_true, List.getElem_map, Option.some.inj hC3] at hbo2 hc2
            obtain ⟨rfl, rfl⟩ := hbo2
            rw [Nat.zero_add] at hc2
            have hdq : (d : Int) < (q : Int) := by omega
            have ew : IntKind.i64.wrap (((p + d : Nat) : Int) - (p : Int)) = (d : Int) := by rw [IntKind.wrap_i64]; omega
            have HF := Bx.mk (hF.trans (if_pos hat2))
            clear hF hLB hC2 hC3 hrA hrB
            generalize hX : xor5 tk = X at *
            have hX2 : bits .xor .u32 (tk : Int) 5 = X := hX
            have ew2 : IntKind.i64.wrap ((p : Int) + (d : Int) - (p : Int)) = (d : Int) := by rw [IntKind.wrap_i64]; omega
            have ew3 : IntKind.i64.wrap (d : Int) = (d : Int) := by rw [IntKind.wrap_i64]; omega
            repeat' (first | (go_at_call 18; (with_reducible refine ((HS.out.next hNk).get tk).mono ?_); rintro e w7 ⟨rfl, hN7⟩; rw [HF.out]; (have hc7 := hN7.cell hc (fun q => q)); (have hc8 := hN7.cell hc2 (fun q => q)); rw [show valU (some X) = .int .u32 X from rfl, show (some X).isSome = true from rfl]; dsimp only) | go_values | go_skip | go_guarded | go_step | go_upon | go_back)
            go_roundw
            case rel => exact ⟨p + d + 1, by omega, by go_num, hNk.trans hN7⟩
            case measure => simp [intOf]; omega
          · have hat2i : ¬ (at_ : Int) ≤ (tk : Int) := by omega
            have HF := Bx.mk (hF.trans (if_neg hat2))
            clear hF hLB hC2 hrA
            repeat' (first | (go_at_call 18; (with_reducible refine ((HS.out.next hNk).get tk).mono ?_); rintro e w7 ⟨rfl, hN7⟩; rw [HF.out]; (have hc7 := hN7.cell hc (fun q => q)); rw [show valU none = .int .u32 0 from rfl, show (none : Option Int).isSome = false from rfl]; dsimp only) | go_values | go_skip | go_guarded | go_step | go_upon | go_back)
            go_roundw
            case rel => exact ⟨k + 1, by omega, by go_num, hNk.trans hN7⟩
            case measure => simp [intOf]; omega
        · obtain rfl : k = m := by omega
          repeat' (first | fail | go_values | go_skip | go_guarded | go_step | go_upon | go_back)
          go_ret
          exact ⟨rfl, (N1.trans N6).trans hNk⟩
end Go.Proofs.Ytkcepmalahmkiaa
