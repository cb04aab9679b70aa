/- The walks of the reader's End, and of the reference's reader. -/
import Derived.Test.YtpfdbkfjjjiamaaBi5
import Derived.Deep.RegionWith
namespace Go.Proofs.Ytpfdbkfjjjiamaa
open Go.RowKit

set_option maxHeartbeats 1000000 in
theorem End_any {w : World} {g a : Nat} {v : Value} {P : List (BitVec 8)} (h : IsR w g v P a) (R : List Bool) (hR : (Bi.bitsOf P).drop a = R) (ha : a ≤ 8 * P.length) (hm : P.length ≤ 1000000) :
    Calls Try.prog 27 #[.pointer (some ⟨g, 0, none⟩)] w fun e w' => e = .returned (.int .i64 (Bi.endErr R)) ∧ New w w' := by
  have hlR : R.length + a = 8 * P.length := by rw [← hR, List.length_drop, Bi.bitsOf_length]; omega
  by_cases h8 : 8 ≤ R.length
  · have HE := Bx.mk (show Bi.endErr R = 4 from if_pos h8)
    rw [HE.out]
    go_enter Try.func27, Try.ntmps27
    go_wp2_with (go_at_call 19; (with_reducible refine (Left_any h P.length R.length rfl (by omega) hm).mono ?_); rintro e w1 ⟨rfl, hu1⟩; dsimp only)
    go_ret
    exact ⟨rfl, hu1⟩
  by_cases h0 : R.length = 0
  · have HE := Bx.mk (show Bi.endErr R = 0 by rw [Bi.endErr, if_neg h8, List.eq_nil_of_length_eq_zero h0]; rfl)
    rw [HE.out]
    go_enter Try.func27, Try.ntmps27
    go_wp2_with (go_at_call 19; (with_reducible refine (Left_any h P.length 0 rfl (by omega) hm).mono ?_); rintro e w1 ⟨rfl, hu1⟩; dsimp only)
    have hI := h.new hu1
    have hL := fun x : After w1 => Left_any (hI.new x.h) P.length 0 rfl (by omega) hm
    (refine wp_region_calm (by kernel_rfl) (by kernel_rfl) ?_; (repeat (go_big_quiet_step ((first | (go_at_call 19; refine Calls.calm (hL _)))))); refine wpQuiet_nil ?_; intro wq hq)
    go_wp2
    go_ret
    exact ⟨rfl, hu1.trans hq⟩
  have HE := Bx.mk (show Bi.endErr R = if ¬ (P.getD (P.length - 1) 0#8).toNat / 2 ^ (a % 8) = 0 then 4 else 0 by
    rw [Bi.endErr, if_neg h8, ← hR, last_bits P a R.length (by omega) (by omega) (by omega)]; simp)
  have hP : 0 < P.length := by omega
  have ha8 : (a : Int) % 8 = ((a % 8 : Nat) : Int) := by omega
  have ha8' : (a : Int).tmod 8 = ((a % 8 : Nat) : Int) := by rw [Int.tmod_eq_emod_of_nonneg (by omega)]; omega
  have hr8 : a % 8 < 8 := by omega
  have hlf : 0 < R.length := by omega
  obtain ⟨l1, hl1⟩ : ∃ l1, P.length = l1 + 1 := ⟨P.length - 1, by omega⟩
  have hw : IntKind.i64.wrap ((P.length : Int) - 1) = (l1 : Int) := by rw [IntKind.wrap_i64]; omega
  have hlt : (l1 : Int) < (P.length : Int) := by omega
  rw [show P.length - 1 = l1 by omega] at HE
  obtain ⟨gr, c, rfl, hg, hcell, _, _⟩ := own_u8 h.row l1 (by omega)
  have HL := Bx.mk (Nat.add_comm 0 0)
  generalize P.getD l1 0#8 = y at *
  generalize a % 8 = r at *
  generalize R.length = lf at *
  have hd : ∀ e : Int, e = (lf : Int) → (decide (0 < e)) = true := by intro e he; rw [he]; exact decide_eq_true (by omega)
  have hd' : (decide ((0 : Int) < (lf : Int))) = true := decide_eq_true (by omega)
  have hz2 : ((y.toNat : Int) / 2 ^ r) = ((y.toNat / 2 ^ r : Nat) : Int) := by rw [Int.natCast_ediv, Int.natCast_pow]; rfl
  by_cases hz : y.toNat / 2 ^ r = 0
  · rw [if_neg (by simpa using hz)] at HE
    rw [HE.out]
    have hz' : ((y.toNat : Int) / 2 ^ r) = 0 := by rw [hz2, hz]; rfl
    clear hz2 hz
    go_enter Try.func27, Try.ntmps27
    go_wp2_with (go_at_call 19; (with_reducible refine (Left_any h P.length lf rfl (by omega) hm).mono ?_); rintro e w1 ⟨rfl, hu1⟩; dsimp only)
    have hI := h.new hu1
    have hL := fun x : After w1 => Left_any (hI.new x.h) P.length lf rfl (by omega) hm
    have hx0 := fun x : After w1 => (hI.new x.h).c0
    have hx1 := fun x : After w1 => (hI.new x.h).c1
    have hxe := fun x : After w1 => x.h.cell (hu1.cell hcell (fun q => q)) (fun q => q)
    (refine wp_region_calm (by kernel_rfl) (by kernel_rfl) ?_; (repeat (go_big_quiet_step ((first | (go_at_call 19; refine Calls.calm (hL _)))))); refine wpQuiet_nil ?_; intro wq hq)
    go_wp2
    go_ret
    exact ⟨rfl, hu1.trans hq⟩
  · rw [if_pos (by simpa using hz)] at HE
    rw [HE.out]
    have hz' : ¬ ((y.toNat : Int) / 2 ^ r) = 0 := by rw [hz2]; omega
    clear hz2 hz
    go_enter Try.func27, Try.ntmps27
    go_wp2_with (go_at_call 19; (with_reducible refine (Left_any h P.length lf rfl (by omega) hm).mono ?_); rintro e w1 ⟨rfl, hu1⟩; dsimp only)
    have hI := h.new hu1
    have hL := fun x : After w1 => Left_any (hI.new x.h) P.length lf rfl (by omega) hm
    have hx0 := fun x : After w1 => (hI.new x.h).c0
    have hx1 := fun x : After w1 => (hI.new x.h).c1
    have hxe := fun x : After w1 => x.h.cell (hu1.cell hcell (fun q => q)) (fun q => q)
    (refine wp_region_calm (by kernel_rfl) (by kernel_rfl) ?_; (repeat (go_big_quiet_step ((first | (go_at_call 19; refine Calls.calm (hL _)))))); refine wpQuiet_nil ?_; intro wq hq)
    go_wp2
    go_ret
    exact ⟨rfl, hu1.trans hq⟩
end Go.Proofs.Ytpfdbkfjjjiamaa
