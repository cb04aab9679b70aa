/- The law of numbers of a range, read. -/
import Derived.Test.YtpfdbkfjjjiamaaNm5
namespace Go.Proofs.Ytpfdbkfjjjiamaa
open Go.RowKit

theorem refGet_e (A : Option Addr) (nl c : Nat) (R : List Bool) (n : Int) (w : World) (hl : R.length = nl) (hm : nl ≤ 100000000) (hc : nl ≤ c) (hcm : c ≤ maxLen) (hA : A = none → nl = 0) (hx : Rd w A (bools R)) (hn1 : -9223372036854775808 ≤ n) (hn2 : n ≤ 9223372036854775807)
    (V E : Int) (hV : (Bi.getVal R n : Int) = V) (hE : Bi.getErr R n = E) (R' : List Bool) (hR : Bi.getRest R n = R') :
    Calls Try.prog 55 #[.slice A nl c, .int .i64 n] w fun e w' => ∃ A' c', e = .returned (.tuple #[.int .u64 V, .slice A' R'.length c', .int .i64 E]) ∧ New w w' := by
  subst hV; subst hE; subst hR
  exact (refGet_any A nl c R n w hl hm hc hcm hA hx hn1 hn2).mono fun _ _ ⟨A', c', h1, _, _, _, _, h2, _⟩ => ⟨A', c', h1, h2⟩

set_option maxHeartbeats 4000000 in
theorem refGetIn_any (A : Option Addr) (nl c : Nat) (R : List Bool) (lo hi : Int) (w : World) (hl : R.length = nl) (hm : nl ≤ 100000000) (hc : nl ≤ c) (hcm : c ≤ maxLen) (hA : A = none → nl = 0) (hx : Rd w A (bools R)) (h3 : -9223372036854775808 ≤ lo) (h4 : lo ≤ 9223372036854775807) (h5 : -9223372036854775808 ≤ hi) (h6 : hi ≤ 9223372036854775807) :
    Calls Try.prog 39 #[.slice A nl c, .int .i64 lo, .int .i64 hi] w fun e w' => ∃ A' c', e = .returned (.tuple #[.int .i64 (giV R lo hi), .slice A' (giRest R lo hi).length c', .int .i64 (giE R lo hi)]) ∧ New w w' := by
  by_cases hlh : hi < lo
  · have GE := Bx.mk (show giE R lo hi = 1 from if_pos hlh)
    have GV := Bx.mk (show giV R lo hi = 0 from if_neg (by rw [GE.out]; decide))
    have GR := Bx.mk (show giRest R lo hi = R from if_neg (by rw [GE.out]; decide))
    rw [GE.out, GV.out, GR.out, hl]
    clear h3 h4 h5 h6 hm hcm
    go_enter Try.func39, Try.ntmps39
    repeat' (first | fail | go_values | go_skip | go_guarded | go_step | go_upon | go_back)
    go_returns
    exact ⟨_, _, rfl, Upd.refl _ _⟩
  have HE := Bx.mk (show giE R lo hi = if Bi.getErr R (wid lo hi) ≠ 0 then Bi.getErr R (wid lo hi) else if hi - lo < (Bi.getVal R (wid lo hi) : Int) then 5 else 0 from if_neg hlh)
  have HV := Bx.mk (show giV R lo hi = if giE R lo hi = 0 then lo + (Bi.getVal R (wid lo hi) : Int) else 0 from rfl)
  have HR := Bx.mk (show giRest R lo hi = if giE R lo hi = 0 then Bi.getRest R (wid lo hi) else R from rfl)
  have HW := Bx.mk (fun w => refWidth_any lo hi w h3 h4 h5 h6)
  have hw64 := wid_le lo hi
  have ed : IntKind.u64.wrap (IntKind.u64.wrap hi - IntKind.u64.wrap lo) = hi - lo := by
    rw [IntKind.wrap_u64, IntKind.wrap_u64, IntKind.wrap_u64]; omega
  generalize wid lo hi = d at *
  obtain ⟨V, hV⟩ : ∃ V : Nat, Bi.getVal R d = V := ⟨_, rfl⟩
  obtain ⟨E, hE⟩ : ∃ E, Bi.getErr R d = E := ⟨_, rfl⟩
  obtain ⟨R', hR'⟩ : ∃ R', Bi.getRest R d = R' := ⟨_, rfl⟩
  have CG := Bx.mk (refGet_e A nl c R d w hl hm hc hcm hA hx (by omega) (by omega) V E (by rw [hV]) hE R' hR')
  rw [hV, hE] at HE
  rw [hV] at HV
  rw [hR'] at HR
  have HL := Bx.mk hl
  have ev : hi - lo < (V : Int) ∨ IntKind.i64.wrap (IntKind.u64.wrap (IntKind.u64.wrap lo + (V : Int))) = lo + (V : Int) := by
    rw [IntKind.wrap_u64, IntKind.wrap_u64, IntKind.wrap_i64]; omega
  have hge : lo ≤ hi := by omega
  clear hV hE hR' hlh h3 h4 h5 h6 hl hm hcm hA hx hc
  by_cases hE0 : E = 0
  · subst hE0
    by_cases hbig : hi - lo < (V : Int)
    · have GE := Bx.mk (show giE R lo hi = 5 by rw [HE.out, if_neg (by simp), if_pos hbig])
      have GV := Bx.mk (show giV R lo hi = 0 by rw [HV.out, if_neg (by rw [GE.out]; decide)])
      have GR := Bx.mk (show giRest R lo hi = R by rw [HR.out, if_neg (by rw [GE.out]; decide)])
      rw [GE.out, GV.out, GR.out, HL.out]
      clear ev
      go_enter Try.func39, Try.ntmps39
      repeat' (first | (first | (go_at_call 56; (with_reducible refine (HW.out _).mono ?_); rintro e w1 ⟨rfl, rfl⟩; dsimp only) | (go_at_call 55; (with_reducible refine (CG.out).mono ?_); rintro e w2 ⟨A2, c2, rfl, hu2⟩; dsimp only)) | go_values | go_skip | go_guarded | go_step | go_upon | go_back)
      go_returns
      exact ⟨_, _, rfl, hu2⟩
    · have ev2 : IntKind.i64.wrap (IntKind.u64.wrap (IntKind.u64.wrap lo + (V : Int))) = lo + (V : Int) := ev.resolve_left hbig
      have GE := Bx.mk (show giE R lo hi = 0 by rw [HE.out, if_neg (by simp), if_neg hbig])
      have GV := Bx.mk (show giV R lo hi = lo + (V : Int) by rw [HV.out, if_pos GE.out])
      have GR := Bx.mk (show giRest R lo hi = R' by rw [HR.out, if_pos GE.out])
      rw [GE.out, GV.out, GR.out]
      clear ev
      go_enter Try.func39, Try.ntmps39
      repeat' (first | (first | (go_at_call 56; (with_reducible refine (HW.out _).mono ?_); rintro e w1 ⟨rfl, rfl⟩; dsimp only) | (go_at_call 55; (with_reducible refine (CG.out).mono ?_); rintro e w2 ⟨A2, c2, rfl, hu2⟩; dsimp only)) | go_values | go_skip | go_guarded | go_step | go_upon | go_back)
      go_returns
      exact ⟨_, _, rfl, hu2⟩
  · have GE := Bx.mk (show giE R lo hi = E by rw [HE.out, if_pos hE0])
    have GV := Bx.mk (show giV R lo hi = 0 by rw [HV.out, if_neg (by rw [GE.out]; exact hE0)])
    have GR := Bx.mk (show giRest R lo hi = R by rw [HR.out, if_neg (by rw [GE.out]; exact hE0)])
    rw [GE.out, GV.out, GR.out, HL.out]
    clear ev
    go_enter Try.func39, Try.ntmps39
    repeat' (first | (first | (go_at_call 56; (with_reducible refine (HW.out _).mono ?_); rintro e w1 ⟨rfl, rfl⟩; dsimp only) | (go_at_call 55; (with_reducible refine (CG.out).mono ?_); rintro e w2 ⟨A2, c2, rfl, hu2⟩; dsimp only)) | go_values | go_skip | go_guarded | go_step | go_upon | go_back)
    go_returns
    exact ⟨_, _, rfl, hu2⟩

end Go.Proofs.Ytpfdbkfjjjiamaa
