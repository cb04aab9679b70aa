/- The law of numbers of a range, read. -/
import Derived.Test.YtdcebkilekdllaaNm5
namespace Go.Proofs.Ytdcebkilekdllaa
open Go.RowKit

theorem refGet_e (A : Option Addr) (nl c : Nat) (R : List Bool) (n : Int) (w : World) (hl : R.length = nl) (hm : nl ≤ 100000000) (hc : nl ≤ c) (hcm : c ≤ maxLen) (hA : A = none → nl = 0) (hx : Rd w A (bools R)) (hn1 : -9223372036854775808 ≤ n) (hn2 : n ≤ 9223372036854775807)
    (V E : Int) (hV : (Bi.getVal R n : Int) = V) (hE : Bi.getErr R n = E) (R' : List Bool) (hR : Bi.getRest R n = R') :
    Calls Try.prog 43 #[.slice A nl c, .int .i64 n] w fun e w' => ∃ A' c', e = .returned (.tuple #[.int .u64 V, .slice A' R'.length c', .int .i64 E]) ∧ New w w' := by
  subst hV; subst hE; subst hR
  exact (refGet_any A nl c R n w hl hm hc hcm hA hx hn1 hn2).mono fun _ _ ⟨A', c', h1, _, _, _, _, h2, _⟩ => ⟨A', c', h1, h2⟩

set_option maxHeartbeats 4000000 in
theorem refGetIn_any (A : Option Addr) (nl c : Nat) (R : List Bool) (lo hi : Int) (w : World) (hl : R.length = nl) (hm : nl ≤ 100000000) (hc : nl ≤ c) (hcm : c ≤ maxLen) (hA : A = none → nl = 0) (hx : Rd w A (bools R)) (h3 : -9223372036854775808 ≤ lo) (h4 : lo ≤ 9223372036854775807) (h5 : -9223372036854775808 ≤ hi) (h6 : hi ≤ 9223372036854775807) :
    Calls Try.prog 28 #[.slice A nl c, .int .i64 lo, .int .i64 hi] w fun e w' => ∃ A' c', e = .returned (.tuple #[.int .i64 (giV R lo hi), .slice A' (giRest R lo hi).length c', .int .i64 (giE R lo hi)]) ∧ New w w' := by
  by_cases hlh : hi < lo
  · have GE := Bx.mk (show giE R lo hi = 1 from if_pos hlh)
    have GV := Bx.mk (show giV R lo hi = 0 from if_neg (by rw [GE.out]; decide))
    have GR := Bx.mk (show giRest R lo hi = R from if_neg (by rw [GE.out]; decide))
    rw [GE.out, GV.out, GR.out, hl]
    clear h3 h4 h5 h6 hm hcm
    go_enter Try.func28, Try.ntmps28
    repeat' (first | fail | go_values | go_skip | go_guarded | go_step | go_upon | go_back)
    go_returns
    exact ⟨_, _, rfl, Upd.refl _ _⟩
  have HE := Bx.mk (show giE R lo hi = if Bi.getErr R (wid lo hi) ≠ 0 then Bi.getErr R (wid lo hi) else if hi - lo < (Bi.getVal R (wid lo hi) : Int) then 5 else 0 from if_neg hlh)
  have HV := Bx.mk (show giV R lo hi = if giE R lo hi = 0 then lo + (Bi.getVal R (wid lo hi) : Int) else 0 from rfl)
  have HR := Bx.mk (show giRest R lo hi = if giE R lo hi = 0 then Bi.getRest R (wid lo hi) else R from rfl)
  have HW := Bx.mk (fun w => refWidth_any lo hi w h3 h4 h5 h6)
  have hw64 := wid_le lo hi
  have ed : IntKind.u64.wrap (IntKind.u64.wrap hi - IntKind.u64.wrap lo) = hi - lo := by
    rw [IntKind.wrap_u64, IntKind.wrap_u64, IntKind.wrap_u64]; omega
  generalize wid lo hi = d at *
  obtain ⟨V, hV⟩ : ∃ V : Nat, Bi.getVal R d = V := ⟨_, rfl⟩
  obtain ⟨E, hE⟩ : ∃ E, Bi.getErr R d = E := ⟨_, rfl⟩
  obtain ⟨R', hR'⟩ : ∃ R', Bi.getRest R d = R' := ⟨_, rfl⟩
  have CG := Bx.mk (refGet_e A nl c R d w hl hm hc hcm hA hx (by omega) (by omega) V E (by rw [hV]) hE R' hR')
  rw [hV, hE] at HE
  rw [hV] at HV
  rw [hR'] at HR
  have HL := Bx.mk hl
  have ev : hi - lo < (V : Int) ∨ IntKind.i64.wrap (IntKind.u64.wrap (IntKind.u64.wrap lo + (V : Int))) = lo + (V : Int) := by
    rw [IntKind.wrap_u64, IntKind.wrap_u64, IntKind.wrap_i64]; omega
  have hge : lo ≤ hi := by omega
  clear hV hE hR' hlh h3 h4 h5 h6 hl hm hcm hA hx hc
  by_cases hE0 : E = 0
  · subst hE0
    by_cases hbig : hi - lo < (V : Int)
    · have GE := Bx.mk (show giE R lo hi = 5 by rw [HE.out, if_neg (by simp), if_pos hbig])
      have GV := Bx.mk (show giV R lo hi = 0 by rw [HV.out, if_neg (by rw [GE.out]; decide)])
      have GR := Bx.mk (show giRest R lo hi = R by rw [HR.out, if_neg (by rw [GE.out]; decide)])
      rw [GE.out, GV.out, GR.out, HL.out]
      clear ev
      go_enter Try.func28, Try.ntmps28
      repeat' (first | (first | (go_at_call 24; (with_reducible refine (HW.out _).mono ?_); rintro e w1 ⟨rfl, rfl⟩; dsimp only) | (go_at_call 43; (with_reducible refine (CG.out).mono ?_); rintro e w2 ⟨A2, c2, rfl, hu2⟩; dsimp only)) | go_values | go_skip | go_guarded | go_step | go_upon | go_back)
      go_returns
      exact ⟨_, _, rfl, hu2⟩
    · have ev2 : IntKind.i64.wrap (IntKind.u64.wrap (IntKind.u64.wrap lo + (V : Int))) = lo + (V : Int) := ev.resolve_left hbig
      have GE := Bx.mk (show giE R lo hi = 0 by rw [HE.out, if_neg (by simp), if_neg hbig])
      have GV := Bx.mk (show giV R lo hi = lo + (V : Int) by rw [HV.out, if_pos GE.out])
      have GR := Bx.mk (show giRest R lo hi = R' by rw [HR.out, if_pos GE.out])
      rw [GE.out, GV.out, GR.out]
      clear ev
      go_enter Try.func28, Try.ntmps28
      repeat' (first | (first | (go_at_call 24; (with_reducible refine (HW.out _).mono ?_); rintro e w1 ⟨rfl, rfl⟩; dsimp only) | (go_at_call 43; (with_reducible refine (CG.out).mono ?_); rintro e w2 ⟨A2, c2, rfl, hu2⟩; dsimp only)) | go_values | go_skip | go_guarded | go_step | go_upon | go_back)
      go_returns
      exact ⟨_, _, rfl, hu2⟩
  · have GE := Bx.mk (show giE R lo hi = E by rw [HE.out, if_pos hE0])
    have GV := Bx.mk (show giV R lo hi = 0 by rw [HV.out, if_neg (by rw [GE.out]; exact hE0)])
    have GR := Bx.mk (show giRest R lo hi = R by rw [HR.out, if_neg (by rw [GE.out]; exact hE0)])
    rw [GE.out, GV.out, GR.out, HL.out]
    clear ev
    go_enter Try.func28, Try.ntmps28
    repeat' (first | (first | (go_at_call 24; (with_reducible refine (HW.out _).mono ?_); rintro e w1 ⟨rfl, rfl⟩; dsimp only) | (go_at_call 43; (with_reducible refine (CG.out).mono ?_); rintro e w2 ⟨A2, c2, rfl, hu2⟩; dsimp only)) | go_values | go_skip | go_guarded | go_step | go_upon | go_back)
    go_returns
    exact ⟨_, _, rfl, hu2⟩

set_option maxHeartbeats 4000000 in
theorem ins_any (A : Option Addr) (n c : Nat) (xs : List (BitVec 8)) (sk : Nat) (lo hi : Int) (w : World) (hl : xs.length = n) (hc : n ≤ c) (hA : A = none → n = 0) (hx : Rd w A (u8s xs)) (hsk : sk < 256) (h3 : -9223372036854775808 ≤ lo) (h4 : lo ≤ 9223372036854775807) (h5 : -9223372036854775808 ≤ hi) (h6 : hi ≤ 9223372036854775807) :
    Calls Try.prog 6 #[.slice A n c, .int .u8 sk, .int .i64 lo, .int .i64 hi] w fun e w' => e = .returned (.bool true) ∧ New w w' := by
  obtain ⟨m, hm⟩ : ∃ m, min n 100 = m := ⟨_, rfl⟩
  have hmin : min (n : Int) 100 = (m : Int) := by omega
  have hm100 : m ≤ 100 := by omega
  have hmni : (m : Int) ≤ (n : Int) := by omega
  have hmc : m ≤ c := by omega
  have hmci : (m : Int) ≤ (c : Int) := by omega
  have hx1 := hx.take m
  rw [← u8s_take] at hx1
  have hl1 : (xs.take m).length = m := by rw [List.length_take]; omega
  generalize xs.take m = P at *
  obtain ⟨k, hk⟩ : ∃ k, min (sk % 64) (8 * m) = k := ⟨_, rfl⟩
  have hmin2 : min ((sk : Int) % 64) (((8 * m : Nat)) : Int) = (k : Int) := by omega
  have hk64 : k ≤ 64 := by omega
  have hk8 : k ≤ 8 * m := by omega
  have hbl : (Bi.bitsOf P).length = 8 * m := by rw [Bi.bitsOf_length, hl1]
  obtain ⟨R, hR⟩ : ∃ R, (Bi.bitsOf P).drop k = R := ⟨_, rfl⟩
  have hRl : R.length = 8 * m - k := by rw [← hR, List.length_drop, hbl]
  have hG : Bi.getErr (Bi.bitsOf P) k = 0 := by rw [Bi.getErr, if_neg (by omega), if_neg (by omega)]
  have hGR : Bi.getRest (Bi.bitsOf P) k = R := by rw [Bi.getRest, if_pos hG]; simpa using hR
  have HL := Bx.mk hl1
  have BG := Bx.mk hG
  have BGR := Bx.mk hGR
  have BRl := Bx.mk hRl
  have BR := Bx.mk hR
  have BPl := Bx.mk (show P.length ≤ 1000000 by omega)
  have CI := Bx.mk (fun {w : World} {g a : Nat} {v : Value} (h : IsR w g v P a) (hR : (Bi.bitsOf P).drop a = R) (ha : a ≤ 8 * P.length) => GetIn_any h R hR ha BPl.out lo hi h3 h4 h5 h6)
  have CR := Bx.mk (fun (A' : Option Addr) c' w (hc' : 8 * m - k ≤ c') hcm' hA' hx' => refGetIn_any A' (8 * m - k) c' R lo hi w BRl.out (by omega) hc' hcm' hA' hx' h3 h4 h5 h6)
  generalize giE R lo hi = E at *
  generalize giV R lo hi = V at *
  obtain ⟨R', hR'⟩ : ∃ R', giRest R lo hi = R' := ⟨_, rfl⟩
  rw [hR'] at CI CR
  clear hl hA hx hl1 hm hk hG hGR hR hRl hR' hbl h3 h4 h5 h6
  go_enter Try.func6, Try.ntmps6
  repeat' (first | (first
    | ((with_reducible refine at_wpList ?_); refine wpList_min rfl _ _ _ _ rfl _ _ _ _ _ hmin rfl rfl ?_) | ((with_reducible refine at_wpList ?_); refine wpList_min rfl _ _ _ _ rfl _ _ _ _ _ hmin2 rfl rfl ?_) | (go_at_call 11; (with_reducible refine (awake_any _).mono ?_); rintro e w1 ⟨rfl, hu1⟩; dsimp only)
    | (go_at_call 25; (with_reducible refine (Read_any A m c P _ HL.out (by omega) (hx1.new hu1)).mono ?_); rintro e w2 ⟨g, v, rfl, hI2, hu2, hg, hv⟩; have hN2 := hu1.trans hu2; dsimp only)
    | (go_at_call 26; (with_reducible refine (Bits_any A m c P _ HL.out (by omega) (hx1.new hN2)).mono ?_); rintro e w3 ⟨v3, rfl, ho3, hu3⟩; have hI3 := hI2.new hu3; (obtain ⟨A3, c3, rfl, hc3, hm3, hr3, hb3⟩ := own_rd ho3); dsimp only)) | go_values | go_skip | go_guarded | go_step | go_upon | go_back)
  have hg2 := (Array.getElem?_eq_some_iff.1 hI2.obj).1
  have hA3 : A3 = none → 8 * m = 0 := by
    intro h
    subst h
    obtain ⟨_, h | ⟨_, _, _, h, _⟩⟩ := ho3
    · exact h.2
    · cases h
  have hne3 : ∀ a', A3 = some a' → bools (Bi.bitsOf P) ≠ [] → ¬ (fun b => b = g) a'.block := fun a' h _ q => by have h1 := (hb3 a' h).1; have h2 : a'.block = g := q; omega
  have hk8i : (k : Int) ≤ 8 * (m : Int) := by omega
  have hc3i : 8 * (m : Int) ≤ (c3 : Int) := by omega
  have hN3 := hN2.trans hu3
  have hgw : w.heap.size ≤ g := Nat.le_trans hu1.size hg
  have CRd := Bx.mk (show ∀ w', Rd w' A3 (bools (Bi.bitsOf P)) → Rd w' (if c3 = k then A3 else A3.map (·.add k)) (bools R) from fun w' h => by
    have h1 := h.drop k c3 (by rw [show (bools (Bi.bitsOf P)).length = 8 * m by simp [bools, Bi.bitsOf_length, HL.out]]; exact hc3)
    rwa [show (bools (Bi.bitsOf P)).drop k = bools R by rw [← BR.out]; simp [bools, List.map_drop]] at h1)
  have BA3 := Bx.mk hA3
  have BM3 := Bx.mk hm3
  clear hm3 hA3 ho3 hb3 hv hg hu1 hu2 hu3
  by_cases hck : c3 = k
  · have CRd1 := Bx.mk (fun w' h => by have := CRd.out w' h; rwa [if_pos hck] at this)
    repeat' (first | (first
      | (go_at_call 27; (with_reducible refine (Get_e hI3 _ k List.drop_zero (Nat.zero_le _) BPl.out (by omega) (by omega) _ 0 rfl BG.out R BGR.out).mono ?_); rintro e w4 ⟨rfl, a4, hI4, hR4, ha4, hU4⟩; have hr4 := CRd1.out _ (hr3.upd hU4 hne3); dsimp only)
      | (go_at_call 28; (with_reducible refine (CR.out A3 _ _ (by omega) (by have := BM3.out; omega) (fun h => by have := BA3.out h; omega) hr4).mono ?_); rintro e w5 ⟨A5, c5, rfl, hu5⟩; have hI5 := hI4.new hu5; dsimp only)
      | (go_at_call 29; (with_reducible refine (CI.out hI5 hR4 ha4).mono ?_); rintro e w6 ⟨rfl, a6, hI6, hR6, ha6, hU6⟩; dsimp only)
      | (go_at_call 30; (with_reducible refine (Left_e hI6 R' hR6 ha6 BPl.out R'.length rfl).mono ?_); rintro e w7 ⟨rfl, hu7⟩; dsimp only)) | go_values | go_skip | go_guarded | go_step | go_upon | go_back)
    go_ret
    exact ⟨rfl, (((hN3.then hU4 (fun b hb => .inr (by have h1 : b = g := hb; omega))).trans hu5).then hU6 (fun b hb => .inr (by have h1 : b = g := hb; omega))).trans hu7⟩
  · have CRd1 := Bx.mk (fun w' h => by have := CRd.out w' h; rwa [if_neg hck] at this)
    repeat' (first | (first
      | (go_at_call 27; (with_reducible refine (Get_e hI3 _ k List.drop_zero (Nat.zero_le _) BPl.out (by omega) (by omega) _ 0 rfl BG.out R BGR.out).mono ?_); rintro e w4 ⟨rfl, a4, hI4, hR4, ha4, hU4⟩; have hr4 := CRd1.out _ (hr3.upd hU4 hne3); dsimp only)
      | (go_at_call 28; (with_reducible refine (CR.out _ _ _ (by omega) (by have := BM3.out; omega) (fun h => by have := BA3.out (Option.map_eq_none_iff.1 h); omega) hr4).mono ?_); rintro e w5 ⟨A5, c5, rfl, hu5⟩; have hI5 := hI4.new hu5; dsimp only)
      | (go_at_call 29; (with_reducible refine (CI.out hI5 hR4 ha4).mono ?_); rintro e w6 ⟨rfl, a6, hI6, hR6, ha6, hU6⟩; dsimp only)
      | (go_at_call 30; (with_reducible refine (Left_e hI6 R' hR6 ha6 BPl.out R'.length rfl).mono ?_); rintro e w7 ⟨rfl, hu7⟩; dsimp only)) | go_values | go_skip | go_guarded | go_step | go_upon | go_back)
    go_ret
    exact ⟨rfl, (((hN3.then hU4 (fun b hb => .inr (by have h1 : b = g := hb; omega))).trans hu5).then hU6 (fun b hb => .inr (by have h1 : b = g := hb; omega))).trans hu7⟩
end Go.Proofs.Ytdcebkilekdllaa
