/- The walk of the reference's GetVar. -/
import Derived.Test.YtdcebkilekdllaaNm10
namespace Go.Proofs.Ytdcebkilekdllaa
open Go.RowKit

/-- group i's four bits; the number of the groups below n -/
def gr (L : List Bool) (i : Nat) : Nat := Bi.numOf ((L.drop (5 * i)).take 4)
def grTo (L : List Bool) : Nat → Nat
  | 0 => 0
  | n + 1 => grTo L n + gr L n * 2 ^ (4 * n)
theorem gr_lt (L : List Bool) (i : Nat) : gr L i < 16 := by
  have h1 := Bi.numOf_lt ((L.drop (5 * i)).take 4)
  have h2 : ((L.drop (5 * i)).take 4).length ≤ 4 := by rw [List.length_take]; omega
  exact Nat.lt_of_lt_of_le h1 (Nat.pow_le_pow_right (by omega) h2)
theorem grTo_lt (L : List Bool) (n : Nat) : grTo L n < 2 ^ (4 * n) := by
  induction n with
  | zero => simp [grTo]
  | succ n ih =>
    have h := gr_lt L n
    have h2 : gr L n * 2 ^ (4 * n) ≤ 15 * 2 ^ (4 * n) := Nat.mul_le_mul_right _ (by omega)
    rw [grTo, show 4 * (n + 1) = 4 * n + 4 by omega, Nat.pow_add]
    omega
theorem five_split (L : List Bool) (i : Nat) (h : 5 * i + 5 ≤ L.length) : Bi.numOf ((L.drop (5 * i)).take 5) = gr L i + (L[5 * i + 4]'(by omega)).toNat * 16 := by
  have hl : (L.drop (5 * i)).length = L.length - 5 * i := List.length_drop
  have e : (L.drop (5 * i)).take 5 = (L.drop (5 * i)).take 4 ++ [L[5 * i + 4]'(by omega)] := by
    rw [List.take_succ_eq_append_getElem (by omega)]
    simp
  rw [e, Bi.numOf_snoc, List.length_take, hl, Nat.min_eq_left (by omega)]
  rfl
theorem gv_more (L : List Bool) (n f V : Nat) (h : 5 * n + 5 ≤ L.length) (hb : L[5 * n + 4]'(by omega) = true) : gv (f + 1) n V (L.drop (5 * n)) = gv f (n + 1) (V + gr L n * 2 ^ (4 * n)) (L.drop (5 * (n + 1))) := by
  have hg := gr_lt L n
  rw [gv, if_neg (by rw [List.length_drop]; omega), five_split L n h, hb, if_neg (by show ¬ (gr L n + 1 * 16) / 16 = 0; omega), List.drop_drop]
  rw [show (gr L n + true.toNat * 16) % 16 = gr L n by show (gr L n + 1 * 16) % 16 = _; omega]
  rfl
theorem gv_last (L : List Bool) (n f : Nat) (h : 5 * n + 5 ≤ L.length) (hb : L[5 * n + 4]'(by omega) = false) : gv (f + 1) n (grTo L n) (L.drop (5 * n)) = if grp (grTo L (n + 1)) = n + 1 then (0, grTo L (n + 1), L.drop (5 * (n + 1))) else (4, 0, L.drop (5 * n)) := by
  have hg := gr_lt L n
  rw [gv, if_neg (by rw [List.length_drop]; omega), five_split L n h, hb, if_pos (by show (gr L n + 0 * 16) / 16 = 0; omega), List.drop_drop]
  rw [show (gr L n + false.toNat * 16) % 16 = gr L n by show (gr L n + 0 * 16) % 16 = _; omega]
  rfl

theorem refGet_f (A : Option Addr) (nl c : Nat) (R : List Bool) (n : Int) (w : World) (hl : R.length = nl) (hm : nl ≤ 100000000) (hc : nl ≤ c) (hcm : c ≤ maxLen) (hA : A = none → nl = 0) (hx : Rd w A (bools R)) (hn1 : -9223372036854775808 ≤ n) (hn2 : n ≤ 9223372036854775807)
    (V E : Int) (hV : (Bi.getVal R n : Int) = V) (hE : Bi.getErr R n = E) (R' : List Bool) (hR : Bi.getRest R n = R') :
    Calls Try.prog 43 #[.slice A nl c, .int .i64 n] w fun e w' => ∃ A' c', e = .returned (.tuple #[.int .u64 V, .slice A' R'.length c', .int .i64 E]) ∧ New w w' := by
  subst hV; subst hE; subst hR
  exact (refGet_any A nl c R n w hl hm hc hcm hA hx hn1 hn2).mono fun _ _ ⟨A', c', h1, _, _, _, _, h2, _⟩ => ⟨A', c', h1, h2⟩
theorem gv_err (L : List Bool) (e : Int) (r : List Bool) (h : gv 16 0 0 L = (e, 0, r)) (he : ¬ e = 0) : gvV L = 0 ∧ gvE L = e ∧ gvRest L = L := by
  rw [gvV, gvE, gvRest, h]
  exact ⟨if_neg he, rfl, if_neg he⟩
theorem gv_good (L : List Bool) (v : Nat) (r : List Bool) (h : gv 16 0 0 L = (0, v, r)) : gvV L = v ∧ gvE L = 0 ∧ gvRest L = r := by
  rw [gvV, gvE, gvRest, h]
  exact ⟨rfl, rfl, rfl⟩

set_option maxHeartbeats 4000000 in
theorem refGetVar_any (A : Option Addr) (nl c : Nat) (L : List Bool) (w : World) (hl : L.length = nl) (hm : nl ≤ 100000000) (hc : nl ≤ c) (hcm : c ≤ maxLen) (hA : A = none → nl = 0) (hx : Rd w A (bools L)) :
    Calls Try.prog 31 #[.slice A nl c] w fun e w' => ∃ A' c', e = .returned (.tuple #[.int .u64 (gvV L), .slice A' (gvRest L).length c', .int .i64 (gvE L)]) ∧ New w w' := by
  have HL := Bx.mk hl
  have BM := Bx.mk hm
  have BC := Bx.mk hcm
  have BA := Bx.mk hA
  have BX := Bx.mk hx
  have hci : (nl : Int) ≤ (c : Int) := by omega
  clear hm hcm hA hx hl
  go_enter Try.func31, Try.ntmps31
  repeat' (first | fail | go_values | go_skip | go_guarded | go_step | go_upon | go_back)
  go_loopw [5] (fun i wr => ∃ n : Nat, n < 16 ∧ i = .int .i64 n ∧ 5 * n ≤ nl ∧ Bx (gv 16 0 0 L = gv (16 - n) n (grTo L n) (L.drop (5 * n))) ∧ New w wr) (fun i _ => 16 - (intOf i).toNat)
  case atStart => exact ⟨0, by omega, rfl, by omega, ⟨rfl⟩, Upd.refl _ _⟩
  case round =>
    obtain ⟨n, hn16, rfl, hnl, HG, hN⟩ := hrel
    by_cases hs : nl < 5 * n + 5
    · have HE := Bx.mk (show gv 16 0 0 L = (2, 0, L.drop (5 * n)) by rw [HG.out, show 16 - n = (15 - n) + 1 by omega, gv, if_pos (by rw [List.length_drop, HL.out]; omega)])
      have hsi : (nl : Int) < 5 * (n : Int) + 5 := by omega
      repeat' (first | fail | go_values | go_skip | go_guarded | go_step | go_upon | go_back)
      go_returns
      obtain ⟨e1, e2, e3⟩ := gv_err L _ _ HE.out (by decide)
      rw [e1, e2, e3, HL.out]
      exact ⟨A, c, rfl, hN⟩
    · have h5 : 5 * n + 5 ≤ nl := by omega
      have hsi : ¬ (nl : Int) < 5 * (n : Int) + 5 := by omega
      obtain ⟨b0, off, rfl, hcell⟩ := bools_at (BX.out.new hN) (5 * n + 4) (by rw [HL.out]; omega)
      have GM := Bx.mk (fun f V => gv_more L n f V (by rw [HL.out]; omega))
      have GL := Bx.mk (fun f => gv_last L n f (by rw [HL.out]; omega))
      have hix : (5 * ((n : Int) + 1) - 1) = ((5 * n + 4 : Nat) : Int) := by omega
      generalize L[5 * n + 4]'(by rw [HL.out]; omega) = b at hcell GM GL
      cases b
      · have GX := Bx.mk (show gv 16 0 0 L = if grp (grTo L (n + 1)) = n + 1 then (0, grTo L (n + 1), L.drop (5 * (n + 1))) else (4, 0, L.drop (5 * n)) by rw [HG.out, show 16 - n = (15 - n) + 1 by omega]; exact GL.out _ rfl)
        by_cases h15 : n = 15
        · subst h15
          have hGl := grTo_lt L (16)
          have hG64 : Bx (grTo L (16) < 18446744073709551616) := ⟨Nat.lt_of_lt_of_le hGl (Nat.le_trans (Nat.pow_le_pow_right (by omega) (show 4 * (16) ≤ 64 by omega)) (by decide))⟩
          clear hGl
          repeat' (first | fail | go_values | go_skip | go_guarded | go_step | go_upon | go_back)
          go_loopw [6, 7] (fun v i wr => ∃ (j V : Nat) (i0 : Int), j ≤ 16 ∧ i = .int .i64 i0 ∧ i0 = (j : Int) - 1 ∧ v = .int .u64 V ∧ Bx (V * 2 ^ (4 * j) + grTo L j = grTo L (16)) ∧ New w wr) (fun _ i _ => (intOf i + 1).toNat)
          case atStart => exact ⟨16, 0, _, Nat.le_refl _, rfl, by omega, rfl, ⟨by simp⟩, hN⟩
          case round =>
            obtain ⟨j, V, i0, hj, rfl, hi0, rfl, HV, hN⟩ := hrel
            rcases j with _ | j
            · obtain rfl : i0 = -1 := by omega
              obtain rfl : V = grTo L (16) := by have := HV.out; simpa [grTo] using this
              have CV := Bx.mk (refVar_any (grTo L (16)) wr hG64.out)
              have BGX := Bx.mk GX.out
              clear hG64 hi0
              generalize grTo L (16) = V at *
              by_cases hg : grp V = 16
              · have HE := Bx.mk (show gv 16 0 0 L = (0, V, L.drop (5 * (16))) by rw [BGX.out, if_pos hg])
                rw [hg] at CV
                have hlo : (5 * ((16 : Nat) : Int)) ≤ (nl : Int) := by omega
                have hmax : (nl : Int) ≤ (c : Int) := by omega
                repeat' (first | (first | (go_at_call 36; go_loud ((with_reducible refine (CV.out).mono ?_); rintro e w2 ⟨v2, rfl, ho2, hu2⟩; (obtain ⟨A2, c2, rfl, _⟩ := own_rd ho2); dsimp only))) | go_values | go_skip | go_guarded | go_step | go_upon | go_back)
                have hN2 := hN.trans hu2
                by_cases hcN : c = 5 * (16)
                · go_quiet (fail)
                  go_wp2
                  go_returns
                  obtain ⟨e1, e2, e3⟩ := gv_good L _ _ HE.out
                  rw [e1, e2, e3, List.length_drop, HL.out]
                  exact ⟨⟨_, _, rfl⟩, hN2.drewN _⟩
                · go_quiet (fail)
                  go_wp2
                  go_returns
                  obtain ⟨e1, e2, e3⟩ := gv_good L _ _ HE.out
                  rw [e1, e2, e3, List.length_drop, HL.out]
                  exact ⟨⟨_, _, rfl⟩, hN2.drewN _⟩
              · have HE := Bx.mk (show gv 16 0 0 L = (4, 0, L.drop (5 * 15)) by rw [BGX.out, if_neg hg])
                have hgi : ¬ (5 * grp V = 5 * (16)) := by omega
                have hgj : ¬ (((5 * grp V : Nat) : Int) = 5 * ((16 : Nat) : Int)) := by omega
                repeat' (first | (first | (go_at_call 36; go_loud ((with_reducible refine (CV.out).mono ?_); rintro e w2 ⟨v2, rfl, ho2, hu2⟩; (obtain ⟨A2, c2, rfl, _⟩ := own_rd ho2); dsimp only))) | go_values | go_skip | go_guarded | go_step | go_upon | go_back)
                go_returns
                obtain ⟨e1, e2, e3⟩ := gv_err L _ _ HE.out (by decide)
                rw [e1, e2, e3, HL.out]
                exact ⟨_, _, rfl, hN.trans hu2⟩
            · obtain rfl : i0 = (j : Int) := by omega
              clear hi0
              have hlo : 5 * (j : Int) ≤ (nl : Int) := by omega
              have hmax : (nl : Int) ≤ (c : Int) := by omega
              have hRl : (L.drop (5 * j)).length = nl - 5 * j := by rw [List.length_drop, HL.out]
              have hGj := gr_lt L j
              have CX := Bx.mk (show grTo L (j + 1) = grTo L j + gr L j * 2 ^ (4 * j) from rfl)
              have BR := Bx.mk hRl
              have BCl := Bx.mk (show nl - 5 * j ≤ c - 5 * j by omega)
              have E4 := Bx.mk (show Bi.getErr (L.drop (5 * j)) 4 = 0 by rw [Bi.getErr, if_neg (by omega), if_neg (by rw [hRl]; omega)])
              have V4 := Bx.mk (show (Bi.getVal (L.drop (5 * j)) 4 : Int) = (gr L j : Nat) by rw [Bi.getVal, if_pos E4.out]; rfl)
              have CRd := Bx.mk (show ∀ w', Rd w' (some ⟨b0, off, none⟩) (bools L) → Rd w' (if c = 5 * j then some ⟨b0, off, none⟩ else (some ⟨b0, off, none⟩ : Option Addr).map (·.add (5 * j))) (bools (L.drop (5 * j))) from fun w' h => by
                have h1 := h.drop (5 * j) c (by rw [show (bools L).length = nl by simp [bools, HL.out]]; omega)
                rwa [show (bools L).drop (5 * j) = bools (L.drop (5 * j)) by simp [bools, List.map_drop]] at h1)
              have hx5 := BX.out.new hN
              have BV2 := Bx.mk (show (16 * V + gr L j) * 2 ^ (4 * j) + grTo L j = grTo L (16) by
                rw [← HV.out, CX.out, show 4 * (j + 1) = 4 * j + 4 by omega, Nat.pow_add, Nat.add_mul]
                have : 16 * V * 2 ^ (4 * j) = V * (2 ^ (4 * j) * 2 ^ 4) := by rw [Nat.mul_comm 16 V, Nat.mul_assoc, Nat.mul_comm 16]
                omega)
              have hVn : 16 * V + gr L j < 18446744073709551616 := by
                have h1 := BV2.out
                have h2 := hG64.out
                have h3 : 16 * V + gr L j ≤ (16 * V + gr L j) * 2 ^ (4 * j) := Nat.le_mul_of_pos_right _ (Nat.pow_pos (by omega))
                omega
              have hwr1 : IntKind.u64.wrap (16 * (V : Int)) = 16 * (V : Int) := by rw [IntKind.wrap_u64]; omega
              have hwr2 : IntKind.u64.wrap (16 * (V : Int) + (gr L j : Nat)) = ((16 * V + gr L j : Nat) : Int) := by rw [IntKind.wrap_u64]; omega
              clear hGj hVn
              generalize gr L j = G at *
              have hcl2 := Bx.mk (show nl - 5 * j ≤ 100000000 by have := BM.out; omega)
              obtain ⟨q, hq⟩ : ∃ q, 5 * j = q := ⟨_, rfl⟩
              have hq5 : 5 * (j : Int) = (q : Int) := by omega
              rw [hq] at BR BCl E4 V4 CRd hcl2 hRl
              have hloq : (q : Int) ≤ (nl : Int) := by omega
              have hck : ¬ c = q := by omega
              clear hlo hRl hq
              have hr : Rd wr (some ⟨b0, off + q, none⟩) (bools (L.drop q)) := by have h1 := CRd.out _ hx5; simp only [if_neg hck, Addr.add, Option.map_some] at h1; (rcases Nat.eq_zero_or_pos q with h | h); (subst h; simpa using h1); (simpa [show ¬ q = 0 by omega] using h1)
              repeat' (first | (first | (go_at_call 43; go_loud ((with_reducible refine (refGet_f _ (nl - q) (c - q) _ 4 _ BR.out hcl2.out (by omega) (by have := BC.out; omega) (fun h => by cases h) hr (by decide) (by decide) _ 0 V4.out E4.out _ rfl).mono ?_); rintro e w2 ⟨A2, c2, rfl, hu2⟩; dsimp only))) | go_values | go_skip | go_guarded | go_step | go_upon | go_back)
              go_roundw
              case rel => exact ⟨j, 16 * V + G, _, by omega, rfl, by go_num, by congr 1, BV2, hN.trans hu2⟩
              case measure => simp [intOf]
        · have h15i : ¬ (n : Int) + 1 = 16 := by omega
          have hGl := grTo_lt L (n + 1)
          have hG64 : Bx (grTo L (n + 1) < 18446744073709551616) := ⟨Nat.lt_of_lt_of_le hGl (Nat.le_trans (Nat.pow_le_pow_right (by omega) (show 4 * (n + 1) ≤ 64 by omega)) (by decide))⟩
          clear hGl
          repeat' (first | fail | go_values | go_skip | go_guarded | go_step | go_upon | go_back)
          go_loopw [6, 7] (fun v i wr => ∃ (j V : Nat) (i0 : Int), j ≤ n + 1 ∧ i = .int .i64 i0 ∧ i0 = (j : Int) - 1 ∧ v = .int .u64 V ∧ Bx (V * 2 ^ (4 * j) + grTo L j = grTo L (n + 1)) ∧ New w wr) (fun _ i _ => (intOf i + 1).toNat)
          case atStart => exact ⟨n + 1, 0, _, Nat.le_refl _, rfl, by omega, rfl, ⟨by simp⟩, hN⟩
          case round =>
            obtain ⟨j, V, i0, hj, rfl, hi0, rfl, HV, hN⟩ := hrel
            rcases j with _ | j
            · obtain rfl : i0 = -1 := by omega
              obtain rfl : V = grTo L (n + 1) := by have := HV.out; simpa [grTo] using this
              have CV := Bx.mk (refVar_any (grTo L (n + 1)) wr hG64.out)
              have BGX := Bx.mk GX.out
              clear hG64 hi0
              generalize grTo L (n + 1) = V at *
              by_cases hg : grp V = n + 1
              · have HE := Bx.mk (show gv 16 0 0 L = (0, V, L.drop (5 * (n + 1))) by rw [BGX.out, if_pos hg])
                rw [hg] at CV
                have hlo : (5 * ((n + 1 : Nat) : Int)) ≤ (nl : Int) := by omega
                have hmax : (nl : Int) ≤ (c : Int) := by omega
                repeat' (first | (first | (go_at_call 36; go_loud ((with_reducible refine (CV.out).mono ?_); rintro e w2 ⟨v2, rfl, ho2, hu2⟩; (obtain ⟨A2, c2, rfl, _⟩ := own_rd ho2); dsimp only))) | go_values | go_skip | go_guarded | go_step | go_upon | go_back)
                have hN2 := hN.trans hu2
                by_cases hcN : c = 5 * (n + 1)
                · go_quiet (fail)
                  go_wp2
                  go_returns
                  obtain ⟨e1, e2, e3⟩ := gv_good L _ _ HE.out
                  rw [e1, e2, e3, List.length_drop, HL.out]
                  exact ⟨⟨_, _, rfl⟩, hN2.drewN _⟩
                · go_quiet (fail)
                  go_wp2
                  go_returns
                  obtain ⟨e1, e2, e3⟩ := gv_good L _ _ HE.out
                  rw [e1, e2, e3, List.length_drop, HL.out]
                  exact ⟨⟨_, _, rfl⟩, hN2.drewN _⟩
              · have HE := Bx.mk (show gv 16 0 0 L = (4, 0, L.drop (5 * n)) by rw [BGX.out, if_neg hg])
                have hgi : ¬ (5 * grp V = 5 * (n + 1)) := by omega
                have hgj : ¬ (((5 * grp V : Nat) : Int) = 5 * ((n + 1 : Nat) : Int)) := by omega
                repeat' (first | (first | (go_at_call 36; go_loud ((with_reducible refine (CV.out).mono ?_); rintro e w2 ⟨v2, rfl, ho2, hu2⟩; (obtain ⟨A2, c2, rfl, _⟩ := own_rd ho2); dsimp only))) | go_values | go_skip | go_guarded | go_step | go_upon | go_back)
                go_returns
                obtain ⟨e1, e2, e3⟩ := gv_err L _ _ HE.out (by decide)
                rw [e1, e2, e3, HL.out]
                exact ⟨_, _, rfl, hN.trans hu2⟩
            · obtain rfl : i0 = (j : Int) := by omega
              clear hi0
              have hlo : 5 * (j : Int) ≤ (nl : Int) := by omega
              have hmax : (nl : Int) ≤ (c : Int) := by omega
              have hRl : (L.drop (5 * j)).length = nl - 5 * j := by rw [List.length_drop, HL.out]
              have hGj := gr_lt L j
              have CX := Bx.mk (show grTo L (j + 1) = grTo L j + gr L j * 2 ^ (4 * j) from rfl)
              have BR := Bx.mk hRl
              have BCl := Bx.mk (show nl - 5 * j ≤ c - 5 * j by omega)
              have E4 := Bx.mk (show Bi.getErr (L.drop (5 * j)) 4 = 0 by rw [Bi.getErr, if_neg (by omega), if_neg (by rw [hRl]; omega)])
              have V4 := Bx.mk (show (Bi.getVal (L.drop (5 * j)) 4 : Int) = (gr L j : Nat) by rw [Bi.getVal, if_pos E4.out]; rfl)
              have CRd := Bx.mk (show ∀ w', Rd w' (some ⟨b0, off, none⟩) (bools L) → Rd w' (if c = 5 * j then some ⟨b0, off, none⟩ else (some ⟨b0, off, none⟩ : Option Addr).map (·.add (5 * j))) (bools (L.drop (5 * j))) from fun w' h => by
                have h1 := h.drop (5 * j) c (by rw [show (bools L).length = nl by simp [bools, HL.out]]; omega)
                rwa [show (bools L).drop (5 * j) = bools (L.drop (5 * j)) by simp [bools, List.map_drop]] at h1)
              have hx5 := BX.out.new hN
              have BV2 := Bx.mk (show (16 * V + gr L j) * 2 ^ (4 * j) + grTo L j = grTo L (n + 1) by
                rw [← HV.out, CX.out, show 4 * (j + 1) = 4 * j + 4 by omega, Nat.pow_add, Nat.add_mul]
                have : 16 * V * 2 ^ (4 * j) = V * (2 ^ (4 * j) * 2 ^ 4) := by rw [Nat.mul_comm 16 V, Nat.mul_assoc, Nat.mul_comm 16]
                omega)
              have hVn : 16 * V + gr L j < 18446744073709551616 := by
                have h1 := BV2.out
                have h2 := hG64.out
                have h3 : 16 * V + gr L j ≤ (16 * V + gr L j) * 2 ^ (4 * j) := Nat.le_mul_of_pos_right _ (Nat.pow_pos (by omega))
                omega
              have hwr1 : IntKind.u64.wrap (16 * (V : Int)) = 16 * (V : Int) := by rw [IntKind.wrap_u64]; omega
              have hwr2 : IntKind.u64.wrap (16 * (V : Int) + (gr L j : Nat)) = ((16 * V + gr L j : Nat) : Int) := by rw [IntKind.wrap_u64]; omega
              clear hGj hVn
              generalize gr L j = G at *
              have hcl2 := Bx.mk (show nl - 5 * j ≤ 100000000 by have := BM.out; omega)
              obtain ⟨q, hq⟩ : ∃ q, 5 * j = q := ⟨_, rfl⟩
              have hq5 : 5 * (j : Int) = (q : Int) := by omega
              rw [hq] at BR BCl E4 V4 CRd hcl2 hRl
              have hloq : (q : Int) ≤ (nl : Int) := by omega
              have hck : ¬ c = q := by omega
              clear hlo hRl hq
              have hr : Rd wr (some ⟨b0, off + q, none⟩) (bools (L.drop q)) := by have h1 := CRd.out _ hx5; simp only [if_neg hck, Addr.add, Option.map_some] at h1; (rcases Nat.eq_zero_or_pos q with h | h); (subst h; simpa using h1); (simpa [show ¬ q = 0 by omega] using h1)
              repeat' (first | (first | (go_at_call 43; go_loud ((with_reducible refine (refGet_f _ (nl - q) (c - q) _ 4 _ BR.out hcl2.out (by omega) (by have := BC.out; omega) (fun h => by cases h) hr (by decide) (by decide) _ 0 V4.out E4.out _ rfl).mono ?_); rintro e w2 ⟨A2, c2, rfl, hu2⟩; dsimp only))) | go_values | go_skip | go_guarded | go_step | go_upon | go_back)
              go_roundw
              case rel => exact ⟨j, 16 * V + G, _, by omega, rfl, by go_num, by congr 1, BV2, hN.trans hu2⟩
              case measure => simp [intOf]
      · by_cases h15 : n = 15
        · subst h15
          have HE : Bx (gv 16 0 0 L = (4, 0, L.drop (5 * 16))) := ⟨by rw [HG.out]; exact GM.out 0 _ rfl⟩
          repeat' (first | fail | go_values | go_skip | go_guarded | go_step | go_upon | go_back)
          go_returns
          obtain ⟨e1, e2, e3⟩ := gv_err L _ _ HE.out (by decide)
          rw [e1, e2, e3, HL.out]
          exact ⟨_, c, rfl, hN⟩
        · have h15i : ¬ (n : Int) + 1 = 16 := by omega
          have HS := Bx.mk (show gv 16 0 0 L = gv (16 - (n + 1)) (n + 1) (grTo L (n + 1)) (L.drop (5 * (n + 1))) by rw [HG.out, show 16 - n = (15 - n) + 1 by omega, show 16 - (n + 1) = 15 - n by omega]; exact GM.out _ _ rfl)
          repeat' (first | fail | go_values | go_skip | go_guarded | go_step | go_upon | go_back)
          go_roundw
          case rel => exact ⟨n + 1, by omega, by go_num, by omega, HS, hN⟩
          case measure => simp [intOf]; omega
end Go.Proofs.Ytdcebkilekdllaa
