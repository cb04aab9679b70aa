/- CompSteps: walked. -/
import Derived.Test.YtpfdbkfjjjiamaaCmL4
import Derived.Test.YtpfdbkfjjjiamaaCmS3
import Derived.Test.YtpfdbkfjjjiamaaCmPure3
namespace Go.Proofs.Ytpfdbkfjjjiamaa
open Go.RowKit
/-- two boxes, one behind the other -/
structure TB (B k k' : Nat) (a b c a' b' c' : Int) (w : World) : Prop where
  r1 : Rd w (some ⟨B, 0, none⟩) [.int .u8 k, .int .i32 a, .int .i32 b, .int .i32 c]
  r2 : Rd w (some ⟨B + 1, 0, none⟩) [.int .u8 k', .int .i32 a', .int .i32 b', .int .i32 c']
theorem TB.new {B k k' : Nat} {a b c a' b' c' : Int} {w w' : World} (h : TB B k k' a b c a' b' c' w) (u : New w w') : TB B k k' a b c a' b' c' w' := ⟨h.r1.new u, h.r2.new u⟩
theorem TB.upd {B k k' : Nat} {a b c a' b' c' : Int} {w w' : World} {p : Nat → Prop} (h : TB B k k' a b c a' b' c' w) (u : Upd p w w') (h1 : ∀ x, x = B ∨ x = B + 1 → ¬ p x) : TB B k k' a b c a' b' c' w' :=
  ⟨h.r1.upd u (fun x hx _ q => by cases hx; exact h1 _ (.inl rfl) q), h.r2.upd u (fun x hx _ q => by cases hx; exact h1 _ (.inr rfl) q)⟩
theorem TB.cells {B k k' : Nat} {a b c a' b' c' : Int} {w : World} (h : TB B k k' a b c a' b' c' w) :
    w.cell? ⟨B, 0, none⟩ = some (.int .u8 k) ∧ w.cell? ⟨B, 1, none⟩ = some (.int .i32 a) ∧ w.cell? ⟨B, 2, none⟩ = some (.int .i32 b) ∧ w.cell? ⟨B, 3, none⟩ = some (.int .i32 c) ∧
    w.cell? ⟨B + 1, 0, none⟩ = some (.int .u8 k') ∧ w.cell? ⟨B + 1, 1, none⟩ = some (.int .i32 a') ∧ w.cell? ⟨B + 1, 2, none⟩ = some (.int .i32 b') ∧ w.cell? ⟨B + 1, 3, none⟩ = some (.int .i32 c') := by
  obtain ⟨c0, c1, c2, c3⟩ := four_cells h.r1
  obtain ⟨d0, d1, d2, d3⟩ := four_cells h.r2
  exact ⟨c0, c1, c2, c3, d0, d1, d2, d3⟩
set_option maxRecDepth 20000 in
set_option maxHeartbeats 8000000 in
theorem CompSteps_any (k k' : Nat) (a b c a' b' c' : Int) (n : Nat) (w : World) (hk : k < 256) (hk' : k' < 256) (hn : n < 256) :
    Calls Try.prog 7 #[.agg #[.int .u8 k, .int .i32 a, .int .i32 b, .int .i32 c], .agg #[.int .u8 k', .int .i32 a', .int .i32 b', .int .i32 c'], .int .u8 n] w fun e w' => e = .returned (.bool true) ∧ New w w' := by
  obtain ⟨hN0, r1, r2⟩ := two_boxes w k k' a b c a' b' c'
  have BR := Bx.mk (TB.mk r1 r2)
  clear r1 r2
  have CA := Bx.mk (fun w => ahead_any n w hn)
  have CR := Bx.mk (fun w => refCmStep_any k k' a b c a' b' c' w hk hk')
  have CP := Bx.mk (fun {w : World} {base g : Nat} {v : Value} {L : List Bool} (h : IsW w base g v L) (hb : base ≤ w.heap.size) (hL : L.length ≤ 1000) => cmPutStep_any h hb hL k k' a b c a' b' c' hk hk')
  have CZ := Bx.mk (fun w => SizeStep_any k k' a b c a' b' c' w hk hk')
  rw [sizeS_own] at CZ
  have hLl := aheadL_length n
  have hWl := ownS_le k [a, b, c] k' [a', b', c']
  have HOWN := Bx.mk (fun (h : pairE k [a, b, c] k' [a', b', c'] = 0) => show chk k [a, b, c] = 0 ∧ k' = k ∧ (chk k [a, b, c] = 0 ∧ ∀ t, cgK k (sRes k [a, b, c] (ownS k [a, b, c] k' [a', b', c'] ++ List.replicate t false)) = k ∧ cgF (sRes k [a, b, c] (ownS k [a, b, c] k' [a', b', c'] ++ List.replicate t false)) = [a', b', c'] ∧ (sRes k [a, b, c] (ownS k [a, b, c] k' [a', b', c'] ++ List.replicate t false)).1 = 0 ∧ cgR (ownS k [a, b, c] k' [a', b', c'] ++ List.replicate t false) (sRes k [a, b, c] (ownS k [a, b, c] k' [a', b', c'] ++ List.replicate t false)) = List.replicate t false) from by
    obtain ⟨g1, g2, e⟩ := pair_ok h
    subst e
    exact ⟨g1, rfl, g1, fun t => getStep_own k a b c a' b' c' g1 g2 (List.replicate t false) _ (by rw [show ownS k [a, b, c] k [a', b', c'] = bitsP (stepTo k [a, b, c] [a', b', c'] (flds k).length) from if_pos h])⟩)
  have CE := Bx.mk (fun w => comp_eql w k a' b' c')
  obtain ⟨L, hLL⟩ : ∃ L, aheadL n = L := ⟨_, rfl⟩
  rw [hLL] at CA hLl
  obtain ⟨W, hWW⟩ : ∃ W, ownS k [a, b, c] k' [a', b', c'] = W := ⟨_, rfl⟩
  rw [hWW] at CR CP CZ hWl HOWN
  obtain ⟨E, hEE⟩ : ∃ E, pairE k [a, b, c] k' [a', b', c'] = E := ⟨_, rfl⟩
  rw [hEE] at CR CP HOWN
  obtain ⟨m, hm⟩ : ∃ m, L.length = m := ⟨_, rfl⟩
  obtain ⟨p, hp⟩ : ∃ p, W.length = p := ⟨_, rfl⟩
  rw [hm] at CA hLl
  rw [hp] at CR CZ hWl
  have HM := Bx.mk hm
  have HP := Bx.mk hp
  have hm16 : m < 16 := by omega
  obtain ⟨nb, hnb⟩ : ∃ nb, Bi.nbytes (L ++ W) = nb := ⟨_, rfl⟩
  have HNB := Bx.mk hnb
  have hnb2 : nb ≤ 100 := by rw [← hnb, Bi.nbytes, List.length_append, hm, hp]; omega
  obtain ⟨P, hPP⟩ : ∃ P, Bi.pack (L ++ W) = P := ⟨_, rfl⟩
  have HPP := Bx.mk hPP
  have HPL := Bx.mk (show P.length = nb by rw [← hPP, Bi.pack_length, hnb])
  have HML := Bx.mk (show (L ++ W).length = m + p by rw [List.length_append, hm, hp])
  obtain ⟨t, ht, hdrop, _, hle⟩ := read_back L W
  rw [hPP, hm] at hdrop hle
  have HT := Bx.mk (And.intro ht (And.intro hdrop hle))
  obtain ⟨q, hq⟩ : ∃ q, m + p = q := ⟨_, rfl⟩
  have HQ := Bx.mk hq
  have hq316 : q ≤ 616 := by omega
  clear hLL hWW hEE hm hp hnb hPP ht hdrop hle hLl hq
  by_cases hE0 : E = 0
  · subst hE0
    obtain ⟨hck, hkk, _, hG⟩ := HOWN.out rfl
    have G4 := Bx.mk (hG t)
    have HCK := Bx.mk hck
    subst hkk
    clear hG hck
    have G1 := Bx.mk (show Bi.getErr (Bi.bitsOf P) m = 0 by rw [Bi.getErr, if_neg (by omega), if_neg (by rw [Bi.bitsOf_length]; have := HT.out.2.2; omega)])
    have G2 := Bx.mk (show Bi.getRest (Bi.bitsOf P) m = W ++ List.replicate t false by rw [Bi.getRest, if_pos G1.out]; simpa using HT.out.2.1)
    go_enter Try.func7, Try.ntmps7
    obtain ⟨c0, c1, c2, c3, c4, c5, c6, c7⟩ := BR.out.cells
    repeat' (first | (first
      | (have _m := hN13; (go_at_call 27; go_loud ((with_reducible refine (End_any hI14 _ hR14 ha14 (by rw [HPL.out]; omega)).mono ?_); rintro e w14 ⟨rfl, hu14⟩; rw [zeros_end t HT.out.1]; dsimp only)))
      | (have _m := hI12; (go_at_call 28; go_loud ((with_reducible refine (cmGetStep_any hI12 _ hR12 ha12 (by rw [HPL.out]; omega) k' a b c hk HCK.out).mono ?_); rintro e w13 ⟨rfl, a13, hI13, hR13, ha13, hU13⟩; rw [G4.out.1, G4.out.2.1, G4.out.2.2.1]; rw [G4.out.2.2.2] at hR13; unfold compV; have hN13 := hN12.then hU13 (fun b q => .inr (by rw [show b = gr from q]; exact hgr)); have hz13 := (Upd.refl Nowhere w13).alloc (.cells #[.int .u8 k', .int .i32 a', .int .i32 b', .int .i32 c'] 24); have hI14 := hI13.new hz13; have hR14 := hR13; have ha14 := ha13; have BR13 := (BR12.out.upd hU13 (fun x hx q => by have q' : x = gr := q; have := hgr'; omega)).new hz13; (obtain ⟨d0, d1, d2, d3, d4, d5, d6, d7⟩ := TB.cells BR13); (obtain ⟨e0, e1, e2, e3⟩ := four_cells (rd_new w13 [.int .u8 k', .int .i32 a', .int .i32 b', .int .i32 c'] 24)); have ce := CE.out; have hN13z := hN13.trans hz13; dsimp only)))
      | (have _m := hI11; (go_at_call 16; go_loud ((with_reducible refine (Get_e hI11 _ m List.drop_zero (Nat.zero_le _) (by rw [HPL.out]; omega) (by omega) (by omega) _ 0 rfl G1.out (W ++ List.replicate t false) G2.out).mono ?_); rintro e w12 ⟨rfl, a12, hI12, hR12, ha12, hU12⟩; have hN12 := hN11.then hU12 (fun b q => .inr (by rw [show b = gr from q]; exact hgr)); have BR12 := Bx.mk (BR11.out.upd hU12 (fun x hx q => by have q' : x = gr := q; have := hgr'; omega)); clear d0 d1 d2 d3 d4 d5 d6 d7; (obtain ⟨d0, d1, d2, d3, d4, d5, d6, d7⟩ := TB.cells BR12.out); dsimp only)))
      | (have _m := hW10; (go_at_call 14; go_loud ((with_reducible refine (Read_any A9 nb c9 P _ HPL.out (by omega) hr9).mono ?_); rintro e w11 ⟨gr, vr, rfl, hI11, hu11, hgr11, _⟩; have hN11 := (hN10.trans hu9).trans hu11; have hgr := Nat.le_trans (hN10.trans hu9).size hgr11; have hgr' : w.heap.size + 1 < gr := Nat.lt_of_lt_of_le hB9.out hgr11; have BR11 := Bx.mk (((BR10.out.new hu9)).new hu11); (obtain ⟨d0, d1, d2, d3, d4, d5, d6, d7⟩ := TB.cells BR11.out); dsimp only)))
      | (have _m := hW10; (go_at_call 24; go_loud ((with_reducible refine (Bytes_e hW10 (by rw [HML.out]; omega) nb HNB.out P HPP.out).mono ?_); rintro e w9 ⟨v9, rfl, ho9, hu9⟩; (obtain ⟨A9, c9, rfl, _, _, hr9, _⟩ := own_rd ho9); have hB9 := Bx.mk (show w.heap.size + 1 < w9.heap.size by have := hB1.out; have := (hu2.trans hu3).size; have := hk4.size; have := hU5.upd.size; have := hu6.size; have := hu7.size; have := hu10.size; have := hu9.size; omega); dsimp only)))
      | (go_at_call 8; go_loud ((with_reducible refine (cmAwake_any _).mono ?_); rintro e w1 ⟨rfl, hu1⟩; dsimp only))
      | (go_at_call 20; go_loud ((with_reducible refine (CA.out _).mono ?_); rintro e w2 ⟨g, v, vl, rfl, hW2, hl2, hu2, hg2, hv2⟩; (obtain ⟨Al, cl, rfl, hcl, _, _, _⟩ := own_rd hl2); (obtain ⟨d0, d1, d2, d3, d4, d5, d6, d7⟩ := TB.cells ((BR.out.new hu1).new hu2)); dsimp only))
      | (go_at_call 30; go_loud ((with_reducible refine (CR.out _).mono ?_); rintro e w3 ⟨v3, rfl, ho3, hu3⟩; have hl3 := own_new hl2 hu3; (obtain ⟨Ao, co, rfl, _⟩ := own_rd ho3); have hs3 := own_src (P := Try.prog) (tx := 34) Try.underlying34 ho3 (bools_one W); have hW3 := IsW.new hW2 hu3; have hN3 := ((hN0.trans hu1).trans hu2).trans hu3; have hB1 := Bx.mk (show w.heap.size + 1 < w1.heap.size by have := hu1.size; simp at this; omega); have hb13 := (hu2.trans hu3).size; have BR3 := Bx.mk (((BR.out.new hu1).new hu2).new hu3); clear c0 c1 c2 c3 c4 c5 c6 c7 d0 d1 d2 d3 d4 d5 d6 d7; dsimp only))
      | (at_builtin; go_loud (refine wpList_appB rfl _ _ 34 34 rfl _ 4 (.bool false) 1 1 Try.underlying34 infob rfl _ _ _ hl3 rfl _ _ _ hs3 rfl hb13 ?c1 ?c2 ?_; (case c1 => unfold maxLen; omega); (case c2 => omega); intro v4 w4 ho4 hk4 hwh4; rw [HQ.out, ← bools_append] at ho4; (obtain ⟨A4, c4, rfl, hc4, hm4, hr4, hb4⟩ := own_rd ho4); have hW4 := IsW.bool hW3 hl3 hk4; have hN4 := hN3.then hk4 (fun b q => .inr (Nat.le_trans ((Nat.le_of_succ_le (Nat.le_of_lt hB1.out))) (own_ge hl3 b q))); have hb14 := Nat.le_trans hb13 hk4.size; have BR4 := Bx.mk (BR3.out.upd hk4 (fun x hx q => by have h1 : w1.heap.size ≤ x := own_ge hl3 _ q; have := hB1.out; omega)); (obtain ⟨d0, d1, d2, d3, d4, d5, d6, d7⟩ := TB.cells BR4.out)))
      | (go_at_call 29; go_loud ((with_reducible refine (CP.out hW4 hb14 (by rw [HM.out]; omega)).mono ?_); rintro e w5 ⟨rfl, v5, hW5, hU5⟩; have ho5 := Wrote.row hU5 hW4 ho4; (obtain ⟨hN5, hv5⟩ := Wrote.fresh hN4 hU5 (Nat.le_trans ((Nat.le_of_succ_le (Nat.le_of_lt hB1.out))) hg2) (fun b q => Nat.le_trans ((Nat.le_of_succ_le (Nat.le_of_lt hB1.out))) (hv2 b q))); have BR5 := Bx.mk (BR4.out.upd hU5.upd (fun x hx q => by have := hB1.out; exact q.elim (fun e => by have e' : x = g := e; omega) (fun e => by have h1 : w1.heap.size ≤ x := hv2 _ e; omega))); clear d0 d1 d2 d3 d4 d5 d6 d7; dsimp only))
      | (go_at_call 24; go_loud ((with_reducible refine (Bytes_e hW5 (by rw [HML.out]; omega) nb HNB.out P HPP.out).mono ?_); rintro e w6 ⟨v6, rfl, ho6, hu6⟩; have ho6l := own_new ho5 hu6; (obtain ⟨A6, c6, rfl, _, _, hr6, _⟩ := own_rd ho6); dsimp only))
      | (go_at_call 25; go_loud ((with_reducible refine (refBytes_any A4 c4 q (L ++ W) _ (by rw [HML.out]; exact HQ.out) (by omega) (own_rd' ho6l)).mono ?_); rintro e w7 ⟨v7, rfl, ho7, hu7⟩; rw [HNB.out, HPP.out] at ho7; (obtain ⟨A7, c7, rfl, _, _, hr7, _⟩ := own_rd ho7); dsimp only))
      | (go_at_call 23; go_loud ((with_reducible refine (Same_e A6 A7 nb nb c6 c7 P P _ HPL.out HPL.out (hr6.new hu7) hr7 true (decide_eq_true rfl)).mono ?_); rintro e w8 ⟨rfl, e8⟩; subst e8; have hW7 := IsW.new (IsW.new hW5 hu6) hu7; (obtain ⟨d0, d1, d2, d3, d4, d5, d6, d7⟩ := TB.cells ((BR5.out.new hu6).new hu7)); dsimp only))
      | (go_at_call 26; go_loud ((with_reducible refine (Len_e hW7 (q : Int) (by rw [HML.out, HQ.out])).mono ?_); rintro e w9 ⟨rfl, e9⟩; subst e9; dsimp only))
      | (go_at_call 12; go_loud ((with_reducible refine (CZ.out _).mono ?_); rintro e w10 ⟨rfl, hu10⟩; have hW10 := IsW.new hW7 hu10; have hN10 := ((hN5.trans hu6).trans hu7).trans hu10; have BR10 := Bx.mk (((BR5.out.new hu6).new hu7).new hu10); clear d0 d1 d2 d3 d4 d5 d6 d7; dsimp only))) | go_values | go_skip | go_guarded | go_step | go_upon | go_back)
    go_ret
    exact ⟨rfl, hN13z.trans hu14⟩
  · have hEb : (E == 0) = false := by simpa using hE0
    go_enter Try.func7, Try.ntmps7
    obtain ⟨c0, c1, c2, c3, c4, c5, c6, c7⟩ := BR.out.cells
    repeat' (first | (first
      | (go_at_call 8; go_loud ((with_reducible refine (cmAwake_any _).mono ?_); rintro e w1 ⟨rfl, hu1⟩; dsimp only))
      | (go_at_call 20; go_loud ((with_reducible refine (CA.out _).mono ?_); rintro e w2 ⟨g, v, vl, rfl, hW2, hl2, hu2, hg2, hv2⟩; (obtain ⟨Al, cl, rfl, hcl, _, _, _⟩ := own_rd hl2); (obtain ⟨d0, d1, d2, d3, d4, d5, d6, d7⟩ := TB.cells ((BR.out.new hu1).new hu2)); dsimp only))
      | (go_at_call 30; go_loud ((with_reducible refine (CR.out _).mono ?_); rintro e w3 ⟨v3, rfl, ho3, hu3⟩; have hl3 := own_new hl2 hu3; (obtain ⟨Ao, co, rfl, _⟩ := own_rd ho3); have hs3 := own_src (P := Try.prog) (tx := 34) Try.underlying34 ho3 (bools_one W); have hW3 := IsW.new hW2 hu3; have hN3 := ((hN0.trans hu1).trans hu2).trans hu3; have hB1 := Bx.mk (show w.heap.size + 1 < w1.heap.size by have := hu1.size; simp at this; omega); have hb13 := (hu2.trans hu3).size; have BR3 := Bx.mk (((BR.out.new hu1).new hu2).new hu3); clear c0 c1 c2 c3 c4 c5 c6 c7 d0 d1 d2 d3 d4 d5 d6 d7; dsimp only))
      | (at_builtin; go_loud (refine wpList_appB rfl _ _ 34 34 rfl _ 4 (.bool false) 1 1 Try.underlying34 infob rfl _ _ _ hl3 rfl _ _ _ hs3 rfl hb13 ?c1 ?c2 ?_; (case c1 => unfold maxLen; omega); (case c2 => omega); intro v4 w4 ho4 hk4 hwh4; rw [HQ.out, ← bools_append] at ho4; (obtain ⟨A4, c4, rfl, hc4, hm4, hr4, hb4⟩ := own_rd ho4); have hW4 := IsW.bool hW3 hl3 hk4; have hN4 := hN3.then hk4 (fun b q => .inr (Nat.le_trans ((Nat.le_of_succ_le (Nat.le_of_lt hB1.out))) (own_ge hl3 b q))); have hb14 := Nat.le_trans hb13 hk4.size; have BR4 := Bx.mk (BR3.out.upd hk4 (fun x hx q => by have h1 : w1.heap.size ≤ x := own_ge hl3 _ q; have := hB1.out; omega)); (obtain ⟨d0, d1, d2, d3, d4, d5, d6, d7⟩ := TB.cells BR4.out)))
      | (go_at_call 29; go_loud ((with_reducible refine (CP.out hW4 hb14 (by rw [HM.out]; omega)).mono ?_); rintro e w5 ⟨rfl, v5, hW5, hU5⟩; have ho5 := Wrote.row hU5 hW4 ho4; (obtain ⟨hN5, hv5⟩ := Wrote.fresh hN4 hU5 (Nat.le_trans ((Nat.le_of_succ_le (Nat.le_of_lt hB1.out))) hg2) (fun b q => Nat.le_trans ((Nat.le_of_succ_le (Nat.le_of_lt hB1.out))) (hv2 b q))); have BR5 := Bx.mk (BR4.out.upd hU5.upd (fun x hx q => by have := hB1.out; exact q.elim (fun e => by have e' : x = g := e; omega) (fun e => by have h1 : w1.heap.size ≤ x := hv2 _ e; omega))); clear d0 d1 d2 d3 d4 d5 d6 d7; dsimp only))
      | (go_at_call 24; go_loud ((with_reducible refine (Bytes_e hW5 (by rw [HML.out]; omega) nb HNB.out P HPP.out).mono ?_); rintro e w6 ⟨v6, rfl, ho6, hu6⟩; have ho6l := own_new ho5 hu6; (obtain ⟨A6, c6, rfl, _, _, hr6, _⟩ := own_rd ho6); dsimp only))
      | (go_at_call 25; go_loud ((with_reducible refine (refBytes_any A4 c4 q (L ++ W) _ (by rw [HML.out]; exact HQ.out) (by omega) (own_rd' ho6l)).mono ?_); rintro e w7 ⟨v7, rfl, ho7, hu7⟩; rw [HNB.out, HPP.out] at ho7; (obtain ⟨A7, c7, rfl, _, _, hr7, _⟩ := own_rd ho7); dsimp only))
      | (go_at_call 23; go_loud ((with_reducible refine (Same_e A6 A7 nb nb c6 c7 P P _ HPL.out HPL.out (hr6.new hu7) hr7 true (decide_eq_true rfl)).mono ?_); rintro e w8 ⟨rfl, e8⟩; subst e8; have hW7 := IsW.new (IsW.new hW5 hu6) hu7; (obtain ⟨d0, d1, d2, d3, d4, d5, d6, d7⟩ := TB.cells ((BR5.out.new hu6).new hu7)); dsimp only))
      | (go_at_call 26; go_loud ((with_reducible refine (Len_e hW7 (q : Int) (by rw [HML.out, HQ.out])).mono ?_); rintro e w9 ⟨rfl, e9⟩; subst e9; dsimp only))
      | (go_at_call 12; go_loud ((with_reducible refine (CZ.out _).mono ?_); rintro e w10 ⟨rfl, hu10⟩; have hW10 := IsW.new hW7 hu10; have hN10 := ((hN5.trans hu6).trans hu7).trans hu10; have BR10 := Bx.mk (((BR5.out.new hu6).new hu7).new hu10); clear d0 d1 d2 d3 d4 d5 d6 d7; dsimp only))) | go_values | go_skip | go_guarded | go_step | go_upon | go_back)
    go_ret
    exact ⟨rfl, hN10⟩
end Go.Proofs.Ytpfdbkfjjjiamaa
