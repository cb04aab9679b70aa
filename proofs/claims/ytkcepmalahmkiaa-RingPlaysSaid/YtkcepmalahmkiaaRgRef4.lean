/- The reference of rings: Put: walked. -/
import Derived.Test.YtkcepmalahmkiaaRgRef3
namespace Go.Proofs.Ytkcepmalahmkiaa
open Go.RowKit
set_option maxRecDepth 20000 in
set_option maxHeartbeats 4000000 in
theorem RfAt.put {w0 w : World} {g most : Nat} {xs : List (Rit Int)} (h : RfAt w0 w g most xs) (t : Nat) (v : Int) (ht : t < 4294967296) :
    Calls Try.prog 26 #[.pointer (some ⟨g, 0, none⟩), .int .u32 t, .int .i64 v] w fun e w' => e = .returned (.int .i64 (putE xs t)) ∧ RfAt w0 w' g most (putL most xs t v) ∧ Upd (RfBlk g w) w w' := by
  have H0 := Bx.mk h
  obtain ⟨⟨A, c, hg, hc, hm, hr, hn, _⟩, hs0, hg0, h4, h5, h6, hup, hlt⟩ := h
  have HG := Bx.mk hg
  have k0 : w.cell? ⟨g, 0, none⟩ = some (.int .i64 most) := by rw [World.cell?, hg]; rfl
  have k1 : w.cell? ⟨g, 1, none⟩ = some (.slice A xs.length c) := by rw [World.cell?, hg]; rfl
  have HR := Bx.mk hr
  have HN := Bx.mk hn
  have HAS := Bx.mk (any_stale hup t)
  have HPL := Bx.mk (And.intro (putL_len h4 h5 t v) (putL_all (p := fun x => x.tick < 4294967296) (most := most) hlt (v := v) ht))
  have HPU := Bx.mk (fun (q : ¬ stale xs t = true) => rising_put hup q v)
  obtain ⟨n, hl⟩ : ∃ n, xs.length = n := ⟨_, rfl⟩
  rw [hl] at k1 HN
  have hn64 : n ≤ 64 := by omega
  have HL := Bx.mk hl
  have h4' : n ≤ most := by omega
  obtain ⟨E, hE⟩ : ∃ E, putE xs t = E := ⟨_, rfl⟩
  have HE := Bx.mk hE
  rw [hE]
  clear hg hr hn hl h4 hc hup hlt hE
  go_enter Try.func26, Try.ntmps26
  go_wp2
  go_loopw [17] (fun i wr => ∃ j : Nat, j ≤ n ∧ i = .int .i64 j ∧ New w wr ∧ Bx ((xs.drop j).any (fun y => decide (t ≤ y.tick)) = stale xs t)) (fun i _ => n - (intOf i).toNat)
  case atStart => exact ⟨0, Nat.zero_le _, rfl, Upd.refl _ _, ⟨by rw [List.drop_zero]; exact HAS.out⟩⟩
  case round =>
    obtain ⟨j, hj, rfl, hN, HJ⟩ := hrel
    by_cases hlt : j < n
    · have hjx : j < xs.length := by rw [HL.out]; exact hlt
      obtain ⟨b, off, rfl, c0, c1⟩ := rfc_at (HR.out.new hN) j hjx
      have hD := HJ.out
      rw [List.drop_eq_getElem_cons hjx, List.any_cons] at hD
      generalize xs[j] = x at *
      obtain ⟨tk, tv⟩ := x
      dsimp only at c0 c1 hD
      obtain ⟨hz, z0, z1⟩ := item_new wr tk tv
      by_cases hq : t ≤ tk
      · have hqi : (t : Int) ≤ (tk : Int) := by omega
        have hst : stale xs t = true := by rw [← hD]; simp [hq]
        have HST := Bx.mk hst
        obtain rfl : 12 = E := by rw [← HE.out, putE, if_pos hst]
        clear hD hst
        go_wp2
        go_ret
        refine ⟨rfl, ?_, New.upd (hN.trans ((Upd.refl _ _).alloc _))⟩
        rw [putL, if_pos HST.out]
        exact H0.out.next (hN.trans ((Upd.refl _ _).alloc _))
      · have hqi : ¬ (t : Int) ≤ (tk : Int) := by omega
        have HD := Bx.mk (show (xs.drop (j + 1)).any (fun y => decide (t ≤ y.tick)) = stale xs t by rw [← hD]; simp [hq])
        clear hD hq
        go_wp2
        go_roundw
        case rel => exact ⟨j + 1, by omega, by go_num, hN.trans hz, HD⟩
        case measure => simp [intOf]; omega
    · obtain rfl : j = n := by omega
      have hst : ¬ stale xs t = true := by
        rw [← HJ.out, List.drop_eq_nil_of_le (by rw [HL.out]; exact Nat.le_refl _)]
        simp
      obtain rfl : 0 = E := by rw [← HE.out, putE, if_neg hst]
      have HST := Bx.mk hst
      clear hst
      obtain ⟨k10, k11, fz1⟩ := ring_cell (hN.blk HG.out (fun q => q))
      rw [HL.out] at k11
      have hl0 := own_lit0 wr w.heap.size 111 2 hN.size
      have hs0' := (HR.out.new (hN.alloc (.cells #[] 111))).src (P := Try.prog) (n := j) (c := c) (size := 2) Try.underlying75 HN.out (by rw [rfc_len, HL.out]) (rfc_one xs)
      have hNl := hN.alloc (.cells #[] 111)
      obtain ⟨l0, l1, _⟩ := ring_cell (hNl.blk HG.out (fun q => q))
      rw [HL.out] at l1
      by_cases hfull : j = most
      · subst hfull
        have hfi : (j : Int) < (j : Int) + 1 := by omega
        have hj1 : (1 : Int) ≤ (j : Int) + 1 := by omega
        repeat' (first | (first
          | (have _m := ho4; (at_builtin; refine wpList_appN _ rfl _ _ 75 75 rfl _ 111 (.agg #[.int .u32 0, .int .i64 0]) 2 16 Try.underlying75 infoRf rfl _ _ _ ho4 rfl _ _ _ hs4 rfl _ hN4 ?c1 ?c2 ?_; (case c1 => unfold maxLen; omega); (case c2 => omega); intro v5 w5 ho5 hu5 hk5 hv5; obtain ⟨q0, q1, q2⟩ := ring_cell (hu5.blk HG.out (fun q => q)); obtain ⟨g5, c5, rfl, hg5, hg5', hc5, hm5, hr5⟩ := own_some ho5 (by omega)))
          | (at_builtin; refine wpList_appN _ rfl _ _ 75 75 rfl _ 111 (.agg #[.int .u32 0, .int .i64 0]) 2 16 Try.underlying75 infoRf rfl _ _ _ hl0 rfl _ _ _ hs0' rfl _ hNl ?c1 ?c2 ?_; (case c1 => unfold maxLen; omega); (case c2 => omega); intro v3 w3 ho3 hu3 hk3 hv3; rw [Nat.zero_add, List.nil_append] at ho3; have ho4 := ho3.alloc (.cells #[.int .u32 t, .int .i64 v] 111); have hN4 := hu3.alloc (.cells #[.int .u32 t, .int .i64 v] 111); have hs4 := Src.ofSlice (P := Try.prog) (size := 2) _ Try.underlying75 _ 1 1 _ rfl (cells_new w3 [.int .u32 t, .int .i64 v] 111) (by intro u hu; simp at hu; rcases hu with rfl | rfl <;> rfl))) | go_values | go_skip | go_guarded | go_step | go_upon | go_back)
        go_ret
        have hx : rfc (xs ++ [(⟨t, v⟩ : Rit Int)]) = rfc xs ++ [.int .u32 t, .int .i64 v] := rfc_append xs [(⟨t, v⟩ : Rit Int)]
        have hpl : putL j xs t v = (xs ++ [(⟨t, v⟩ : Rit Int)]).drop 1 := by rw [putL, if_neg HST.out, if_pos HL.out, List.drop_append_of_le_length (by rw [HL.out]; omega)]
        have hup2 : Rising (putL j xs t v) := by rw [hpl]; exact (HPU.out HST.out).drop 1
        have hlen : (putL j xs t v).length = j := by rw [hpl, List.length_drop, List.length_append, HL.out]; simp
        have hr6 : Rd w5 (some ⟨g5, 2, none⟩) (rfc (putL j xs t v)) := by
          rw [hpl]
          have := hr5.drop_lit 2
          rw [← hx] at this
          have e : rfc ((xs ++ [(⟨t, v⟩ : Rit Int)]).drop 1) = (rfc (xs ++ [(⟨t, v⟩ : Rit Int)])).drop 2 := rcells_drop (fun x : Int => [.int .i64 x]) 1 (fun _ => rfl) _ 1
          rw [e]
          simpa using this
        have hit := own_items ho5
        refine ⟨rfl, RfAt.store (hu5.blk HG.out (fun q => q)) hg0 (Nat.le_trans hs0 hu5.size) hlen (by omega) (by omega) hr6 (fun e => by cases e) (fun a ha _ => by cases ha; exact hit ⟨g5, 0, none⟩ rfl) (by omega) h5 h6 hup2 HPL.out.2, (New.upd hu5).setCell (p := ⟨g, 1, none⟩) (.inl ⟨rfl, _, _, HG.out⟩) _⟩
      · have hfi : ¬ (most : Int) < (j : Int) + 1 := by omega
        repeat' (first | (first
          | (have _m := ho4; (at_builtin; refine wpList_appN _ rfl _ _ 75 75 rfl _ 111 (.agg #[.int .u32 0, .int .i64 0]) 2 16 Try.underlying75 infoRf rfl _ _ _ ho4 rfl _ _ _ hs4 rfl _ hN4 ?c1 ?c2 ?_; (case c1 => unfold maxLen; omega); (case c2 => omega); intro v5 w5 ho5 hu5 hk5 hv5; obtain ⟨q0, q1, q2⟩ := ring_cell (hu5.blk HG.out (fun q => q)); obtain ⟨g5, c5, rfl, hg5, hg5', hc5, hm5, hr5⟩ := own_some ho5 (by omega)))
          | (at_builtin; refine wpList_appN _ rfl _ _ 75 75 rfl _ 111 (.agg #[.int .u32 0, .int .i64 0]) 2 16 Try.underlying75 infoRf rfl _ _ _ hl0 rfl _ _ _ hs0' rfl _ hNl ?c1 ?c2 ?_; (case c1 => unfold maxLen; omega); (case c2 => omega); intro v3 w3 ho3 hu3 hk3 hv3; rw [Nat.zero_add, List.nil_append] at ho3; have ho4 := ho3.alloc (.cells #[.int .u32 t, .int .i64 v] 111); have hN4 := hu3.alloc (.cells #[.int .u32 t, .int .i64 v] 111); have hs4 := Src.ofSlice (P := Try.prog) (size := 2) _ Try.underlying75 _ 1 1 _ rfl (cells_new w3 [.int .u32 t, .int .i64 v] 111) (by intro u hu; simp at hu; rcases hu with rfl | rfl <;> rfl))) | go_values | go_skip | go_guarded | go_step | go_upon | go_back)
        go_ret
        have hx : rfc (xs ++ [(⟨t, v⟩ : Rit Int)]) = rfc xs ++ [.int .u32 t, .int .i64 v] := rfc_append xs [(⟨t, v⟩ : Rit Int)]
        have hpl : putL most xs t v = xs ++ [(⟨t, v⟩ : Rit Int)] := by rw [putL, if_neg HST.out, if_neg (by rw [HL.out]; exact hfull)]
        have hlen : (putL most xs t v).length = j + 1 := by rw [hpl, List.length_append, HL.out]; simp
        have hit := own_items ho5
        refine ⟨rfl, RfAt.store (hu5.blk HG.out (fun q => q)) hg0 (Nat.le_trans hs0 hu5.size) hlen hc5 hm5 (by rw [hpl, hx]; exact hr5) (fun e => by cases e) (fun a ha _ => hit a ha) (by omega) h5 h6 (by rw [hpl]; exact HPU.out HST.out) HPL.out.2, (New.upd hu5).setCell (p := ⟨g, 1, none⟩) (.inl ⟨rfl, _, _, HG.out⟩) _⟩
end Go.Proofs.Ytkcepmalahmkiaa
