/- The reference's Visible: walked. -/
import Derived.Test.YtohflgpkimnodaaVz1
namespace Go.Proofs.Ytohflgpkimnodaa
open Go.RowKit
theorem infoID' : (Try.prog.info? 38).map (fun i => (i.zero, i.size, i.bytes)) = some (some (.int .u32 0), 1, 4) := by kernel_rfl
theorem src_id (w : World) (i : Nat) : Src Try.prog 1 45 (.slice (some ⟨w.heap.size, 0, none⟩) 1 1) 1 (idv [i]) (w.alloc (.cells #[.int .u32 i] 38)) :=
  (rd_new w (idv [i]) 38).src Try.underlying45 (fun h => by cases h) rfl (idv_one _)
set_option maxRecDepth 20000 in
set_option maxHeartbeats 4000000 in
theorem refVis_any (v : Value) (L : List SpQ) (hv : ∀ q ∈ L, spOk q) (hl : L.length ≤ 1000) (r : Vi.Reg) (w : World) (hS : SpL w v L) (xs : List Nat) (hx : selL (seen r) L = xs) (n : Nat) (hn : xs.length = n) :
    Calls Try.prog 22 #[v, regV r] w fun e w' => ∃ A c, e = .returned (.slice A n c) ∧ n ≤ c ∧ Rd w' A (idv xs) ∧ (A = none → n = 0) ∧ New w w' := by
  obtain ⟨A, c, rfl, hc, hA, hr⟩ := hS
  obtain ⟨m, hm⟩ : ∃ m, L.length = m := ⟨_, rfl⟩
  rw [hm] at hc hA hl ⊢
  have HM := Bx.mk hm
  have HR := Bx.mk hr
  have HO := Bx.mk hv
  have HX := Bx.mk hx
  have HN := Bx.mk hn
  have AL : New w (w.alloc (.cells #[.bool r.on, .int .i64 r.cx, .int .i64 r.cy, .int .i64 r.r] 23)) := (Upd.refl _ _).alloc _
  have BAL := Bx.mk AL
  have BR4 := Bx.mk (rd_new w [.bool r.on, .int .i64 r.cx, .int .i64 r.cy, .int .i64 r.r] 23)
  have CS := Bx.mk (fun (q : SpQ) (hq : spOk q) (w : World) => show Calls Try.prog 14 #[regV r, .int .i32 q.2.1, .int .i32 q.2.2] w fun e w' => e = .returned (.bool (seen r (cellsOf q))) ∧ New w w' from refSees_any r q.2.1 q.2.2 w hq.2.1 hq.2.2)
  generalize seen r = p at *
  clear hm hr hv hx hn hc hA AL
  unfold regV at *
  obtain ⟨on, cx, cy, rr⟩ := r
  dsimp only at *
  go_enter Try.func22, Try.ntmps22
  repeat' (first | fail | go_values | go_skip | go_guarded | go_step | go_upon | go_back)
  generalize w.alloc (.cells #[.bool on, .int .i64 cx, .int .i64 cy, .int .i64 rr] 23) = wB at *
  go_loopw [5, 10] (fun l iv wr => ∃ (j : Nat), iv = .int .i64 j ∧ j ≤ m ∧ Bx (wr.ownsRow wB.heap.size 38 1 l (selL p (L.take j)).length (idv (selL p (L.take j)))) ∧ Bx (New wB wr)) (fun _ iv _ => m - (intOf iv).toNat)
  case atStart => exact ⟨0, rfl, Nat.zero_le _, ⟨World.ownsRow_nil _ _ _ _⟩, ⟨Upd.refl _ _⟩⟩
  case round =>
    obtain ⟨j, rfl, hj, HW, HU⟩ := hrel
    by_cases hlt : j < m
    · have hltI : (j : Int) < (m : Int) := by omega
      have hjL : j < L.length := by rw [HM.out]; exact hlt
      obtain ⟨b, o, rfl, e0, e1, e2⟩ := sp_at ((HR.out.new BAL.out).new HU.out) j hjL
      have hq := HO.out L[j] (List.getElem_mem hjL)
      have hle : (selL p (L.take j)).length ≤ j := by have := sel_len p (L.take j); rw [List.length_take] at this; omega
      have B0 := box_at' wr #[.int .u32 L[j].1, .int .i32 L[j].2.1, .int .i32 L[j].2.2] 40 0 _ rfl
      have B1 := box_at' wr #[.int .u32 L[j].1, .int .i32 L[j].2.1, .int .i32 L[j].2.2] 40 1 _ rfl
      have B2 := box_at' wr #[.int .u32 L[j].1, .int .i32 L[j].2.1, .int .i32 L[j].2.2] 40 2 _ rfl
      have AL2 := (Upd.refl Nowhere wr).alloc (.cells #[.int .u32 L[j].1, .int .i32 L[j].2.1, .int .i32 L[j].2.2] 40)
      obtain ⟨C0, C1, C2, C3⟩ := four_cells ((BR4.out.new HU.out).new AL2)
      have CS' := Bx.mk (CS.out L[j] hq)
      have BAL2 := Bx.mk AL2
      have BB0 := Bx.mk B0
      obtain ⟨pb, hpb⟩ : ∃ pb, p (cellsOf L[j]) = pb := ⟨_, rfl⟩
      rw [hpb] at CS'
      cases pb with
      | true =>
        have HG := Bx.mk (sel_take_go p L j hjL hpb)
        clear hpb hq AL2
        generalize L[j] = q at *
        obtain ⟨i0, x0, y0⟩ := q
        dsimp only at *
        obtain ⟨k, hk⟩ : ∃ k, (selL p (L.take j)).length = k := ⟨_, rfl⟩
        have HK := Bx.mk hk
        rw [hk] at HW hle
        clear hk
        repeat' (first | (first
          | ((go_at_call 14; (with_reducible refine (CS'.out _).mono ?_); rintro e w3 ⟨rfl, U3⟩; have F0 := U3.cell BB0.out (fun q => q); have hN := (HU.out.trans BAL2.out).trans U3; have hox := (own_new (own_new HW.out BAL2.out) U3).alloc (.cells #[.int .u32 i0] 38); have hs := src_id w3 i0; dsimp only))
          | (have _m := F0; (at_builtin; refine wpList_appN _ rfl _ _ 45 45 rfl _ 38 (.int .u32 0) 1 4 Try.underlying45 infoID' rfl _ _ _ hox rfl _ _ _ hs rfl _ (hN.alloc _) ?c1 ?c2 ?_; (case c1 => unfold maxLen; omega); (case c2 => omega); intro v5 w5 ho5 hu5 hk5 hv5))) | go_values | go_skip | go_guarded | go_step | go_upon | go_back)
        refine ⟨⟨j + 1, by go_num, by omega, ⟨?_⟩, ⟨hu5⟩⟩, by simp [intOf]; omega⟩
        rw [HG.out, idv_append, List.length_append, HK.out]
        exact ho5
      | false =>
        have HG := Bx.mk (sel_take_skip p L j hjL hpb)
        clear hpb hq AL2
        generalize L[j] = q at *
        obtain ⟨i0, x0, y0⟩ := q
        dsimp only at *
        repeat' (first | (go_at_call 14; (with_reducible refine (CS'.out _).mono ?_); rintro e w3 ⟨rfl, U3⟩; dsimp only) | go_values | go_skip | go_guarded | go_step | go_upon | go_back)
        exact ⟨⟨j + 1, by go_num, by omega, ⟨by rw [HG.out]; exact own_new (own_new HW.out BAL2.out) U3⟩, ⟨(HU.out.trans BAL2.out).trans U3⟩⟩, by simp [intOf]; omega⟩
    · have hltI : ¬ (j : Int) < (m : Int) := by omega
      obtain rfl : j = m := by omega
      have HT := Bx.mk (show L.take j = L from List.take_of_length_le (by rw [HM.out]; exact Nat.le_refl _))
      have HW2 := HW.out
      rw [HT.out, HX.out, HN.out] at HW2
      have HW3 := Bx.mk HW2
      obtain ⟨A2, c2, rfl, h3, _, h4, _⟩ := own_rd HW2
      clear HW HW2 HT
      repeat' (first | fail | go_values | go_skip | go_guarded | go_step | go_upon | go_back)
      go_returns
      refine ⟨A2, c2, rfl, h3, h4, fun q => ?_, BAL.out.trans HU.out⟩
      rcases HW3.out.2 with ⟨_, h0⟩ | ⟨g', cap', cur, e, _⟩
      · exact h0
      · rw [q] at e; simp at e
end Go.Proofs.Ytohflgpkimnodaa
