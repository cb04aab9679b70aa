/- The reference's Take: walked. -/
import Derived.Test.YtefnpkmbjabcmaaDoorNt10
namespace Go.Proofs.YtefnpkmbjabcmaaDoor
open Go.RowKit

theorem RefTake_no {w : World} {g most : Nat} {v : Value} {xs : List It} (h : IsRef w g v most xs) (i : Int) (hi : ¬ (0 ≤ i ∧ i < xs.length)) :
    Calls Tryd.prog 19 #[.pointer (some ⟨g, 0, none⟩), .int .i64 i] w fun e w' => e = .returned (.tuple #[.agg #[.int .i64 0, .slice none 0 0], .int .i64 10]) ∧ New w w' := by
  have hd : New w (w.alloc (.cells #[.int .i64 0, .slice none 0 0] 36)) := (Upd.refl _ _).alloc _
  have hb := box_new w (.int .i64 0) (.slice none 0 0)
  have HP := Bx.mk (RefPeek_no (h.new hd) i hi)
  clear h hi
  go_enter Tryd.func19, Tryd.ntmps19
  go_wp2_with (go_at_call 21; (with_reducible refine (HP.out).mono ?_); rintro e w2 ⟨rfl, hu2⟩; have hb2 := hu2.blk hb (fun q => q); obtain ⟨m0, m1⟩ := out_cells hb2; have f0 := out_fz hb2 0; have f1 := out_fz hb2 1; have hlt := (Array.getElem?_eq_some_iff.1 hb2).1; dsimp only)
  obtain ⟨p1, p2⟩ := peek_out w2 (hd.trans hu2) w.heap.size (Nat.le_refl _) (.int .i64 0) (.slice none 0 0) _ _ hb2
  exact bodyPost_ret (out_results Tryd.results19 _ _ w.heap.size _ (0, 0) rfl (((Upd.refl Nowhere _).alloc _).blk p2 (fun q => q)) rfl) rfl ⟨rfl, p1.alloc _⟩
theorem RefTake_nil (w : World) (i : Int) :
    Calls Tryd.prog 19 #[.pointer none, .int .i64 i] w fun e w' => e = .returned (.tuple #[.agg #[.int .i64 0, .slice none 0 0], .int .i64 10]) ∧ New w w' := by
  have hd : New w (w.alloc (.cells #[.int .i64 0, .slice none 0 0] 36)) := (Upd.refl _ _).alloc _
  have hb := box_new w (.int .i64 0) (.slice none 0 0)
  have HP := Bx.mk (fun w => RefPeek_nil w i)
  go_enter Tryd.func19, Tryd.ntmps19
  go_wp2_with (go_at_call 21; (with_reducible refine (HP.out _).mono ?_); rintro e w2 ⟨rfl, hu2⟩; have hb2 := hu2.blk hb (fun q => q); obtain ⟨m0, m1⟩ := out_cells hb2; have f0 := out_fz hb2 0; have f1 := out_fz hb2 1; have hlt := (Array.getElem?_eq_some_iff.1 hb2).1; dsimp only)
  obtain ⟨p1, p2⟩ := peek_out w2 (hd.trans hu2) w.heap.size (Nat.le_refl _) (.int .i64 0) (.slice none 0 0) _ _ hb2
  exact bodyPost_ret (out_results Tryd.results19 _ _ w.heap.size _ (0, 0) rfl (((Upd.refl Nowhere _).alloc _).blk p2 (fun q => q)) rfl) rfl ⟨rfl, p1.alloc _⟩
/-- what the operations of the region in the reference's Take leave -/
def TakeΦ (B g gl l c i : Nat) (xs : List It) : Nat → Value → World → Prop
  | 0, u, _ => u = .pointer (some ⟨g, 0, none⟩)
  | 1, u, w => ∃ b, u = .slice (some ⟨b, 0, none⟩) 0 0 ∧ w.ownsRow B 36 2 u 0 []
  | 2, u, _ => u = .pointer (some ⟨g, 0, none⟩)
  | 3, u, _ => u = .pointer (some ⟨g, 0, none⟩)
  | 4, u, _ => u = .pointer (some ⟨g, 1, none⟩)
  | 5, u, _ => u = .slice (some ⟨gl, 0, none⟩) l c
  | 6, u, _ => u = .int .i64 i
  | 7, u, _ => u = .slice (some ⟨gl, 0, none⟩) i c
  | 8, u, w => w.ownsRow B 36 2 u i (outs (xs.take i))
  | 9, u, _ => u = .pointer (some ⟨g, 0, none⟩)
  | 10, u, _ => u = .pointer (some ⟨g, 0, none⟩)
  | 11, u, _ => u = .pointer (some ⟨g, 1, none⟩)
  | 12, u, _ => u = .slice (some ⟨gl, 0, none⟩) l c
  | 13, u, _ => u = .int .i64 i
  | 14, u, _ => u = .int .i64 ((i + 1 : Nat) : Int)
  | 15, u, w => ∃ a, u = .slice (some a) (l - (i + 1)) (c - (i + 1)) ∧ Rd w (some a) (outs (xs.drop (i + 1)))
  | _, _, _ => True
theorem TakeΦ_new (B g gl l c i : Nat) (xs : List It) (j : Nat) (u : Value) (w1 w2 : World) (h : New w1 w2) (k : TakeΦ B g gl l c i xs j u w1) : TakeΦ B g gl l c i xs j u w2 := by
  unfold TakeΦ at k ⊢
  split at k
  all_goals first
    | exact k
    | exact own_new k h
    | (obtain ⟨b, h1, h2⟩ := k; exact ⟨b, h1, own_new h2 h⟩)
    | (obtain ⟨A, h1, h2⟩ := k; exact ⟨A, h1, h2.new h⟩)
theorem ref_blk {W w3 : World} {g B : Nat} {a b p q : Value} (hN : New W w3) (hg : W.heap[g]? = some (.cells #[p, q] 55 (0, 0))) (hB : W.heap[B]? = some (.cells #[a, b] 36 (0, 0))) (u : Value) :
    B ≠ g ∧ (w3.setCell ⟨g, 1, none⟩ u).heap[B]? = some (.cells #[a, b] 36 (0, 0)) := by
  have hBg : B ≠ g := by
    intro e
    subst e
    rw [hB] at hg
    injection hg with hg
    injection hg with _ hg
    exact absurd hg (by decide)
  refine ⟨hBg, ?_⟩
  rw [heap_setCell_other _ _ _ _ hBg]
  exact hN.blk hB (fun q => q)
theorem IsRef.at_out {W : World} {g B most : Nat} {v a b : Value} {xs : List It} (h : IsRef W g v most xs) (hB : W.heap[B]? = some (.cells #[a, b] 36 (0, 0))) (hne : ∀ k, v.ownBlock = some k → k ≠ B) (x y : Value) : IsRef ((W.setCell ⟨B, 0, none⟩ x).setCell ⟨B, 1, none⟩ y) g v most xs := by
  have hgB : g ≠ B := by
    intro e
    subst e
    have e2 := h.obj
    rw [hB] at e2
    injection e2 with e2
    injection e2 with _ e2
    exact absurd e2 (by decide)
  have hu : Upd (fun k => k = B) W ((W.setCell ⟨B, 0, none⟩ x).setCell ⟨B, 1, none⟩ y) := Upd.setCell (p := ⟨B, 1, none⟩) (Upd.set1 W ⟨B, 0, none⟩ x) (.inl rfl) y
  exact h.upd hu hgB hne (fun x hx k hk q => obj_apart hB (h.frs x hx) (by decide) ((show k = B from q) ▸ hk))
set_option maxRecDepth 20000 in
set_option maxHeartbeats 4000000 in
theorem RefTake_ok {w : World} {g most : Nat} {v : Value} {xs : List It} (h : IsRef w g v most xs) (i : Nat) (hi : i < xs.length) (hsz : xs.length ≤ 4096) (x : It) (hx : xs[i]? = some x) :
    Calls Tryd.prog 19 #[.pointer (some ⟨g, 0, none⟩), .int .i64 i] w fun e w' => e = .returned (.tuple #[.agg #[.int .i64 x.to, x.v], .int .i64 0]) ∧ ∃ v', IsRef w' g v' most (xs.take i ++ xs.drop (i + 1)) ∧ RefWrote g v v' w w' := by
  have hd : New w (w.alloc (.cells #[.int .i64 0, .slice none 0 0] 36)) := (Upd.refl _ _).alloc _
  have hb := box_new w (.int .i64 0) (.slice none 0 0)
  have h1 := h.new hd
  have HP := Bx.mk (RefPeek_ok h1 i hi x hx)
  obtain ⟨gl, c, rfl, hc, hcm, hne, -, -, -⟩ := h1.item i hi
  have hxin : x.In w := h.frs x (List.mem_of_getElem? hx)
  obtain ⟨Ax, cx, hxv, -⟩ := In.slice hxin
  rw [hxv] at HP ⊢
  clear hxin hxv hx
  generalize x.fr.length = nx at *
  have HL := Bx.mk (outs_length xs)
  have HO1 := Bx.mk (outs_one xs h1.frs)
  have HI := Bx.mk h1
  clear h h1
  generalize hll : xs.length = l at *
  have HLL := Bx.mk hll
  clear hll
  go_enter Tryd.func19, Tryd.ntmps19
  go_wp2_with (go_at_call 21; (with_reducible refine (HP.out).mono ?_); rintro e w2 ⟨rfl, hu2⟩; have hb2 := hu2.blk hb (fun q => q); have hlt := (Array.getElem?_eq_some_iff.1 hb2).1; have hal : New w2 (w2.alloc (.cells #[.int .i64 x.to, .slice Ax nx cx] 36)) := (Upd.refl _ _).alloc _; have hIB := (HI.out.new hu2).new hal; have hbA := hal.blk hb2 (fun q => q); have hbB := box_new w2 (.int .i64 x.to) (.slice Ax nx cx); dsimp only)
  have hn : New w (w2.alloc (.cells #[.int .i64 x.to, .slice Ax nx cx] 36)) := (hd.trans hu2).trans hal
  have hltB : w2.heap.size < (w2.alloc (.cells #[.int .i64 x.to, .slice Ax nx cx] 36)).heap.size := by simp
  clear hal
  generalize w2.alloc (.cells #[.int .i64 x.to, .slice Ax nx cx] 36) = w1 at *
  have hrd : Rd w1 (some ⟨gl, 0, none⟩) (outs xs) := by
    obtain ⟨A', c', e', _, _, hr, _⟩ := hIB.slice
    cases e'
    exact hr
  have k1 := hIB.c1
  have hd' : ∀ {w' : World}, New w1.drew w' → New w1 w' := fun k => ((Upd.refl Nowhere w1).drew).trans k
  refine wp_region_any (by kernel_rfl) ?_
  refine wpAny_take (i := 0) (v := .pointer (some ⟨g, 0, none⟩)) rfl (by kernel_rfl) (by kernel_rfl) (by kernel_rfl) (fun _ _ _ h => h) (.inl ⟨rfl, fun w => by unfold execOp; go_simp⟩) ?_
  refine wp_free 16 37 (TakeΦ w1.drew.heap.size g gl l c i xs) (TakeΦ_new _ _ _ _ _ _ _) (by kernel_rfl) (by kernel_rfl) (by kernel_rfl) (by kernel_rfl) ?_ ?_
  · intro a w' K j o hj ho met hK
    have hj' : j = 0 ∨ j = 1 ∨ j = 2 ∨ j = 3 ∨ j = 4 ∨ j = 5 ∨ j = 6 ∨ j = 7 ∨ j = 8 ∨ j = 9 ∨ j = 10 ∨ j = 11 ∨ j = 12 ∨ j = 13 ∨ j = 14 ∨ j = 15 := by have := (mem_heads.1 hj).1; omega
    have hN := met.new
    have q1 := (hd' hN).cell k1 (fun q => q)
    rcases hj' with rfl | rfl | rfl | rfl | rfl | rfl | rfl | rfl | rfl | rfl | rfl | rfl | rfl | rfl | rfl | rfl
    · exact absurd (mem_heads.1 hj).2 (by simp)
    all_goals cases ho
    · refine free_run (.slice (some ⟨w'.heap.size, 0, none⟩) 0 0) (w'.alloc (.cells #[] 36)) (by unfold execOp; go_simp) (hK _ _ ((Upd.refl _ _).alloc _) ⟨_, rfl, own_lit0 _ _ _ _ hN.size⟩)
    · have e0 := met.b 0 _ rfl (by kernel_rfl)
      refine free_run (.pointer (some ⟨g, 0, none⟩)) w' (by unfold execOp; go_simp) (hK _ _ (Upd.refl _ _) rfl)
    · have e0 : a.tmps[18]?.getD undef = _ := met.d 2 18 (by kernel_rfl)
      refine free_run (.pointer (some ⟨g, 0, none⟩)) w' (by unfold execOp; go_simp) (hK _ _ (Upd.refl _ _) rfl)
    · have e0 : a.tmps[19]?.getD undef = _ := met.d 3 19 (by kernel_rfl)
      refine free_run (.pointer (some ⟨g, 1, none⟩)) w' (by unfold execOp; go_simp) (hK _ _ (Upd.refl _ _) rfl)
    · have e0 : a.tmps[20]?.getD undef = _ := met.d 4 20 (by kernel_rfl)
      refine free_run (.slice (some ⟨gl, 0, none⟩) l c) w' (by unfold execOp; go_simp) (hK _ _ (Upd.refl _ _) rfl)
    · have e0 := met.b 1 (.int .i64 i) rfl (by kernel_rfl)
      refine free_run (.int .i64 i) w' (by unfold execOp; go_simp) (hK _ _ (Upd.refl _ _) rfl)
    · have e0 : a.tmps[21]?.getD undef = _ := met.d 5 21 (by kernel_rfl)
      have e1 : a.tmps[22]?.getD undef = _ := met.d 6 22 (by kernel_rfl)
      refine free_run (.slice (some ⟨gl, 0, none⟩) i c) w' (by unfold execOp; go_simp; intro q; omega) (hK _ _ (Upd.refl _ _) rfl)
    · obtain ⟨b, e0, o0⟩ : TakeΦ _ _ _ _ _ _ _ 1 (a.tmps[17]?.getD undef) w' := met.d 1 17 (by kernel_rfl)
      have e1 : a.tmps[23]?.getD undef = _ := met.d 7 23 (by kernel_rfl)
      rw [e0] at o0
      have hr1 : Rd w' (some ⟨gl, 0, none⟩) (outs (xs.take i)) := by rw [outs_take]; exact (hrd.new (hd' hN)).take _
      refine wp_app0 (.tmp 17) (.tmp 23) 53 53 rfl (w1.drew.heap.size) 36 (.agg #[.int .i64 0, .slice none 0 0]) 2 32 Tryd.underlying53 infoOut rfl _ o0 ((eval_tmp _ _).trans e0) _ _ _ (hr1.src Tryd.underlying53 (fun q => by cases q) (by rw [outs_length, List.length_take, HLL.out, Nat.min_eq_left (by omega)]) (fun u hu => HO1.out u (by rw [outs_take] at hu; exact List.mem_of_mem_take hu))) ((eval_tmp _ _).trans e1) hN.size (by omega) (by omega) ?_
      intro v2 w2 ho2 hn2
      exact hK _ _ hn2 ho2
    · have e0 := met.b 0 _ rfl (by kernel_rfl)
      refine free_run (.pointer (some ⟨g, 0, none⟩)) w' (by unfold execOp; go_simp) (hK _ _ (Upd.refl _ _) rfl)
    · have e0 : a.tmps[25]?.getD undef = _ := met.d 9 25 (by kernel_rfl)
      refine free_run (.pointer (some ⟨g, 0, none⟩)) w' (by unfold execOp; go_simp) (hK _ _ (Upd.refl _ _) rfl)
    · have e0 : a.tmps[26]?.getD undef = _ := met.d 10 26 (by kernel_rfl)
      refine free_run (.pointer (some ⟨g, 1, none⟩)) w' (by unfold execOp; go_simp) (hK _ _ (Upd.refl _ _) rfl)
    · have e0 : a.tmps[27]?.getD undef = _ := met.d 11 27 (by kernel_rfl)
      refine free_run (.slice (some ⟨gl, 0, none⟩) l c) w' (by unfold execOp; go_simp) (hK _ _ (Upd.refl _ _) rfl)
    · have e0 := met.b 1 (.int .i64 i) rfl (by kernel_rfl)
      refine free_run (.int .i64 i) w' (by unfold execOp; go_simp) (hK _ _ (Upd.refl _ _) rfl)
    · have e0 : a.tmps[29]?.getD undef = _ := met.d 13 29 (by kernel_rfl)
      refine free_run (.int .i64 ((i + 1 : Nat) : Int)) w' (by unfold execOp; go_simp; rw [IntKind.wrap_i64]; omega) (hK _ _ (Upd.refl _ _) rfl)
    · have e0 : a.tmps[28]?.getD undef = _ := met.d 12 28 (by kernel_rfl)
      have e1 : a.tmps[30]?.getD undef = _ := met.d 14 30 (by kernel_rfl)
      have hr2 := (hrd.new (hd' hN)).drop_lit ((i + 1) * 2)
      rw [← outs_drop] at hr2
      refine free_run (.slice (some ⟨gl, if c = i + 1 then 0 else 0 + (i + 1) * 2, none⟩) (l - (i + 1)) (c - (i + 1))) w' (by unfold execOp; go_simp; rw [if_pos (by omega)]; by_cases hq : c = i + 1 <;> simp [hq]) (hK _ _ (Upd.refl _ _) ⟨_, rfl, ?_⟩)
      by_cases hq : c = i + 1
      · rw [if_pos hq]
        exact .inl (by rw [List.drop_eq_nil_of_le (by rw [HLL.out]; omega)]; rfl)
      · rw [if_neg hq]; exact hr2
  · intro vs w' hw hΦ
    have h8 : w'.ownsRow _ _ 2 (vs 8) i (outs (xs.take i)) := hΦ 8 (by simp [heads])
    obtain ⟨a15, e15, hr15⟩ := hΦ 15 (by simp [heads])
    refine tail_at [(1, some 17), (2, some 18), (3, some 19), (4, some 20), (5, some 21), (6, some 22), (7, some 23), (8, some 24), (9, some 25), (10, some 26), (11, some 27), (12, some 28), (13, some 29), (14, some 30), (15, some 31)] vs (by kernel_rfl) ?_
    simp only [List.map, putAll, e15]
    obtain ⟨A6, c6, e6, _⟩ := own_rd h8
    generalize vs 8 = v8 at *
    subst e6
    generalize vs 1 = v1; generalize vs 2 = v2; generalize vs 3 = v3; generalize vs 4 = v4; generalize vs 5 = v5; generalize vs 6 = v6; generalize vs 7 = v7; generalize vs 9 = v9; generalize vs 10 = v10; generalize vs 11 = v11; generalize vs 12 = v12; generalize vs 13 = v13; generalize vs 14 = v14
    clear hΦ e15 vs
    have hs := hr15.src (n := l - (i + 1)) (c := c - (i + 1)) (size := 2) Tryd.underlying53 (fun q => by cases q) (by rw [outs_length, List.length_drop, HLL.out]) (fun u hu => HO1.out u (by rw [outs_drop] at hu; exact List.mem_of_mem_drop hu))
    have hBw : w1.drew.heap.size ≤ w'.heap.size := hw.size
    go_simp
    refine wpList_appB rfl _ _ 53 53 rfl (w1.drew.heap.size) 36 (.agg #[.int .i64 0, .slice none 0 0]) 2 32 Tryd.underlying53 infoOut rfl _ i _ h8 rfl _ _ _ hs rfl hBw (by have : maxLen = 9223372036854775807 := rfl; omega) (by omega) ?_
    intro vr wr hor hkr hwr
    obtain ⟨A7, c7, rfl, _⟩ := own_rd hor
    have hNr : New w1 wr := (hd' hw).then hkr (fun b hb => .inr (Nat.le_trans (show w1.heap.size ≤ w1.drew.heap.size from Nat.le_refl _) (own_ge h8 b hb)))
    have c1 := hNr.cell k1 (fun q => q)
    have fz : wr.frozen? ⟨g, 1, none⟩ = false := (hIB.new hNr).fz 1
    have hys : ∀ y ∈ xs.take i ++ xs.drop (i + 1), y ∈ xs := fun y hy => (List.mem_append.1 hy).elim (List.mem_of_mem_take ·) (List.mem_of_mem_drop ·)
    obtain ⟨r1, r2⟩ := ref_end (ys := xs.take i ++ xs.drop (i + 1)) (v5 := .slice A7 (i + (l - (i + 1))) c7) hIB hNr (by rw [outs_append, List.length_append, List.length_take, List.length_drop, HLL.out, Nat.min_eq_left (by omega)]; exact hor) (Nat.le_refl _) (fun y hy => own_new (hIB.frs y (hys y hy)) hNr)
    obtain ⟨nA, qA⟩ := ref_blk hNr hIB.obj hbA (.slice A7 (i + (l - (i + 1))) c7)
    obtain ⟨nB, qB⟩ := ref_blk hNr hIB.obj hbB (.slice A7 (i + (l - (i + 1))) c7)
    obtain ⟨s0, s1⟩ := out_cells qA
    obtain ⟨t0, t1⟩ := out_cells qB
    have f0 := out_fz qA 0
    have f1 := out_fz qA 1
    have hoB : ∀ k, (Value.slice A7 (i + (l - (i + 1))) c7).ownBlock = some k → k ≠ w.heap.size := fun k hk => by
      have h1 := own_ge hor k hk
      have h2 : w.heap.size < w1.heap.size := (Array.getElem?_eq_some_iff.1 hbA).1
      have h3 : w1.drew.heap.size = w1.heap.size := rfl
      omega
    go_wp2
    refine bodyPost_ret (out_results Tryd.results19 _ _ w.heap.size _ (0, 0) rfl (set_two qA _ _) rfl) rfl ⟨rfl, _, r1.at_out qA hoB _ _, ?_, fun b hb => .inr ?_⟩
    · exact ((New.upd hn).trans r2.upd).setCell (p := ⟨w.heap.size, 0, none⟩) (.inr (Nat.le_refl _)) _ |>.setCell (p := ⟨w.heap.size, 1, none⟩) (.inr (Nat.le_refl _)) _
    · have h1 := own_ge hor b hb
      have h3 : w1.drew.heap.size = w1.heap.size := rfl
      have := hn.size
      omega
end Go.Proofs.YtefnpkmbjabcmaaDoor
