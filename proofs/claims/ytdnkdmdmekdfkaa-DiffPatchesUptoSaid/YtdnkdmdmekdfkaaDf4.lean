/- nothing, change: walks. -/
import Derived.Test.YtdnkdmdmekdfkaaDf3
import Derived.Deep.DeepCutAuto
import Derived.Deep.CutBlock
import Derived.Test.YtdnkdmdmekdfkaaFreeT
namespace Go.Proofs.Ytdnkdmdmekdfkaa
open Go.RowKit
set_option maxRecDepth 4000 in
set_option maxHeartbeats 4000000 in
theorem nothing_any (i : Int) (m : Nat) (a1 : Option Addr) (n1 c1 : Nat) (a2 : Option Addr) (n2 c2 : Nat) (w : World) : Calls Try.prog 44 #[.agg #[.int .u32 i, .int .u8 m, .slice a1 n1 c1, .slice a2 n2 c2]] w fun e w' => e = .returned (.bool (decide (m = 0 ∧ n1 = 0 ∧ n2 = 0))) ∧ New w w' := by
  have hU := (Upd.refl Nowhere w).alloc (.cells #[.int .u32 i, .int .u8 m, .slice a1 n1 c1, .slice a2 n2 c2] 57)
  obtain ⟨z0, z1, z2, z3, zf⟩ := o4_at (heap_alloc_new w (.cells #[.int .u32 i, .int .u8 m, .slice a1 n1 c1, .slice a2 n2 c2] 57))
  by_cases h1 : m = 0
  · have d1 : ((m : Int) == 0) = true := by simp [h1]
    have D1 := Bx.mk h1
    by_cases h2 : n1 = 0
    · have d2 : ((n1 : Int) == 0) = true := by simp [h2]
      have D2 := Bx.mk h2
      clear h1 h2
      go_enter Try.func44, Try.ntmps44
      repeat' (first | fail | go_values | go_skip | go_guarded | go_step | go_upon | go_back)
      go_returns
      refine ⟨?_, hU⟩
      exact congrArg (fun z => Ending.returned (Value.bool z)) (Bool.eq_iff_iff.2 (by simp only [decide_eq_true_eq, beq_iff_eq]; have := D1.out; have := D2.out; omega))
    · have d2 : ((n1 : Int) == 0) = false := by simp [h2]
      have D2 := Bx.mk h2
      clear h1 h2
      go_enter Try.func44, Try.ntmps44
      repeat' (first | fail | go_values | go_skip | go_guarded | go_step | go_upon | go_back)
      go_returns
      refine ⟨?_, hU⟩
      rw [decide_eq_false (fun h => D2.out h.2.1)]; rfl
  · have d1 : ((m : Int) == 0) = false := by simp [h1]
    have D1 := Bx.mk h1
    clear h1
    go_enter Try.func44, Try.ntmps44
    repeat' (first | fail | go_values | go_skip | go_guarded | go_step | go_upon | go_back)
    go_returns
    refine ⟨?_, hU⟩
    rw [decide_eq_false (fun h => D1.out h.1)]; rfl
def newP (was now : List C4) : List C4 := now.filter fun c => (fnd was c.k).isNone
def setP (was now : List C4) : List C4 := now.filter fun c => match fnd was c.k with | some x => decide (x ≠ c) | none => false
def lostP (was now : List C4) : BitVec 8 := mk was &&& ~~~ mk now
theorem andNot_bv (x y : BitVec 8) : bits .andNot .u8 (x.toNat : Int) (y.toNat : Int) = ((x &&& ~~~y).toNat : Int) := by
  rw [u8_andNot_nat _ _ x.isLt y.isLt, BitVec.toNat_and, BitVec.toNat_not]
theorem c3_new {w w' : World} {a b c : Addr} {x y z : Value} (k : New w w') (h : w.cell? a = some x ∧ w.cell? b = some y ∧ w.cell? c = some z) : w'.cell? a = some x ∧ w'.cell? b = some y ∧ w'.cell? c = some z := ⟨k.cell h.1 (fun q => q), k.cell h.2.1 (fun q => q), k.cell h.2.2 (fun q => q)⟩
theorem newP_take (was now : List C4) (j : Nat) (h : j < now.length) : newP was (now.take (j + 1)) = newP was (now.take j) ++ (if (fnd was now[j].k).isNone then [now[j]] else []) := by
  unfold newP
  rw [List.take_succ_eq_append_getElem h, List.filter_append, List.filter_cons, List.filter_nil]
theorem setP_take (was now : List C4) (j : Nat) (h : j < now.length) : setP was (now.take (j + 1)) = setP was (now.take j) ++ (if (match fnd was now[j].k with | some x => decide (x ≠ now[j]) | none => false) then [now[j]] else []) := by
  unfold setP
  rw [List.take_succ_eq_append_getElem h, List.filter_append, List.filter_cons, List.filter_nil]
theorem src_oneB {P : Program} {w : World} {t e : TypeId} (ht : P.underlying t = some (.slice e)) (cs : List Value) (size : Nat) (hs : cs.length = size) (h1 : ∀ u ∈ cs, u.oneCell' = true) (B : Nat) (hB : w.heap.size = B) : Src P size t (.slice (some ⟨B, 0, none⟩) 1 1) 1 cs (w.alloc (.cells cs.toArray e)) := hB ▸ src_one ht cs size hs h1
def slv (s : Sl) : Value := .slice s.1 s.2.1 s.2.2
def Apart (s1 s2 : Sl) : Prop := ∀ b, (Value.slice s1.1 s1.2.1 s1.2.2).ownBlock = some b → ¬ (Value.slice s2.1 s2.2.1 s2.2.2).ownBlock = some b
theorem Apart.symm {s1 s2 : Sl} (h : Apart s1 s2) : Apart s2 s1 := fun b h2 h1 => h b h1 h2
theorem cc_one (q : C4) : ∀ u ∈ [Value.int .u8 q.k, .int .i32 q.a, .int .i32 q.b, .int .i32 q.c], u.oneCell' = true := by
  intro u hu
  simp at hu
  rcases hu with rfl | rfl | rfl | rfl <;> rfl
theorem ccells_snoc (l : List C4) (q : C4) : ccells (l ++ [q]) = ccells l ++ [.int .u8 q.k, .int .i32 q.a, .int .i32 q.b, .int .i32 q.c] := by
  unfold ccells; rw [List.flatMap_append]; rfl
/-- a row grows, another one of its kind stays, an object that holds both is told -/
theorem grow_two {base : Nat} {w w5 : World} {s t : Sl} {l m : List C4} {v : Value} {q : C4} (h1 : Cn base w s l) (h2 : Cn base w t m) (ha : Apart s t)
    (ho : w5.ownsRow base 46 4 v (l.length + 1) (ccells l ++ [.int .u8 q.k, .int .i32 q.a, .int .i32 q.b, .int .i32 q.c])) (hk : Upd (fun k => (Value.slice s.1 s.2.1 s.2.2).ownBlock = some k) w w5) (hw : ∀ b, v.ownBlock = some b → (Value.slice s.1 s.2.1 s.2.2).ownBlock = some b ∨ w.heap.size ≤ b) :
    ∃ A n c, v = .slice A n c ∧ Cn base w5 (A, n, c) (l ++ [q]) ∧ Cn base w5 t m ∧ Apart (A, n, c) t := by
  obtain ⟨A, c, rfl, _⟩ := own_rd ho
  refine ⟨A, _, c, rfl, ?_, own_upd h2 hk (fun b hb q => ha b q hb), fun b hb hb2 => ?_⟩
  · unfold Cn; rw [List.length_append, ccells_snoc]; exact ho
  · rcases hw b hb with q | q
    · exact ha b q hb2
    · have := (h2.lt b hb2).2; omega
theorem Cn.obj {base T g : Nat} {w w' : World} {s : Sl} {l : List C4} {cs : Array Value} {fz : Nat × Nat} (h : Cn base w s l) (hg : w.heap[g]? = some (.cells cs T fz)) (hne : 46 ≠ T) (k : Upd (fun b => b = g) w w') : Cn base w' s l := by
  refine own_upd h k fun b hb q => ?_
  subst q
  obtain ⟨hl, ⟨hv, _⟩ | ⟨g3, cap, cur, hv, _, hh, r⟩⟩ := h
  · rw [hv] at hb; cases hb
  · rw [hv] at hb
    simp only [Value.ownBlock, Option.some.injEq] at hb
    subst hb
    rw [hg] at hh
    injection hh with hh
    injection hh with _ hh
    exact hne hh.symm
theorem obj_other {base T g n : Nat} {w w' : World} {v : Value} {xs : List Value} {e size : Nat} {cs : Array Value} {fz : Nat × Nat} (h : w.ownsRow base e size v n xs) (hg : w.heap[g]? = some (.cells cs T fz)) (hne : e ≠ T) (k : Upd (fun b => v.ownBlock = some b) w w') : w'.heap[g]? = some (.cells cs T fz) := by
  refine k.blk hg fun q => ?_
  obtain ⟨hl, ⟨rfl, _⟩ | ⟨g3, cap, cur, rfl, _, hh, r⟩⟩ := h
  · cases q
  · simp only [Value.ownBlock, Option.some.injEq] at q
    subst q
    rw [hg] at hh
    injection hh with hh
    injection hh with _ hh
    exact hne hh.symm
theorem upd_set (w : World) (B o : Nat) (x : Value) : Upd (fun b => b = B) w (w.setCell ⟨B, o, none⟩ x) := Upd.set1 w ⟨B, o, none⟩ x
theorem upd_set4 (w : World) (B : Nat) (x y z u : Value) : Upd (fun b => b = B) w ((((w.setCell ⟨B, 0, none⟩ x).setCell ⟨B, 1, none⟩ y).setCell ⟨B, 2, none⟩ z).setCell ⟨B, 3, none⟩ u) :=
  ((((Upd.refl (fun b => b = B) w).setCell (p := ⟨B, 0, none⟩) (.inl rfl) x).setCell (p := ⟨B, 1, none⟩) (.inl rfl) y).setCell (p := ⟨B, 2, none⟩) (.inl rfl) z).setCell (p := ⟨B, 3, none⟩) (.inl rfl) u
set_option maxRecDepth 4000 in
set_option maxHeartbeats 16000000 in
theorem change_any (iw i : Nat) (sw sn : Sl) (lw ln : List C4) (w : World) (hw : Co w sw lw) (hn : Co w sn ln) (hlw : lw.length ≤ 1000) (hln : ln.length ≤ 1000) :
    Calls Try.prog 43 #[.agg #[.int .u32 iw, .slice sw.1 sw.2.1 sw.2.2], .agg #[.int .u32 i, .slice sn.1 sn.2.1 sn.2.2]] w fun e w' => (∃ s1 s2 : Sl, e = .returned (.agg #[.int .u32 i, .int .u8 (lostP lw ln).toNat, .slice s1.1 s1.2.1 s1.2.2, .slice s2.1 s2.2.1 s2.2.2]) ∧ Cn w.heap.size w' s1 (newP lw ln) ∧ Cn w.heap.size w' s2 (setP lw ln)) ∧ New w w' := by
  obtain ⟨aw, nw, cw⟩ := sw
  obtain ⟨an, nn, cn⟩ := sn
  dsimp only
  have U0 := ((Upd.refl Nowhere w).alloc (.cells #[.int .u32 iw, .slice aw nw cw] 43))
  obtain ⟨b0, b1⟩ := e2_new w iw aw nw cw
  have U1 := (Upd.refl Nowhere (w.alloc (.cells #[.int .u32 iw, .slice aw nw cw] 43))).alloc (.cells #[.int .u32 i, .slice an nn cn] 43)
  obtain ⟨d0, d1⟩ := e2_new (w.alloc (.cells #[.int .u32 iw, .slice aw nw cw] 43)) i an nn cn
  have U2 := (Upd.refl Nowhere ((w.alloc (.cells #[.int .u32 iw, .slice aw nw cw] 43)).alloc (.cells #[.int .u32 i, .slice an nn cn] 43))).alloc (.cells #[.int .u32 0, .int .u8 0, .slice none 0 0, .slice none 0 0] 57)
  have g1 := U2.cell (U1.cell b1 (fun q => q)) (fun q => q)
  have g2 := U2.cell d0 (fun q => q)
  have g3 := U2.cell d1 (fun q => q)
  have hob := heap_alloc_new ((w.alloc (.cells #[.int .u32 iw, .slice aw nw cw] 43)).alloc (.cells #[.int .u32 i, .slice an nn cn] 43)) (.cells #[.int .u32 0, .int .u8 0, .slice none 0 0, .slice none 0 0] 57)
  have hN0 := (U0.trans U1).trans U2
  clear U0 U1 U2 b0 b1 d0 d1
  have e1 : (w.alloc (.cells #[.int .u32 iw, .slice aw nw cw] 43)).heap.size = w.heap.size + 1 := by simp
  have e2 : ((w.alloc (.cells #[.int .u32 iw, .slice aw nw cw] 43)).alloc (.cells #[.int .u32 i, .slice an nn cn] 43)).heap.size = w.heap.size + 1 + 1 := by simp
  rw [e1] at g2 g3
  rw [e2] at hob
  clear e1 e2
  have HB := Bx.mk (show w.heap.size ≤ w.heap.size + 1 + 1 by omega)
  go_enter Try.func43, Try.ntmps43
  repeat' (first | fail | go_values | go_skip | go_guarded | go_step | go_upon | go_back)
  generalize ((w.alloc (.cells #[.int .u32 iw, .slice aw nw cw] 43)).alloc (.cells #[.int .u32 i, .slice an nn cn] 43)).alloc (.cells #[.int .u32 0, .int .u8 0, .slice none 0 0, .slice none 0 0] 57) = w1 at *
  generalize w.heap.size + 1 + 1 = B2 at *
  generalize w.heap.size + 1 = B1 at *
  obtain ⟨B0, hB0⟩ : ∃ x, w.heap.size = x := ⟨_, rfl⟩
  rw [hB0] at g1 ⊢
  have HB0 := Bx.mk hB0
  clear hB0
  have HOB := Bx.mk hob
  clear hob
  have HN0 := Bx.mk hN0
  obtain ⟨M1, hM1⟩ : ∃ x, (mk lw).toNat = x := ⟨_, rfl⟩
  obtain ⟨M2, hM2⟩ : ∃ x, (mk ln).toNat = x := ⟨_, rfl⟩
  have hd : New w1 w1.drew := (Upd.refl Nowhere w1).drew
  have s0 := c3_new hd ⟨g1, g2, g3⟩
  have HMw := Bx.mk (fun (w' : World) (k : New w1 w') => Mask_any aw nw cw lw w' hw.len (by have := hw.len; dsimp only at this; omega) ((hw.new hN0).rd.new k))
  have HMn := Bx.mk (fun (w' : World) (k : New w1 w') => Mask_any an nn cn ln w' hn.len (by have := hn.len; dsimp only at this; omega) ((hn.new hN0).rd.new k))
  rw [hM1] at HMw
  rw [hM2] at HMn
  have HLO := Bx.mk (show bits .andNot .u8 (M1 : Int) (M2 : Int) = ((lostP lw ln).toNat : Int) by rw [← hM1, ← hM2]; exact andNot_bv _ _)
  clear hM1 hM2
  go_cut [5] (fun v wx => ∃ B5, v = .pointer (some ⟨B5, 0, none⟩) ∧ w1.heap.size ≤ B5 ∧ Bx (wx.heap[B5]? = some (.cells #[.int .u32 i, .int .u8 (bits .andNot .u8 M1 M2), .slice none 0 0, .slice none 0 0] 57 (0, 0))) ∧ New w1 wx)
  case first =>
    refine wp_region_any (by kernel_rfl) ?_
    refine wp_free 11 56 (PhiOf [fun v _ => v = .pointer (some ⟨B1, 0, none⟩), fun v _ => v = .int .u32 i, fun v _ => v = .pointer (some ⟨B0, 1, none⟩), fun v _ => v = .slice aw nw cw, fun v _ => v = .int .u8 M1, fun v _ => v = .pointer (some ⟨B1, 1, none⟩), fun v _ => v = .slice an nn cn, fun v _ => v = .int .u8 M2, fun v _ => v = .int .u8 (bits .andNot .u8 M1 M2), fun v _ => v = .agg #[.int .u32 i, .int .u8 (bits .andNot .u8 M1 M2), .slice none 0 0, .slice none 0 0], fun v w' => ∃ B5, v = .pointer (some ⟨B5, 0, none⟩) ∧ w1.heap.size ≤ B5 ∧ w'.heap[B5]? = some (.cells #[.int .u32 0, .int .u8 0, .slice none 0 0, .slice none 0 0] 57 (0, 0))]) (PhiOf_stable ⟨fun _ _ _ _ h => h, fun _ _ _ _ h => h, fun _ _ _ _ h => h, fun _ _ _ _ h => h, fun _ _ _ _ h => h, fun _ _ _ _ h => h, fun _ _ _ _ h => h, fun _ _ _ _ h => h, fun _ _ _ _ h => h, fun _ _ _ _ h => h, fun _ _ _ hn ⟨B, h1, h2, h3⟩ => ⟨B, h1, h2, hn.blk h3 (fun q => q)⟩, trivial⟩) (by kernel_rfl) (by kernel_rfl) (by kernel_rfl) (by kernel_rfl) ?_ ?_
    · intro a w' K i o hi ho met hK
      have hi' : i = 0 ∨ i = 1 ∨ i = 2 ∨ i = 3 ∨ i = 4 ∨ i = 5 ∨ i = 6 ∨ i = 7 ∨ i = 8 ∨ i = 9 ∨ i = 10 := by have := (mem_heads.1 hi).1; omega
      have hN := met.new
      have hN' : New w1 w' := hd.trans hN
      have q1 := hN'.cell g1 (fun q => q)
      have q2 := hN'.cell g2 (fun q => q)
      have q3 := hN'.cell g3 (fun q => q)
      rcases hi' with rfl | rfl | rfl | rfl | rfl | rfl | rfl | rfl | rfl | rfl | rfl
      all_goals cases ho
      · have e3 := met.b 3 _ rfl (by kernel_rfl)
        refine free_run (.pointer (some ⟨B1, 0, none⟩)) w' (by unfold execOp; go_simp) (hK _ _ (Upd.refl _ _) rfl)
      · have e10 : a.tmps[10]?.getD undef = .pointer (some ⟨B1, 0, none⟩) := met.d 0 10 (by kernel_rfl)
        refine free_run (.int .u32 i) w' (by unfold execOp; go_simp) (hK _ _ (Upd.refl _ _) rfl)
      · have e2 := met.b 2 _ rfl (by kernel_rfl)
        refine free_run (.pointer (some ⟨B0, 1, none⟩)) w' (by unfold execOp; go_simp) (hK _ _ (Upd.refl _ _) rfl)
      · have e12 : a.tmps[12]?.getD undef = .pointer (some ⟨B0, 1, none⟩) := met.d 2 12 (by kernel_rfl)
        refine free_run (.slice aw nw cw) w' (by unfold execOp; go_simp) (hK _ _ (Upd.refl _ _) rfl)
      · have e13 : a.tmps[13]?.getD undef = .slice aw nw cw := met.d 3 13 (by kernel_rfl)
        unfold Oper.wp execOp
        go_simp
        (first | (go_at_call 62; (with_reducible refine (HMw.out _ hN').mono ?_); rintro e w2 ⟨rfl, k1⟩; dsimp only))
        exact hK _ _ k1 rfl
      · have e3 := met.b 3 _ rfl (by kernel_rfl)
        refine free_run (.pointer (some ⟨B1, 1, none⟩)) w' (by unfold execOp; go_simp) (hK _ _ (Upd.refl _ _) rfl)
      · have e15 : a.tmps[15]?.getD undef = .pointer (some ⟨B1, 1, none⟩) := met.d 5 15 (by kernel_rfl)
        refine free_run (.slice an nn cn) w' (by unfold execOp; go_simp) (hK _ _ (Upd.refl _ _) rfl)
      · have e16 : a.tmps[16]?.getD undef = .slice an nn cn := met.d 6 16 (by kernel_rfl)
        unfold Oper.wp execOp
        go_simp
        (first | (go_at_call 62; (with_reducible refine (HMn.out _ hN').mono ?_); rintro e w2 ⟨rfl, k1⟩; dsimp only))
        exact hK _ _ k1 rfl
      · have e14 : (fun v _ => v = .int .u8 M1) (a.tmps[14]?.getD undef) w' := met.d 4 14 (by kernel_rfl)
        have e17 : (fun v _ => v = .int .u8 M2) (a.tmps[17]?.getD undef) w' := met.d 7 17 (by kernel_rfl)
        refine free_run (.int .u8 (bits .andNot .u8 M1 M2)) w' (by unfold execOp; go_simp) (hK _ _ (Upd.refl _ _) rfl)
      · have e11 : a.tmps[11]?.getD undef = .int .u32 i := met.d 1 11 (by kernel_rfl)
        have e18 : a.tmps[18]?.getD undef = .int .u8 (bits .andNot .u8 M1 M2) := met.d 8 18 (by kernel_rfl)
        refine free_run (.agg #[.int .u32 i, .int .u8 (bits .andNot .u8 M1 M2), .slice none 0 0, .slice none 0 0]) w' (by unfold execOp; go_simp) (hK _ _ (Upd.refl _ _) rfl)
      · refine free_run (.pointer (some ⟨w'.heap.size, 0, none⟩)) (w'.alloc (.cells #[.int .u32 0, .int .u8 0, .slice none 0 0, .slice none 0 0] 57)) (by unfold execOp; go_simp) (hK _ _ ((Upd.refl _ _).alloc _) ⟨_, rfl, hN'.size, heap_alloc_new _ _⟩)
    · intro vs w' hw hΦ
      have p0 : vs 0 = .pointer (some ⟨B1, 0, none⟩) := hΦ 0 (by simp [heads])
      have p1 : vs 1 = .int .u32 i := hΦ 1 (by simp [heads])
      have p2 : vs 2 = .pointer (some ⟨B0, 1, none⟩) := hΦ 2 (by simp [heads])
      have p3 : vs 3 = .slice aw nw cw := hΦ 3 (by simp [heads])
      have p4 : (fun v _ => v = .int .u8 M1) (vs 4) w' := hΦ 4 (by simp [heads])
      have p5 : vs 5 = .pointer (some ⟨B1, 1, none⟩) := hΦ 5 (by simp [heads])
      have p6 : vs 6 = .slice an nn cn := hΦ 6 (by simp [heads])
      have p7 : (fun v _ => v = .int .u8 M2) (vs 7) w' := hΦ 7 (by simp [heads])
      have p8 : vs 8 = .int .u8 (bits .andNot .u8 M1 M2) := hΦ 8 (by simp [heads])
      have p9 : vs 9 = .agg #[.int .u32 i, .int .u8 (bits .andNot .u8 M1 M2), .slice none 0 0, .slice none 0 0] := hΦ 9 (by simp [heads])
      have p10 : (fun v w' => ∃ B5, v = .pointer (some ⟨B5, 0, none⟩) ∧ w1.heap.size ≤ B5 ∧ w'.heap[B5]? = some (.cells #[.int .u32 0, .int .u8 0, .slice none 0 0, .slice none 0 0] 57 (0, 0))) (vs 10) w' := hΦ 10 (by simp [heads])
      refine tail_at [(0, some 10), (1, some 11), (2, some 12), (3, some 13), (4, some 14), (5, some 15), (6, some 16), (7, some 17), (8, some 18), (9, some 19), (10, some 5)] vs (by kernel_rfl) ?_
      simp only [List.map, putAll]
      clear hΦ
      generalize vs 0 = v0 at *
      generalize vs 1 = v1 at *
      generalize vs 2 = v2 at *
      generalize vs 3 = v3 at *
      generalize vs 4 = v4 at *
      generalize vs 5 = v5 at *
      generalize vs 6 = v6 at *
      generalize vs 7 = v7 at *
      generalize vs 8 = v8 at *
      generalize vs 9 = v9 at *
      generalize vs 10 = v10 at *
      subst p0
      subst p1
      subst p2
      subst p3
      subst p5
      subst p6
      subst p8
      subst p9
      obtain ⟨B5, rfl, hB5, hob5⟩ := p10
      subst p4
      subst p7
      obtain ⟨z0, z1, z2, z3, zf⟩ := o4_at hob5
      repeat' (first | fail | go_values | go_skip | go_guarded | go_step | go_upon | go_back)
      go_meet
      case rel => exact ⟨B5, rfl, hB5, ⟨o4_set hob5 _ _ _ _⟩, new_set4 (hd.trans hw) hB5 _ _ _ _⟩
  case rest =>
    obtain ⟨B5, rfl, hB5, HOB5, hN5⟩ := hcut
    have g35 := hN5.cell g3 (fun q => q)
    have hB05 : B0 ≤ B5 := by have := HN0.out.size; rw [HB0.out] at this; omega
    have HN5 := Bx.mk hN5
    rw [HLO.out] at HOB5
    have HLn := Bx.mk (show ln.length = nn from hn.len)
    have hnn : nn ≤ 1000 := by have := HLn.out; omega
    obtain ⟨Z, hZ⟩ : ∃ Z, ((lostP lw ln).toNat : Int) = Z := ⟨_, rfl⟩
    rw [hZ] at HOB5
    have HZ := Bx.mk hZ
    clear hZ HLO
    have g1' := g1
    clear HMw HMn hN5 hd s0 g1 g2
    repeat' (first | fail | go_values | go_skip | go_guarded | go_step | go_upon | go_back)
    go_loopw [23] (fun iv wr => ∃ (j : Nat) (s1 s2 : Sl), iv = .int .i64 j ∧ j ≤ nn ∧ Bx (wr.heap[B5]? = some (.cells #[.int .u32 i, .int .u8 Z, .slice s1.1 s1.2.1 s1.2.2, .slice s2.1 s2.2.1 s2.2.2] 57 (0, 0))) ∧ Bx (Cn w1.heap.size wr s1 (newP lw (ln.take j))) ∧ Bx (Cn w1.heap.size wr s2 (setP lw (ln.take j))) ∧ Bx (Apart s1 s2) ∧ Bx (New w1 wr)) (fun iv _ => nn - (intOf iv).toNat)
    case atStart => exact ⟨0, (none, 0, 0), (none, 0, 0), rfl, Nat.zero_le _, HOB5, ⟨World.ownsRow_nil _ _ _ _⟩, ⟨World.ownsRow_nil _ _ _ _⟩, ⟨fun b hb => by cases hb⟩, HN5⟩
    case round =>
      clear HOB5 g35
      obtain ⟨j, ⟨x0, x1, x2⟩, ⟨y0, y1, y2⟩, rfl, hj, HO, HC1, HC2, HAP, HU⟩ := hrel
      dsimp only at HO
      by_cases hlt : j < nn
      · have hltI : (j : Int) < (nn : Int) := by omega
        have hjL : j < ln.length := by rw [HLn.out]; exact hlt
        obtain ⟨eb, eo, rfl, h0, h1, h2, h3⟩ := (hn.new (HN0.out.trans HU.out)).rd.four j hjL
        have HT1 := Bx.mk (newP_take lw ln j hjL)
        have HT2 := Bx.mk (setP_take lw ln j hjL)
        have hb1 : (newP lw (ln.take j)).length ≤ 1000 := Nat.le_trans (List.length_filter_le _ _) (by rw [List.length_take]; omega)
        have hb2 : (setP lw (ln.take j)).length ≤ 1000 := Nat.le_trans (List.length_filter_le _ _) (by rw [List.length_take]; omega)
        generalize ln[j] = q at *
        obtain ⟨k, a, b, c'⟩ := q
        dsimp only at h0 h1 h2 h3 HT1 HT2
        obtain ⟨m0, m1, m2, m3⟩ := c4_new wr k a b c'
        have hA := (Upd.refl Nowhere wr).alloc (.cells #[.int .u8 k, .int .i32 a, .int .i32 b, .int .i32 c'] 46)
        have hbox := heap_alloc_new wr (.cells #[.int .u8 k, .int .i32 a, .int .i32 b, .int .i32 c'] 46)
        have HF := Bx.mk (fun (w' : World) (kk : New w1 w') => find_any aw nw cw lw k w' (hw.new (HN0.out.trans kk)) hlw)
        have gw := (HU.out.trans hA).cell g1' (fun q => q)
        have hNA := HU.out.trans hA
        have HD := Bx.mk (fun x w => comp_ne w x ⟨k, a, b, c'⟩)
        cases hF : fnd lw k with
        | none =>
          rw [hF] at HF HT1 HT2
          have HFN := Bx.mk (fun w' (kk : New w1 w') => (HF.out w' kk).mono (R' := fun e w2 => e = .returned (.tuple #[.agg #[.int .u8 zC.k, .int .i32 zC.a, .int .i32 zC.b, .int .i32 zC.c], .bool false]) ∧ New w' w2) fun e w2 ⟨⟨X, hX, he⟩, hu⟩ => ⟨by rw [he, hX]; rfl, hu⟩)
          clear HF
          have HT1' := Bx.mk (show newP lw (ln.take (j + 1)) = newP lw (ln.take j) ++ [⟨k, a, b, c'⟩] from HT1.out)
          have HT2' := Bx.mk (show setP lw (ln.take (j + 1)) = setP lw (ln.take j) by rw [HT2.out]; exact List.append_nil _)
          clear HT1 HT2 hF HD
          have hs1 := fun w B => src_oneB (P := Try.prog) (w := w) Try.underlying41 [.int .u8 k, .int .i32 a, .int .i32 b, .int .i32 c'] 4 rfl (cc_one ⟨k, a, b, c'⟩) B
          repeat' (first | (first
            | (go_at_call 49; (with_reducible refine (HFN.out _ hNA).mono ?_); rintro e w2 ⟨rfl, hu2⟩; (have hX := ((Upd.refl Nowhere w2).alloc (.cells #[.int .u8 zC.k, .int .i32 zC.a, .int .i32 zC.b, .int .i32 zC.c] 46)); have hv2 := (hA.trans hu2).trans hX; obtain ⟨z0, z1, z2, z3, zf⟩ := o4_at (hv2.blk HO.out (fun q => q)); obtain ⟨b0, b1, b2, b3, bf⟩ := o4_at ((hu2.trans hX).blk hbox (fun q => q)); have hv3 := hv2.alloc (.cells #[.int .u8 k, .int .i32 a, .int .i32 b, .int .i32 c'] 46); have ho1 := own_new HC1.out hv3; have hbs := (HU.out.trans hv3).size); dsimp only)
            | (at_builtin; refine wpList_appB rfl _ _ 41 41 rfl _ 46 (.agg #[.int .u8 0, .int .i32 0, .int .i32 0, .int .i32 0]) 4 16 Try.underlying41 infoC rfl _ _ _ ho1 rfl _ _ _ (hs1 _ _ (by simp)) rfl hbs ?c1 ?c2 ?_; (case c1 => unfold maxLen; omega); (case c2 => omega); intro v5 w5 ho5 hk5 hw5); (obtain ⟨A5, n5, c5, rfl, D1, D2, D3⟩ := grow_two (q := ⟨k, a, b, c'⟩) ho1 (HC2.out.new hv3) HAP.out ho5 hk5 hw5; have HB5 := Bx.mk (obj_other ho1 (hv3.blk HO.out (fun q => q)) (by decide) hk5); obtain ⟨_, _, y2', _, yf⟩ := o4_at HB5.out)) | go_values | go_skip | go_guarded | go_step | go_upon | go_back)
          have hN5 : New w1 w5 := (HU.out.trans hv3).then hk5 (fun b hb => .inr (own_ge ho1 b hb))
          go_roundw
          case rel => exact ⟨j + 1, (A5, n5, c5), (y0, y1, y2), by go_num, by omega, ⟨heap_setCell_same w5 B5 2 _ _ _ HB5.out⟩, ⟨by rw [HT1'.out]; exact D1.obj HB5.out (by decide) (upd_set _ _ _ _)⟩, ⟨by rw [HT2'.out]; exact D2.obj HB5.out (by decide) (upd_set _ _ _ _)⟩, ⟨D3⟩, ⟨hN5.setCell (p := ⟨B5, 2, none⟩) (.inr hB5) _⟩⟩
          case measure => simp [intOf]; omega
        | some X =>
          rw [hF] at HF HT1 HT2
          obtain ⟨Xk, Xa, Xb, Xc⟩ := X
          have HFN := Bx.mk (fun w' (kk : New w1 w') => (HF.out w' kk).mono (R' := fun e w2 => e = .returned (.tuple #[.agg #[.int .u8 Xk, .int .i32 Xa, .int .i32 Xb, .int .i32 Xc], .bool true]) ∧ New w' w2) fun e w2 ⟨⟨X, hX, he⟩, hu⟩ => ⟨by rw [he, hX]; rfl, hu⟩)
          have HT1' := Bx.mk (show newP lw (ln.take (j + 1)) = newP lw (ln.take j) by rw [HT1.out]; exact List.append_nil _)
          have hne := fun w => HD.out ⟨Xk, Xa, Xb, Xc⟩ w
          dsimp only at hne
          have HT3 := Bx.mk (show setP lw (ln.take (j + 1)) = setP lw (ln.take j) ++ (if decide ((⟨Xk, Xa, Xb, Xc⟩ : C4) ≠ ⟨k, a, b, c'⟩) = true then [⟨k, a, b, c'⟩] else []) from HT2.out)
          clear HF HT1 HT2 HD hF
          generalize decide ((⟨Xk, Xa, Xb, Xc⟩ : C4) ≠ ⟨k, a, b, c'⟩) = D at *
          have hs1 := fun w B => src_oneB (P := Try.prog) (w := w) Try.underlying41 [.int .u8 k, .int .i32 a, .int .i32 b, .int .i32 c'] 4 rfl (cc_one ⟨k, a, b, c'⟩) B
          cases D with
          | false =>
            have HT2' := Bx.mk (show setP lw (ln.take (j + 1)) = setP lw (ln.take j) by rw [HT3.out]; exact List.append_nil _)
            clear HT3
            repeat' (first | (first
              | (go_at_call 49; (with_reducible refine (HFN.out _ hNA).mono ?_); rintro e w2 ⟨rfl, hu2⟩; (have hX := ((Upd.refl Nowhere w2).alloc (.cells #[.int .u8 Xk, .int .i32 Xa, .int .i32 Xb, .int .i32 Xc] 46)); have hv2 := (hA.trans hu2).trans hX; obtain ⟨b0, b1, b2, b3, bf⟩ := o4_at ((hu2.trans hX).blk hbox (fun q => q))); dsimp only)) | go_values | go_skip | go_guarded | go_step | go_upon | go_back)
            go_roundw
            case rel => exact ⟨j + 1, (x0, x1, x2), (y0, y1, y2), by go_num, by omega, ⟨hv2.blk HO.out (fun q => q)⟩, ⟨by rw [HT1'.out]; exact HC1.out.new hv2⟩, ⟨by rw [HT2'.out]; exact HC2.out.new hv2⟩, HAP, ⟨HU.out.trans hv2⟩⟩
            case measure => simp [intOf]; omega
          | true =>
            have HT2' := Bx.mk (show setP lw (ln.take (j + 1)) = setP lw (ln.take j) ++ [⟨k, a, b, c'⟩] from HT3.out)
            clear HT3
            repeat' (first | (first
              | (go_at_call 49; (with_reducible refine (HFN.out _ hNA).mono ?_); rintro e w2 ⟨rfl, hu2⟩; (have hX := ((Upd.refl Nowhere w2).alloc (.cells #[.int .u8 Xk, .int .i32 Xa, .int .i32 Xb, .int .i32 Xc] 46)); have hv2 := (hA.trans hu2).trans hX; obtain ⟨z0, z1, z2, z3, zf⟩ := o4_at (hv2.blk HO.out (fun q => q)); obtain ⟨b0, b1, b2, b3, bf⟩ := o4_at ((hu2.trans hX).blk hbox (fun q => q)); have hv3 := hv2.alloc (.cells #[.int .u8 k, .int .i32 a, .int .i32 b, .int .i32 c'] 46); have ho1 := own_new HC2.out hv3; have hbs := (HU.out.trans hv3).size); dsimp only)
              | (at_builtin; refine wpList_appB rfl _ _ 41 41 rfl _ 46 (.agg #[.int .u8 0, .int .i32 0, .int .i32 0, .int .i32 0]) 4 16 Try.underlying41 infoC rfl _ _ _ ho1 rfl _ _ _ (hs1 _ _ (by simp)) rfl hbs ?c1 ?c2 ?_; (case c1 => unfold maxLen; omega); (case c2 => omega); intro v5 w5 ho5 hk5 hw5); (obtain ⟨A5, n5, c5, rfl, D1, D2, D3⟩ := grow_two (q := ⟨k, a, b, c'⟩) ho1 (HC1.out.new hv3) HAP.out.symm ho5 hk5 hw5; have HB5 := Bx.mk (obj_other ho1 (hv3.blk HO.out (fun q => q)) (by decide) hk5); obtain ⟨_, _, _, y3', yf⟩ := o4_at HB5.out)) | go_values | go_skip | go_guarded | go_step | go_upon | go_back)
            have hN5 : New w1 w5 := (HU.out.trans hv3).then hk5 (fun b hb => .inr (own_ge ho1 b hb))
            go_roundw
            case rel => exact ⟨j + 1, (x0, x1, x2), (A5, n5, c5), by go_num, by omega, ⟨heap_setCell_same w5 B5 3 _ _ _ HB5.out⟩, ⟨by rw [HT1'.out]; exact D2.obj HB5.out (by decide) (upd_set _ _ _ _)⟩, ⟨by rw [HT2'.out]; exact D1.obj HB5.out (by decide) (upd_set _ _ _ _)⟩, ⟨D3.symm⟩, ⟨hN5.setCell (p := ⟨B5, 3, none⟩) (.inr hB5) _⟩⟩
            case measure => simp [intOf]; omega
      · have hltI : ¬ (j : Int) < (nn : Int) := by omega
        obtain rfl : j = nn := by omega
        have HT := Bx.mk (show ln.take j = ln from List.take_of_length_le (by rw [HLn.out]; exact Nat.le_refl _))
        rw [HT.out] at HC1 HC2
        obtain ⟨z0, z1, z2, z3, zf⟩ := o4_at HO.out
        have HR := Bx.mk (HU.out.blk HOB.out (fun q => q))
        obtain ⟨r0, r1, r2, r3, rf⟩ := o4_at HR.out
        have hB2 : B0 ≤ B2 := by have := HB.out; rw [HB0.out] at this; exact this
        have hB1w : B0 ≤ w1.heap.size := by have := HN0.out.size; rw [HB0.out] at this; exact this
        repeat' (first | fail | go_values | go_skip | go_guarded | go_step | go_upon | go_back)
        refine bodyPost_ret (results_cell_row Try.results43 _ _ B2 _ _ (0, 0) _ rfl (o4_set HR.out _ _ _ _) Try.underlying57 rfl (by kernel_rfl)) rfl ?_
        exact ⟨⟨(x0, x1, x2), (y0, y1, y2), by rw [HZ.out], by rw [HB0.out]; exact (HC1.out.lower hB1w).obj HR.out (by decide) (upd_set4 _ _ _ _ _ _), by rw [HB0.out]; exact (HC2.out.lower hB1w).obj HR.out (by decide) (upd_set4 _ _ _ _ _ _)⟩, new_set4 (HN0.out.trans HU.out) (by rw [HB0.out]; exact hB2) _ _ _ _⟩
end Go.Proofs.Ytdnkdmdmekdfkaa
