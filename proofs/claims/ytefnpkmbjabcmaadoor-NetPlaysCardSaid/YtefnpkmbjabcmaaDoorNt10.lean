/- The reference's Put, Take: walked. -/
import Derived.Test.YtefnpkmbjabcmaaDoorNt9
import Derived.Test.YtefnpkmbjabcmaaDoorFree
namespace Go.Proofs.YtefnpkmbjabcmaaDoor
open Go.RowKit

section
variable {P : Program} {w : World}
/-- append onto a made row without room: only memory is made -/
theorem run_app0 {base : Nat} {t tx ty e : TypeId} {i : TypeInfo} {z : Value} {A : Option Addr} (hzs : z.cells.size = i.size) (hown : w.ownsRow base e i.size (.slice A 0 0) 0 [])
    {x : Value} {m : Nat} {news : List Value} (hs : App P t tx e i z x m news w) (hbase : base ≤ w.heap.size) (h63 : m ≤ maxLen) (hbytes : m * i.bytes ≤ 140737488355328) :
    ∃ v' w', (Builtin.append_ #[t, tx] ty #[.slice A 0 0, x]).run P w = .ok v' w' ∧ w'.ownsRow base e i.size v' m news ∧ New w w' := by
  obtain ⟨v', w', hr, h2, h3, _⟩ := run_append_src (P := P) w base t tx ty e i z i.size i.bytes rfl rfl hzs _ 0 [] hown x m news hs (by omega) (by rw [Nat.zero_add]; exact hbytes) hbase
  rw [Nat.zero_add, List.nil_append] at h2
  refine ⟨v', w', hr, h2, h3.os, h3.tape, h3.output, h3.size, fun k hk _ => ?_⟩
  rcases hown.2 with ⟨hv, _⟩ | ⟨g, cap, cur, hv, hg, hh, hn, hm, hcs, htk⟩
  · exact h3.block k hk (by rw [hv]; simp [Value.ownBlock])
  · simp only [Value.slice.injEq, true_and] at hv
    obtain ⟨rfl, rfl⟩ := hv
    by_cases hkg : k = g
    · subst hkg
      by_cases hm0 : m = 0
      · subst hm0
        have hn0 : news = [] := List.eq_nil_of_length_eq_zero (by simpa using hs.len)
        subst hn0
        have hc0 : cur = #[] := Array.eq_empty_of_size_eq_zero (by rw [hcs, Nat.zero_mul])
        subst hc0
        have hr2 := hs.room ty k 0 0 #[] hh (by omega) (by simp)
        rw [hr] at hr2
        injection hr2 with _ h5
        rw [h5, setRow_heap w k #[] _ e _ hh, hh]
        simp
      · have hold : (Builtin.firstCells i.size 0 (.slice (some ⟨k, 0, none⟩) 0 0)).run P w.drew = .ok ([] : List Value).toArray w.drew :=
          run_firstCells_some w.drew i.size 0 _ 0 0 [] (by simp) (by simp)
        have hr2 := hs.grow ty (some ⟨k, 0, none⟩) 0 0 [] hold (by omega) (by simp only [maxLen] at h63; omega) (by rw [Nat.zero_add]; exact hbytes)
        rw [hr] at hr2
        injection hr2 with _ h5
        rw [h5]
        exact heap_alloc_old w.drew _ hk
    · exact h3.block k hk (by simp only [Value.ownBlock, Option.map_some]; intro q; exact hkg (Option.some.inj q))
/-- the same, as an operation of a region -/
theorem wp_app0 {o : Oper} {a : Act} {K : Act → World → Prop} {Q : Exit → Act → World → Prop} (s x : Operand) (t tx : TypeId)
    (ho : o.op = .call { callee := .builtin .append, args := #[s, x], argTypes := #[t, tx] })
    (base : Nat) (e : TypeId) (z : Value) (size bytes : Nat) (ht : P.underlying t = some (.slice e)) (hinfo : (P.info? e).map (fun i => (i.zero, i.size, i.bytes)) = some (some z, size, bytes)) (hzs : z.cells.size = size)
    (A : Option Addr) (hown : w.ownsRow base e size (.slice A 0 0) 0 []) (hs : a.eval s = .slice A 0 0)
    (xv : Value) (m : Nat) (news : List Value) (hsrc : Src P size tx xv m news w) (hx : a.eval x = xv)
    (hbase : base ≤ w.heap.size) (h63 : m ≤ maxLen) (hbytes : m * bytes ≤ 140737488355328)
    (h : ∀ v' w', w'.ownsRow base e size v' m news → New w w' → K (a.put o.dst v') w') : Oper.wp P o a w K Q := by
  obtain ⟨i, hi, hz, hsize, hby⟩ := info_parts hinfo
  subst hsize
  obtain ⟨v', w', hr, h2, h3⟩ := run_app0 (P := P) (ty := o.type) hzs hown (Src.app ht hi hz hsrc) hbase h63 (hby ▸ hbytes)
  refine free_run v' w' ?_ (h v' w' h2 h3)
  unfold execOp
  simp only [ho, resolve, invoke, builtin, Sem.run_bind, Sem.run_pure, Result.andThen_ok, List.map_toArray, List.map_cons, List.map_nil, hs, hx, hr]
end
/-- what the operations of the region in the reference's Put leave -/
def PutΦ (B g bx l n : Nat) (v : Value) (xs : List It) (to : Int) (Ao : Option Addr) (co : Nat) (fr : List (BitVec 8)) : Nat → Value → World → Prop
  | 0, u, _ => u = .pointer (some ⟨g, 0, none⟩)
  | 1, u, w => ∃ b, u = .slice (some ⟨b, 0, none⟩) 0 0 ∧ w.ownsRow B 36 2 u 0 []
  | 2, u, _ => u = .pointer (some ⟨g, 0, none⟩)
  | 3, u, _ => u = .pointer (some ⟨g, 0, none⟩)
  | 4, u, _ => u = .pointer (some ⟨g, 1, none⟩)
  | 5, u, _ => u = v
  | 6, u, w => w.ownsRow B 36 2 u l (outs xs)
  | 7, u, _ => u = .pointer (some ⟨bx, 0, none⟩)
  | 8, u, _ => u = .int .i64 to
  | 9, u, w => ∃ b, u = .slice (some ⟨b, 0, none⟩) 0 0 ∧ w.ownsRow B 5 1 u 0 []
  | 10, u, _ => u = .pointer (some ⟨bx, 1, none⟩)
  | 11, u, _ => u = .slice Ao n co
  | 12, u, w => w.ownsRow B 5 1 u n (u8s fr)
  | 13, u, w => ∃ A c, u = .agg #[.int .i64 to, .slice A n c] ∧ w.ownsRow B 5 1 (.slice A n c) n (u8s fr)
  | 14, u, w => ∃ b A c, u = .slice (some ⟨b, 0, none⟩) 1 1 ∧ w.ownsRow B 36 2 u 1 [.int .i64 to, .slice A n c] ∧ w.ownsRow B 5 1 (.slice A n c) n (u8s fr)
  | _, _, _ => True
theorem PutΦ_new (B g bx l n : Nat) (v : Value) (xs : List It) (to : Int) (Ao : Option Addr) (co : Nat) (fr : List (BitVec 8)) (j : Nat) (u : Value) (w1 w2 : World) (h : New w1 w2) (k : PutΦ B g bx l n v xs to Ao co fr j u w1) : PutΦ B g bx l n v xs to Ao co fr j u w2 := by
  unfold PutΦ at k ⊢
  split at k
  all_goals first
    | exact k
    | exact own_new k h
    | (obtain ⟨b, h1, h2⟩ := k; exact ⟨b, h1, own_new h2 h⟩)
    | (obtain ⟨A, c, h1, h2⟩ := k; exact ⟨A, c, h1, own_new h2 h⟩)
    | (obtain ⟨b, A, c, h1, h2, h3⟩ := k; exact ⟨b, A, c, h1, own_new h2 h, own_new h3 h⟩)

section
variable {P : Program} {l0 : Array Bool} {ops : Array Oper} {n : Nat} {Φ : Nat → Value → World → Prop} {base : Act} {w0 w' : World} {i : Nat} {a : Act}
theorem tail_at {Q : Exit → Act → World → Prop} {l : List Oper} {w : World} {base : Act} (ts : List (Nat × Option Tmp)) (val : Nat → Value) (hT : (heads l0 n).map (fun j => (j, dstAt l.toArray j)) = ts)
    (h : wpList P l.toArray Q (l.drop n) (putAll base (ts.map fun p => (p.2, val p.1))) w) : wpList P l.toArray Q (l.drop n) (putAll base ((heads l0 n).map fun j => (dstAt l.toArray j, val j))) w := by
  rw [← hT, List.map_map] at h
  exact h
theorem eval_tmp (a : Act) (t : Nat) : a.eval (.tmp t) = a.tmps[t]?.getD undef := Array.getD_eq_getD_getElem? ..
theorem Met1.d (m : Met1 P l0 ops n Φ base w0 i a w') (j t : Nat) (h : (decide (j < n) && !l0.getD j false && Region.waitsFor .any ops i j && dstAt ops j == some t) = true) : Φ j (a.tmps[t]?.getD undef) w' := by
  have := m.dep j t h
  rwa [Array.getD_eq_getD_getElem?] at this
theorem Met1.b (m : Met1 P l0 ops n Φ base w0 i a w') (t : Nat) (v : Value) (hv : base.tmps.getD t undef = v) (h : ((List.range n).all fun j => l0.getD j false || dstAt ops j != some t) = true) : a.tmps[t]?.getD undef = v := by
  have := m.base_ t v hv h
  rwa [Array.getD_eq_getD_getElem?] at this
end
theorem RefPut_full {w : World} {g most : Nat} {v : Value} {xs : List It} (h : IsRef w g v most xs) (hm : xs.length = most) (o : Value) (to : Int) (A : Option Addr) (n c : Nat) (ho : o = .agg #[.int .i64 to, .slice A n c]) :
    Calls Tryd.prog 18 #[.pointer (some ⟨g, 0, none⟩), o] w fun e w' => e = .returned (.int .i64 8) ∧ New w w' := by
  subst ho
  have c0 := h.c0
  have c1 := h.c1
  obtain ⟨A1, c1', rfl, _⟩ := h.slice
  have hd : New w (w.alloc (.cells #[.int .i64 to, .slice A n c] 36)) := (Upd.refl _ _).alloc _
  have k0 := hd.cell c0 (fun q => q)
  have k1 := hd.cell c1 (fun q => q)
  clear h c0 c1
  subst hm
  generalize xs.length = l at *
  go_enter Tryd.func18, Tryd.ntmps18
  go_wp2
  generalize w.alloc (.cells #[.int .i64 to, .slice A n c] 36) = w1 at *
  go_quiet (fail)
  go_wp2
  go_ret
  exact ⟨rfl, hd.drewN _⟩
theorem RefPut_nil (w : World) (o : Value) (to : Int) (A : Option Addr) (n c : Nat) (ho : o = .agg #[.int .i64 to, .slice A n c]) :
    Calls Tryd.prog 18 #[.pointer none, o] w fun e w' => e = .returned (.int .i64 10) ∧ New w w' := by
  subst ho
  go_enter Tryd.func18, Tryd.ntmps18
  go_wp2
  go_ret
  exact ⟨rfl, (Upd.refl _ _).alloc _⟩
theorem ref_end {w1 w5 : World} {g most B : Nat} {v v5 : Value} {xs ys : List It} (h : IsRef w1 g v most xs) (hN : New w1 w5) (h5 : w5.ownsRow B 36 2 v5 ys.length (outs ys)) (hB : w1.heap.size ≤ B) (hys : ∀ y ∈ ys, y.In w5) :
    IsRef (w5.setCell ⟨g, 1, none⟩ v5) g v5 most ys ∧ RefWrote g v v5 w1 (w5.setCell ⟨g, 1, none⟩ v5) := by
  have e : w5.heap[g]? = some (.cells #[.int .i64 most, v] 55 (0, 0)) := hN.blk h.obj (fun q => q)
  refine ⟨⟨heap_setCell_same w5 g 1 _ _ _ e, ?_, fun y hy => ?_⟩, ⟨(New.upd hN : Upd (fun b => b = g) w1 w5).setCell (p := ⟨g, 1, none⟩) (.inl rfl) _, fun b hb => .inr ?_⟩⟩
  · exact own_lower (own_upd h5 (Upd.set1 _ _ _) (fun b hb q => obj_apart e h5 (by decide) ((show b = g from q) ▸ hb))) (Nat.zero_le _)
  · have hr := hys y hy
    exact own_upd hr (Upd.set1 _ _ _) (fun b hb q => obj_apart e hr (by decide) ((show b = g from q) ▸ hb))
  · have := own_ge h5 b hb; omega
theorem RefWrote.mono {g : Nat} {v v' : Value} {w w1 w2 : World} (h : RefWrote g v v' w1 w2) (hN : New w w1) : RefWrote g v v' w w2 :=
  ⟨(New.upd hN).trans h.upd, fun b hb => (h.at_ b hb).imp id (fun q => Nat.le_trans hN.size q)⟩
theorem own_one2 (w : World) (base e : Nat) (u1 u2 : Value) (hb : base ≤ w.heap.size) : (w.alloc (.cells #[u1, u2] e)).ownsRow base e 2 (.slice (some ⟨w.heap.size, 0, none⟩) 1 1) 1 [u1, u2] :=
  ⟨rfl, .inr ⟨w.heap.size, 1, _, rfl, hb, heap_alloc_new w _, Nat.le_refl _, by decide, rfl, rfl⟩⟩
set_option maxRecDepth 20000 in
set_option maxHeartbeats 4000000 in
theorem RefPut_ok {w : World} {g most : Nat} {v : Value} {xs : List It} (h : IsRef w g v most xs) (hm : xs.length < most) (hmm : most ≤ 4096) (o : Value) (to : Int) (A : Option Addr) (n c : Nat) (fr : List (BitVec 8)) (ho : o = .agg #[.int .i64 to, .slice A n c]) (hl : fr.length = n) (hn : n ≤ 140737488351232) (hA : A = none → n = 0) (hx : Rd w A (u8s fr)) :
    Calls Tryd.prog 18 #[.pointer (some ⟨g, 0, none⟩), o] w fun e w' => e = .returned (.int .i64 0) ∧ ∃ v' x, x.to = to ∧ x.fr = fr ∧ (∀ b, x.v.ownBlock = some b → w.heap.size ≤ b) ∧ IsRef w' g v' most (xs ++ [x]) ∧ RefWrote g v v' w w' := by
  subst ho
  have c0 := h.c0
  have c1 := h.c1
  have HH := Bx.mk h
  have HO1 := Bx.mk (outs_one xs h.frs)
  obtain ⟨A1, c1', rfl, hcl, hcm, hrd, hnil⟩ := h.slice
  have hd : New w (w.alloc (.cells #[.int .i64 to, .slice A n c] 36)) := (Upd.refl _ _).alloc _
  have k0 := hd.cell c0 (fun q => q)
  have k1 := hd.cell c1 (fun q => q)
  have hbox := box_new w (.int .i64 to) (.slice A n c)
  have hsz : (w.alloc (.cells #[.int .i64 to, .slice A n c] 36)).heap.size = w.heap.size + 1 := by simp
  have HL := Bx.mk (outs_length xs)
  generalize hll : xs.length = l at *
  have HLL := Bx.mk hll
  have HX := Bx.mk hx
  have HSZ := Bx.mk hsz
  have HFL := Bx.mk hl
  have hlm : ¬ (l : Int) = (most : Int) := by omega
  clear c0 c1 hll hx hsz hl
  go_enter Tryd.func18, Tryd.ntmps18
  go_wp2
  generalize w.alloc (.cells #[.int .i64 to, .slice A n c] 36) = w1 at *
  go_quiet (fail)
  go_wp2
  replace hd := hd.drewN nq
  replace k0 := ((Upd.refl Nowhere w1).drewN nq).cell k0 (fun q => q)
  replace k1 := ((Upd.refl Nowhere w1).drewN nq).cell k1 (fun q => q)
  replace hbox := ((Upd.refl Nowhere w1).drewN nq).blk hbox (fun q => q)
  replace HSZ := Bx.mk (show (w1.drewN nq).heap.size = w.heap.size + 1 from HSZ.out)
  generalize w1.drewN nq = w1 at *
  have hd' : ∀ {w' : World}, New w1.drew w' → New w1 w' := fun k => ((Upd.refl Nowhere w1).drew).trans k
  have HH2 := Bx.mk (HH.out.new hd)
  refine wp_region_any (by kernel_rfl) ?_
  refine wpAny_take (i := 0) (v := .pointer (some ⟨g, 0, none⟩)) rfl (by kernel_rfl) (by kernel_rfl) (by kernel_rfl) (fun _ _ _ h => h) (.inl ⟨rfl, fun w => by unfold execOp; go_simp⟩) ?_
  refine wp_free 15 35 (PutΦ w1.drew.heap.size g (w.heap.size) l n (.slice A1 l c1') xs to A c fr) (PutΦ_new _ _ _ _ _ _ _ _ _ _ _) (by kernel_rfl) (by kernel_rfl) (by kernel_rfl) (by kernel_rfl) ?_ ?_
  · intro a w' K i o hi ho met hK
    have hi' : i = 0 ∨ i = 1 ∨ i = 2 ∨ i = 3 ∨ i = 4 ∨ i = 5 ∨ i = 6 ∨ i = 7 ∨ i = 8 ∨ i = 9 ∨ i = 10 ∨ i = 11 ∨ i = 12 ∨ i = 13 ∨ i = 14 := by have := (mem_heads.1 hi).1; omega
    have hN := met.new
    have hN' : New w1 w' := ((Upd.refl Nowhere w1).drew).trans hN
    have q1 := hN'.cell k1 (fun q => q)
    have q2 : w'.cell? ⟨w.heap.size, 0, none⟩ = some (.int .i64 to) := by rw [World.cell?, hN'.blk hbox (fun q => q)]; rfl
    have q3 : w'.cell? ⟨w.heap.size, 1, none⟩ = some (.slice A n c) := by rw [World.cell?, hN'.blk hbox (fun q => q)]; rfl
    rcases hi' with rfl | rfl | rfl | rfl | rfl | rfl | rfl | rfl | rfl | rfl | rfl | rfl | rfl | rfl | rfl
    · exact absurd (mem_heads.1 hi).2 (by simp)
    all_goals cases ho
    · refine free_run (.slice (some ⟨w'.heap.size, 0, none⟩) 0 0) (w'.alloc (.cells #[] 36)) (by unfold execOp; go_simp) (hK _ _ ((Upd.refl _ _).alloc _) ⟨_, rfl, own_lit0 _ _ _ _ hN.size⟩)
    · have e0 := met.base_ 0 _ rfl (by kernel_rfl)
      refine free_run (.pointer (some ⟨g, 0, none⟩)) w' (by unfold execOp; go_simp) (hK _ _ (Upd.refl _ _) rfl)
    · have e0 : a.tmps[19]?.getD undef = _ := met.d 2 19 (by kernel_rfl)
      refine free_run (.pointer (some ⟨g, 0, none⟩)) w' (by unfold execOp; go_simp) (hK _ _ (Upd.refl _ _) rfl)
    · have e0 : a.tmps[20]?.getD undef = _ := met.d 3 20 (by kernel_rfl)
      refine free_run (.pointer (some ⟨g, 1, none⟩)) w' (by unfold execOp; go_simp) (hK _ _ (Upd.refl _ _) rfl)
    · have e0 : a.tmps[21]?.getD undef = _ := met.d 4 21 (by kernel_rfl)
      refine free_run (.slice A1 l c1') w' (by unfold execOp; go_simp) (hK _ _ (Upd.refl _ _) rfl)
    · obtain ⟨b, e0, o0⟩ : PutΦ _ _ _ _ _ _ _ _ _ _ _ 1 (a.tmps[18]?.getD undef) w' := met.d 1 18 (by kernel_rfl)
      have e1 : a.tmps[22]?.getD undef = _ := met.d 5 22 (by kernel_rfl)
      rw [e0] at o0
      refine wp_app0 (.tmp 18) (.tmp 22) 53 53 rfl (w1.drew.heap.size) 36 _ 2 _ Tryd.underlying53 infoOut rfl _ o0 ((eval_tmp _ _).trans e0) _ _ _ ((hrd.new (hd.trans hN')).src Tryd.underlying53 (fun q => hnil q) HL.out HO1.out) ((eval_tmp _ _).trans e1) hN.size (by omega) (by omega) ?_
      intro v2 w2 ho2 hn2
      exact hK _ _ hn2 ho2
    · have e0 := met.b 3 (.pointer (some ⟨w.heap.size, 0, none⟩)) rfl (by kernel_rfl)
      refine free_run (.pointer (some ⟨w.heap.size, 0, none⟩)) w' (by unfold execOp; go_simp) (hK _ _ (Upd.refl _ _) rfl)
    · have e0 : a.tmps[24]?.getD undef = _ := met.d 7 24 (by kernel_rfl)
      refine free_run (.int .i64 to) w' (by unfold execOp; go_simp) (hK _ _ (Upd.refl _ _) rfl)
    · refine free_run (.slice (some ⟨w'.heap.size, 0, none⟩) 0 0) (w'.alloc (.cells #[] 5)) (by unfold execOp; go_simp) (hK _ _ ((Upd.refl _ _).alloc _) ⟨_, rfl, own_lit0 _ _ _ _ hN.size⟩)
    · have e0 := met.b 3 (.pointer (some ⟨w.heap.size, 0, none⟩)) rfl (by kernel_rfl)
      refine free_run (.pointer (some ⟨w.heap.size, 1, none⟩)) w' (by unfold execOp; go_simp) (hK _ _ (Upd.refl _ _) rfl)
    · have e0 : a.tmps[27]?.getD undef = _ := met.d 10 27 (by kernel_rfl)
      refine free_run (.slice A n c) w' (by unfold execOp; go_simp) (hK _ _ (Upd.refl _ _) rfl)
    · obtain ⟨b, e0, o0⟩ : PutΦ _ _ _ _ _ _ _ _ _ _ _ 9 (a.tmps[26]?.getD undef) w' := met.d 9 26 (by kernel_rfl)
      have e1 : a.tmps[28]?.getD undef = _ := met.d 11 28 (by kernel_rfl)
      rw [e0] at o0
      refine wp_app0 (.tmp 26) (.tmp 28) 22 22 rfl (w1.drew.heap.size) 5 _ 1 _ Tryd.underlying22 info8 rfl _ o0 ((eval_tmp _ _).trans e0) _ _ _ ((HX.out.new (hd.trans hN')).src Tryd.underlying22 hA (by rw [u8s_length, HFL.out, Nat.mul_one]) (u8s_one fr)) ((eval_tmp _ _).trans e1) hN.size (by have : maxLen = 9223372036854775807 := rfl; omega) (by omega) ?_
      intro v2 w2 ho2 hn2
      exact hK _ _ hn2 ho2
    · have e0 : a.tmps[25]?.getD undef = _ := met.d 8 25 (by kernel_rfl)
      have o1 : PutΦ _ _ _ _ _ _ _ _ _ _ _ 12 (a.tmps[29]?.getD undef) w' := met.d 12 29 (by kernel_rfl)
      obtain ⟨A2, c2, e1, _⟩ := own_rd (show w'.ownsRow _ _ 1 _ n (u8s fr) from o1)
      rw [e1] at o1
      refine free_run (.agg #[.int .i64 to, .slice A2 n c2]) w' (by unfold execOp; go_simp) (hK _ _ (Upd.refl _ _) ⟨_, _, rfl, o1⟩)
    · obtain ⟨A2, c2, e0, o1⟩ : PutΦ _ _ _ _ _ _ _ _ _ _ _ 13 (a.tmps[30]?.getD undef) w' := met.d 13 30 (by kernel_rfl)
      refine free_run (.slice (some ⟨w'.heap.size, 0, none⟩) 1 1) (w'.alloc (.cells #[.int .i64 to, .slice A2 n c2] 36)) (by unfold execOp; go_simp) (hK _ _ ((Upd.refl _ _).alloc _) ⟨_, _, _, rfl, own_one2 _ _ _ _ _ hN.size, o1.alloc _⟩)
  · intro vs w' hw hΦ
    have h6 : w'.ownsRow _ _ 2 (vs 6) l (outs xs) := hΦ 6 (by simp [heads])
    obtain ⟨b, A2, c2, h14, ho1, ho2⟩ := hΦ 14 (by simp [heads])
    refine tail_at [(1, some 18), (2, some 19), (3, some 20), (4, some 21), (5, some 22), (6, some 23), (7, some 24), (8, some 25), (9, some 26), (10, some 27), (11, some 28), (12, some 29), (13, some 30), (14, some 31)] vs (by kernel_rfl) ?_
    simp only [List.map, putAll, h14]
    rw [h14] at ho1
    obtain ⟨A6, c6, e6, _⟩ := own_rd h6
    generalize vs 6 = v6 at *
    subst e6
    generalize vs 1 = v1; generalize vs 2 = v2; generalize vs 3 = v3; generalize vs 4 = v4; generalize vs 5 = v5; generalize vs 7 = v7; generalize vs 8 = v8; generalize vs 9 = v9; generalize vs 10 = v10; generalize vs 11 = v11; generalize vs 12 = v12; generalize vs 13 = v13
    clear hΦ h14 vs
    have hs := own_src Tryd.underlying53 ho1 (by intro u hu; rcases List.mem_cons.1 hu with rfl | hu; rfl; rcases List.mem_cons.1 hu with rfl | hu; rfl; cases hu)
    have hBw : w1.drew.heap.size ≤ w'.heap.size := hw.size
    go_simp
    refine wpList_appB rfl _ _ 53 53 rfl (w1.drew.heap.size) 36 (.agg #[.int .i64 0, .slice none 0 0]) 2 32 Tryd.underlying53 infoOut rfl _ l _ h6 rfl _ 1 _ hs rfl hBw (by have : maxLen = 9223372036854775807 := rfl; omega) (by omega) ?_
    intro vr wr hor hkr hwr
    obtain ⟨A7, c7, rfl, _⟩ := own_rd hor
    have hNr : New w1 wr := (hd' hw).then hkr (fun b hb => .inr (Nat.le_trans (show w1.heap.size ≤ w1.drew.heap.size from Nat.le_refl _) (own_ge h6 b hb)))
    have c1 := hNr.cell k1 (fun q => q)
    have fz : wr.frozen? ⟨g, 1, none⟩ = false := (HH2.out.new hNr).fz 1
    go_wp2
    go_ret
    have hfr : wr.ownsRow _ 5 1 (.slice A2 n c2) n (u8s fr) := own_upd ho2 hkr (fun b hb => own_apart ho2 h6 (by decide) b hb)
    have hIn : (It.mk to (.slice A2 n c2) fr).In wr := own_lower (by rw [HFL.out]; exact hfr) (Nat.zero_le _)
    obtain ⟨r1, r2⟩ := ref_end (ys := xs ++ [⟨to, .slice A2 n c2, fr⟩]) (v5 := .slice A7 (l + 1) c7) HH2.out hNr (by rw [outs_append, List.length_append, HLL.out]; exact hor) (Nat.le_refl _) (fun y hy => by
      rcases List.mem_append.1 hy with hy | hy
      · exact own_new ((HH2.out).frs y hy) hNr
      · obtain rfl := List.mem_singleton.1 hy; exact hIn)
    exact ⟨rfl, _, ⟨to, .slice A2 n c2, fr⟩, rfl, rfl, fun b hb => Nat.le_trans hd.size (own_ge hfr b hb), r1, r2.mono hd⟩
end Go.Proofs.YtefnpkmbjabcmaaDoor
