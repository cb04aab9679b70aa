/- Put, Peek, Take: walked. -/
import Derived.Test.YtefnpkmbjabcmaaDoorNt3
namespace Go.Proofs.YtefnpkmbjabcmaaDoor
open Go.RowKit

theorem box_new (w : World) (a b : Value) : (w.alloc (.cells #[a, b] 36)).heap[w.heap.size]? = some (.cells #[a, b] 36 (0, 0)) := heap_alloc_new _ _
set_option maxHeartbeats 2000000 in
theorem Put_full {w : World} {g most : Nat} {v : Value} {xs : List It} (h : IsBag w g v most xs) (hm : most ≤ xs.length) (o : Value) (to : Int) (A : Option Addr) (n c : Nat) (ho : o = .agg #[.int .i64 to, .slice A n c]) :
    Calls Tryd.prog 12 #[.pointer (some ⟨g, 0, none⟩), o] w fun e w' => e = .returned (.int .i64 8) ∧ New w w' := by
  subst ho
  have c0 := h.c0
  have c1 := h.c1
  obtain ⟨A1, c1', rfl, _⟩ := h.slice
  have hd : New w (w.alloc (.cells #[.int .i64 to, .slice A n c] 36)) := (Upd.refl _ _).alloc _
  have k0 := hd.cell c0 (fun q => q)
  have k1 := hd.cell c1 (fun q => q)
  clear h c0 c1
  generalize xs.length = l at *
  go_enter Tryd.func12, Tryd.ntmps12
  go_wp2
  generalize w.alloc (.cells #[.int .i64 to, .slice A n c] 36) = w1 at *
  go_quiet (fail)
  go_wp2
  go_ret
  exact ⟨rfl, hd.drewN _⟩
/-- behind the append: the bag's block is as it was; the new row's shape -/
theorem put_grown {w3 w5 : World} {g most l : Nat} {v v5 : Value} {o : Obj} {ys : List Value} (ho : w3.heap[g]? = some (.cells #[.int .i64 most, v] 67 (0, 0))) (hk : Upd (fun k => v.ownBlock = some k) (w3.alloc o) w5) (hn : ¬ v.ownBlock = some g) (h5 : w5.ownsRow 0 36 2 v5 (l + 1) ys) :
    w5.heap[g]? = some (.cells #[.int .i64 most, v] 67 (0, 0)) ∧ w5.cell? ⟨g, 1, none⟩ = some v ∧ w5.frozen? ⟨g, 1, none⟩ = false ∧ ∃ gr c, v5 = .slice (some ⟨gr, 0, none⟩) (l + 1) c := by
  have hlt := (Array.getElem?_eq_some_iff.1 ho).1
  have e : w5.heap[g]? = some (.cells #[.int .i64 most, v] 67 (0, 0)) := hk.blk (by rw [Below.heap_alloc _ _ _ hlt]; exact ho) hn
  obtain ⟨gr, c, hv, _⟩ := own_some h5 (by omega)
  exact ⟨e, by rw [World.cell?, e]; rfl, by simp [World.frozen?, e], gr, c, hv⟩
theorem put_end {w3 w5 : World} {g most B : Nat} {v v5 vf : Value} {o : Obj} {xs : List It} {to : Int} {fr : List (BitVec 8)} (h : IsBag w3 g v most xs) (hf : w3.ownsRow B 5 1 vf fr.length (u8s fr)) (hk : Upd (fun k => v.ownBlock = some k) (w3.alloc o) w5)
    (h5 : w5.ownsRow 0 36 2 v5 (xs.length + 1) (outs xs ++ [.int .i64 to, vf])) (hw : ∀ b, v5.ownBlock = some b → v.ownBlock = some b ∨ (w3.alloc o).heap.size ≤ b) :
    IsBag (w5.setCell ⟨g, 1, none⟩ v5) g v5 most (xs ++ [⟨to, vf, fr⟩]) ∧ BagWrote g v v5 w3 (w5.setCell ⟨g, 1, none⟩ v5) := by
  have hlt := (Array.getElem?_eq_some_iff.1 h.obj).1
  have e : w5.heap[g]? = some (.cells #[.int .i64 most, v] 67 (0, 0)) := hk.blk (by rw [Below.heap_alloc _ _ _ hlt]; exact h.obj) h.apart
  have hs : (w3.alloc o).heap.size = w3.heap.size + 1 := by simp
  have frow : ∀ (v' : Value) (l : List (BitVec 8)) (B : Nat), w3.ownsRow B 5 1 v' l.length (u8s l) → (w5.setCell ⟨g, 1, none⟩ v5).ownsRow B 5 1 v' l.length (u8s l) := fun v' l B hr => by
    have h1 := own_upd (hr.alloc o) hk (fun b hb => own_apart hr h.row (by decide) b hb)
    exact own_upd h1 (Upd.set1 _ _ _) (fun b hb q => obj_apart e h1 (by decide) ((show b = g from q) ▸ hb))
  refine ⟨⟨heap_setCell_same w5 g 1 _ _ _ e, ?_, fun x hx => ?_⟩, ⟨?_, fun b hb => (hw b hb).imp id (fun q => by omega)⟩⟩
  · rw [List.length_append, outs_append]
    exact own_upd h5 (Upd.set1 _ _ _) (fun b hb q => obj_apart e h5 (by decide) ((show b = g from q) ▸ hb))
  · rcases List.mem_append.1 hx with hx | hx
    · exact frow _ _ _ (h.frs x hx)
    · obtain rfl := List.mem_singleton.1 hx
      exact frow _ _ _ (own_lower hf (Nat.zero_le _))
  · exact (((Upd.refl _ w3).alloc o).then hk (fun b hb => .inl (.inr hb))).setCell (p := ⟨g, 1, none⟩) (.inl (.inl rfl)) _
set_option maxHeartbeats 4000000 in
theorem Put_ok {w : World} {g most : Nat} {v : Value} {xs : List It} (h : IsBag w g v most xs) (hm : xs.length < most) (hmm : most ≤ 4096) (o : Value) (to : Int) (A : Option Addr) (n c : Nat) (fr : List (BitVec 8)) (ho : o = .agg #[.int .i64 to, .slice A n c]) (hl : fr.length = n) (hn : n ≤ 140737488351232) (hx : Rd w A (u8s fr)) :
    Calls Tryd.prog 12 #[.pointer (some ⟨g, 0, none⟩), o] w fun e w' => e = .returned (.int .i64 0) ∧ ∃ v' x, x.to = to ∧ x.fr = fr ∧ (∀ b, x.v.ownBlock = some b → w.heap.size ≤ b) ∧ IsBag w' g v' most (xs ++ [x]) ∧ BagWrote g v v' w w' := by
  subst ho
  have c0 := h.c0
  have c1 := h.c1
  obtain ⟨A1, c1', rfl, _⟩ := h.slice
  have hd : New w (w.alloc (.cells #[.int .i64 to, .slice A n c] 36)) := (Upd.refl _ _).alloc _
  have k0 := hd.cell c0 (fun q => q)
  have k1 := hd.cell c1 (fun q => q)
  have hbox := box_new w (.int .i64 to) (.slice A n c)
  have hsz : (w.alloc (.cells #[.int .i64 to, .slice A n c] 36)).heap.size = w.heap.size + 1 := by simp
  have HL := Bx.mk (outs_length xs)
  generalize hll : xs.length = l at *
  have HLL := Bx.mk hll
  have HX := Bx.mk hx
  have HSZ := Bx.mk hsz
  have hlm : (l : Int) < (most : Int) := by omega
  have HFL := Bx.mk hl
  clear c0 c1 hll hx hsz hl
  go_enter Tryd.func12, Tryd.ntmps12
  go_wp2
  generalize w.alloc (.cells #[.int .i64 to, .slice A n c] 36) = w1 at *
  go_quiet (fail)
  go_wp2
  replace hd := hd.drewN nq
  replace k0 := ((Upd.refl Nowhere w1).drewN nq).cell k0 (fun q => q)
  replace k1 := ((Upd.refl Nowhere w1).drewN nq).cell k1 (fun q => q)
  replace hbox := ((Upd.refl Nowhere w1).drewN nq).blk hbox (fun q => q)
  replace HSZ := Bx.mk (show (w1.drewN nq).heap.size = w.heap.size + 1 from HSZ.out)
  generalize w1.drewN nq = w1 at *
  have hd2 : New w w1.drew := hd.drew
  have k0' := (Upd.refl Nowhere w1).drew.cell k0 (fun q => q)
  have k1' := (Upd.refl Nowhere w1).drew.cell k1 (fun q => q)
  have hbox' := (Upd.refl Nowhere w1).drew.blk hbox (fun q => q)
  have HSZ' := Bx.mk (show w1.drew.heap.size = w.heap.size + 1 from HSZ.out)
  obtain ⟨b0, b1⟩ := out_cells hbox'
  have hI := h.new hd2
  have HX' := Bx.mk (HX.out.new hd2)
  have HF := Bx.mk (show w1.drew.frozen? ⟨g, 1, none⟩ = false from hI.fz 1)
  clear k0 k1 hbox HSZ h
  go_region_law (first
    | (refine step_appB rfl _ _ 53 53 rfl 0 36 (.agg #[.int .i64 0, .slice none 0 0]) 2 32 Tryd.underlying53 infoOut rfl _ _ _ hrow4 rfl _ 1 _ hsrc4 rfl (Nat.zero_le _) (by unfold maxLen; omega) (by omega) ?_; intro v5 w5 ho5 hk5 hwh5; obtain ⟨hobj5, m5, f5, gr, c5, rfl⟩ := put_grown hobj3 hk5 hI3.apart ho5)
    | (go_simp; (go_at_call 29; (with_reducible refine (twin_any to A n c fr _ HFL.out hn HX'.out).mono ?_); rintro e w3 ⟨v3, rfl, ho3, hu3⟩; obtain ⟨A3, c3, rfl, _⟩ := own_rd ho3; have m1 := hu3.cell k1' (fun q => q); obtain ⟨p0, p1⟩ := out_cells (hu3.blk hbox' (fun q => q)); have m1b := ((Upd.refl Nowhere w3).alloc (.cells #[.int .i64 to, (.slice A3 fr.length c3)] 36)).cell m1 (fun q => q); have hI3 := hI.new hu3; have hobj3 := hI3.obj; have hrow4 := hI3.row.alloc (.cells #[.int .i64 to, (.slice A3 fr.length c3)] 36); have hsrc4 := Src.ofSlice (P := Tryd.prog) (size := 2) _ Tryd.underlying53 _ 1 1 _ rfl (cells_new w3 [.int .i64 to, (.slice A3 fr.length c3)] 36) (by intro u hu; simp at hu; rcases hu with rfl | rfl <;> rfl); rw [HLL.out] at hrow4; dsimp only)))
  all_goals
    go_wp2
    go_ret
    have hs3 : w.heap.size + 1 ≤ w3.heap.size := by have := hu3.size; have := HSZ'.out; omega
    rw [← HLL.out] at ho5
    obtain ⟨e1, e2⟩ := put_end hI3 ho3 hk5 ho5 hwh5
    rw [HLL.out] at e1 e2
    exact ⟨rfl, _, ⟨to, .slice A3 fr.length c3, fr⟩, rfl, rfl, fun b hb => by have := own_ge ho3 b hb; have := HSZ'.out; omega, e1, (New.upd (hd2.trans hu3)).trans e2.upd, fun b hb => (e2.at_ b hb).imp id (fun q => by omega)⟩
end Go.Proofs.YtefnpkmbjabcmaaDoor
