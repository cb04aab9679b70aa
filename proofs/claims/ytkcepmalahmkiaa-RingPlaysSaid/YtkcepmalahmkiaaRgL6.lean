/- A ring of int64: Put: walked. -/
import Derived.Test.YtkcepmalahmkiaaRgL3
namespace Go.Proofs.Ytkcepmalahmkiaa
open Go.RowKit
/-- what a call does to its ring: its block, its row -/
structure LWrote (g : Nat) (v v' : Value) (w w' : World) : Prop where
  upd : Upd (fun b => b = g ∨ v.ownBlock = some b) w w'
  at_ : ∀ b, v'.ownBlock = some b → v.ownBlock = some b ∨ w.heap.size ≤ b
theorem put_endL {W w5 : World} {g most : Nat} {v v5 : Value} {o : Obj} {xs : List (Rit Int)} {t : Nat} {x : Int} (h : LRing W g v most xs) (hk : Upd (fun k => v.ownBlock = some k) (W.alloc o) w5)
    (h5 : w5.ownsRow 0 108 2 v5 (xs.length + 1) (rcells csL xs ++ [.int .u32 t, .int .i64 x])) (hw : ∀ b, v5.ownBlock = some b → v.ownBlock = some b ∨ (W.alloc o).heap.size ≤ b) (hup : Rising (xs ++ [⟨t, x⟩])) (ht : t < 4294967296) :
    LRing (w5.setCell ⟨g, 1, none⟩ v5) g v5 most (xs ++ [⟨t, x⟩]) ∧ LWrote g v v5 W (w5.setCell ⟨g, 1, none⟩ v5) := by
  have hlt := (Array.getElem?_eq_some_iff.1 h.obj).1
  have e : w5.heap[g]? = some (.cells #[.int .i64 most, v] 106 (0, 0)) := hk.blk (by rw [Below.heap_alloc _ _ _ hlt]; exact h.obj) h.apart
  have hs : (W.alloc o).heap.size = W.heap.size + 1 := by simp
  refine ⟨⟨heap_setCell_same w5 g 1 _ _ _ e, ?_, hup, fun y hy => ?_⟩, ⟨(((Upd.refl _ W).alloc o).then hk (fun b hb => .inl (.inr hb))).setCell (p := ⟨g, 1, none⟩) (.inl (.inl rfl)) _, fun b hb => (hw b hb).imp id (fun q => by omega)⟩⟩
  · rw [List.length_append, rcells_append]
    exact own_upd h5 (Upd.set1 _ _ _) (fun b hb q => own_obj_ne h5 e (by decide) ((show b = g from q) ▸ hb))
  · rcases List.mem_append.1 hy with hy | hy
    · exact h.lt y hy
    · obtain rfl := List.mem_singleton.1 hy; exact ht
theorem grownL {W w5 : World} {g most : Nat} {v : Value} {o : Obj} {xs : List (Rit Int)} (h : LRing W g v most xs) (hk : Upd (fun k => v.ownBlock = some k) (W.alloc o) w5) : w5.cell? ⟨g, 1, none⟩ = some v ∧ w5.frozen? ⟨g, 1, none⟩ = false := by
  have hlt := (Array.getElem?_eq_some_iff.1 h.obj).1
  have e : w5.heap[g]? = some (.cells #[.int .i64 most, v] 106 (0, 0)) := hk.blk (by rw [Below.heap_alloc _ _ _ hlt]; exact h.obj) h.apart
  exact ⟨by rw [World.cell?, e]; rfl, by simp [World.frozen?, e]⟩
set_option maxRecDepth 20000 in
set_option maxHeartbeats 2000000 in
theorem PutRoomL {w : World} {g most : Nat} {v : Value} {xs : List (Rit Int)} (h : LRing w g v most xs) (hm : xs.length < most) (hmm : most ≤ 64) (t : Nat) (x : Int) (ht : t < 4294967296) (hup : Rising (xs ++ [⟨t, x⟩])) :
    Calls Try.prog 25 #[.pointer (some ⟨g, 0, none⟩), .int .u32 t, (.int .i64 x)] w fun e w' => e = .returned (.int .i64 0) ∧ ∃ v', LRing w' g v' most (xs ++ [⟨t, x⟩]) ∧ LWrote g v v' w w' := by
  have HR := Bx.mk h
  have k0 := h.c0
  have k1 := h.c1
  have fz := h.fz 1
  have hrow := h.row.alloc (.cells #[.int .u32 t, .int .i64 x] 108)
  have hs := Src.ofSlice (P := Try.prog) (size := 2) _ Try.underlying104 _ 1 1 _ rfl (cells_new w [.int .u32 t, .int .i64 x] 108) (by intro u hu; simp at hu; rcases hu with rfl | rfl <;> rfl)
  rcases Nat.eq_zero_or_pos xs.length with h0 | hpos
  · obtain rfl := List.eq_nil_of_length_eq_zero h0
    obtain ⟨A, c, rfl, _⟩ := own_rd h.row
    have hm0 : ¬ (0 : Int) = (most : Int) := by simp at hm; omega
    clear h h0
    simp only [List.length_nil] at hm hrow k1
    go_enter Try.func25, Try.ntmps25
    repeat' (first | (at_builtin; refine wpList_appB rfl _ _ 104 104 rfl 0 108 (Value.agg #[.int .u32 0, .int .i64 0]) 2 16 Try.underlying104 infoL rfl _ 0 _ hrow rfl _ 1 _ hs rfl (Nat.zero_le _) (by unfold maxLen; omega) (by omega) ?_; intro v5 w5 ho5 hk5 hw5; obtain ⟨m5, f5⟩ := grownL HR.out hk5; obtain ⟨A5, c5, rfl, _⟩ := own_rd ho5) | go_values | go_skip | go_guarded | go_step | go_upon | go_back)
    go_ret
    obtain ⟨r1, r2⟩ := put_endL HR.out hk5 ho5 hw5 hup ht
    exact ⟨rfl, _, r1, r2⟩
  · obtain ⟨l, hl⟩ : ∃ l, l + 1 = xs.length := ⟨xs.length - 1, by omega⟩
    have hll : l < xs.length := by omega
    obtain ⟨gl, c, rfl, _, _, hc, _, hr⟩ := own_some h.row hpos
    have c0 := atL hr l hll 0 (by omega) _ rfl
    rw [Nat.add_zero] at c0
    have hlast : (xs[l]'hll).tick < t := by
      have := List.pairwise_iff_getElem.1 hup l xs.length (by rw [List.length_append]; simp; omega) (by rw [List.length_append]; simp) hll
      simpa [List.getElem_append_left hll] using this
    have hti : ¬ (t : Int) ≤ ((xs[l]'hll).tick : Int) := by omega
    generalize (xs[l]'hll).tick = tl at *
    have HLL := Bx.mk hl
    rw [← hl] at k1 hm hrow
    have hne : ¬ ((l : Int) + 1) = (most : Int) := by omega
    have e1 : IntKind.i64.wrap (((l + 1 : Nat) : Int) - 1) = (l : Int) := by rw [IntKind.wrap_i64]; omega
    have hl64 : l ≤ 64 := by omega
    clear h hr hc hl hpos hlast hll
    go_enter Try.func25, Try.ntmps25
    repeat' (first | (at_builtin; refine wpList_appB rfl _ _ 104 104 rfl 0 108 (Value.agg #[.int .u32 0, .int .i64 0]) 2 16 Try.underlying104 infoL rfl _ (l + 1) _ hrow rfl _ 1 _ hs rfl (Nat.zero_le _) (by unfold maxLen; omega) (by omega) ?_; intro v5 w5 ho5 hk5 hw5; (have g5 := grownL HR.out (by rw [← HLL.out]; exact hk5)); rw [← HLL.out] at g5; obtain ⟨m5, f5⟩ := g5; obtain ⟨A5, c5, rfl, _⟩ := own_rd ho5) | go_values | go_skip | go_guarded | go_step | go_upon | go_back)
    go_ret
    obtain ⟨r1, r2⟩ := put_endL HR.out (by rw [← HLL.out]; exact hk5) (by rw [← HLL.out]; exact ho5) (by rw [← HLL.out]; exact hw5) hup ht
    exact ⟨rfl, _, r1, r2⟩
end Go.Proofs.Ytkcepmalahmkiaa
