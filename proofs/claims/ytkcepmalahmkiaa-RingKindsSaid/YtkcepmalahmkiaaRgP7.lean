/- A ring of pinnace/pinnacelaw08.Pair: Put where there is no room: walked. -/
import Derived.Test.YtkcepmalahmkiaaRgP6
namespace Go.Proofs.Ytkcepmalahmkiaa
open Go.RowKit
/-- the first goes -/
theorem Delete01P (g n cap m : Nat) (xs : List (Rit (Int × Bool))) (w : World) (ho : w.ownsRow 0 87 3 (.slice (some ⟨g, 0, none⟩) n cap) n (rcells csP xs)) (hj : 1 + m = n) (hcap : n ≤ cap) (hm : cap ≤ maxLen) :
    Calls Try.prog 34 #[.slice (some ⟨g, 0, none⟩) n cap, .int .i64 0, .int .i64 1] w fun e w' => e = .returned (.slice (some ⟨g, 0, none⟩) m cap) ∧
      w'.ownsRow 0 87 3 (.slice (some ⟨g, 0, none⟩) m cap) m (rcells csP (xs.drop 1)) ∧ Upd (fun b => b = g) w w' := by
  have h := PDelete_any g n cap 0 1 m (rcells csP xs) w ho (by omega) hj hcap hm (rcells_one csP (3 - 1) csP_len csP_one xs)
  rw [rcells_drop csP (3 - 1) csP_len]
  simpa using h
theorem cut_endP {W w3 : World} {g gl n m c most : Nat} {xs : List (Rit (Int × Bool))} (h : PRing W g (.slice (some ⟨gl, 0, none⟩) n c) most xs) (hu : Upd (fun b => b = gl) W w3) (hl : (xs.drop 1).length = m) (ho : w3.ownsRow 0 87 3 (.slice (some ⟨gl, 0, none⟩) m c) m (rcells csP (xs.drop 1))) :
    w3.cell? ⟨g, 1, none⟩ = some (.slice (some ⟨gl, 0, none⟩) n c) ∧ w3.frozen? ⟨g, 1, none⟩ = false ∧ PRing (w3.setCell ⟨g, 1, none⟩ (.slice (some ⟨gl, 0, none⟩) m c)) g (.slice (some ⟨gl, 0, none⟩) m c) most (xs.drop 1) := by
  have hne : g ≠ gl := fun e => h.apart (by rw [e]; rfl)
  have e : w3.heap[g]? = some (.cells #[.int .i64 most, .slice (some ⟨gl, 0, none⟩) n c] 82 (0, 0)) := hu.blk h.obj hne
  refine ⟨by rw [World.cell?, e]; rfl, by simp [World.frozen?, e], ⟨heap_setCell_same w3 g 1 _ _ _ e, ?_, h.up.sublist (List.drop_sublist _ _), fun x hx => h.lt x (List.mem_of_mem_drop hx)⟩⟩
  rw [hl]
  exact own_upd ho (Upd.set1 _ _ _) (fun b hb q => own_obj_ne ho e (by decide) ((show b = g from q) ▸ hb))
set_option maxRecDepth 20000 in
set_option maxHeartbeats 4000000 in
theorem PutFullP {w : World} {g most : Nat} {v : Value} {xs : List (Rit (Int × Bool))} (h : PRing w g v most xs) (hm : xs.length = most) (h1 : 1 ≤ most) (hmm : most ≤ 64) (t : Nat) (x : Int × Bool) (ht : t < 4294967296) (hup : Rising (xs ++ [⟨t, x⟩])) :
    Calls Try.prog 10 #[.pointer (some ⟨g, 0, none⟩), .int .u32 t, (.agg #[.int .i32 x.1, .bool x.2])] w fun e w' => e = .returned (.int .i64 0) ∧ ∃ v', PRing w' g v' most (xs.drop 1 ++ [⟨t, x⟩]) ∧ PWrote g v v' w w' := by
  have hNB := boxP_new w x
  obtain ⟨bx0, bx1⟩ := boxP_cells w x
  have hgw : g < w.heap.size := (Array.getElem?_eq_some_iff.1 h.obj).1
  have hvw : ∀ b, v.ownBlock = some b → b < w.heap.size := fun b hb => (h.row.lt b hb).2
  replace h := h.new hNB
  have k0 := h.c0
  have k1 := h.c1
  have hup2 : Rising (xs.drop 1 ++ [⟨t, x⟩]) := by
    have := hup.sublist (List.drop_sublist 1 _)
    rwa [List.drop_append_of_le_length (by omega)] at this
  obtain ⟨l, hl⟩ : ∃ l, l + 1 = xs.length := ⟨xs.length - 1, by omega⟩
  have hll : l < xs.length := by omega
  obtain ⟨gl, c, rfl, _, _, hc, hcm, hr⟩ := own_some h.row (by omega)
  have c0 := atP hr l hll 0 (by omega) _ rfl
  rw [Nat.add_zero] at c0
  have hlast : (xs[l]'hll).tick < t := by
    have := List.pairwise_iff_getElem.1 hup l xs.length (by rw [List.length_append]; simp; omega) (by rw [List.length_append]; simp) hll
    simpa [List.getElem_append_left hll] using this
  have hti : ¬ (t : Int) ≤ ((xs[l]'hll).tick : Int) := by omega
  generalize (xs[l]'hll).tick = tl at *
  have HLL := Bx.mk hl
  have HD := Bx.mk (show (xs.drop 1).length = l by rw [List.length_drop]; omega)
  have hrow0 := h.row
  have HGW := Bx.mk (show w.heap.size ≠ gl from fun e => by have := hvw gl rfl; omega)
  have HGG := Bx.mk (show w.heap.size ≠ g from fun e => by omega)
  have HR := Bx.mk h
  rw [← hl] at k1 hm hrow0 hc
  subst hm
  have e1 : IntKind.i64.wrap (((l + 1 : Nat) : Int) - 1) = (l : Int) := by rw [IntKind.wrap_i64]; omega
  have hl64 : l ≤ 64 := by omega
  clear h hr hl hlast hll hgw hvw
  go_enter Try.func10, Try.ntmps10
  repeat' (first | (go_at_call 34; (with_reducible refine (Delete01P gl (l + 1) c l xs _ hrow0 (by omega) hc hcm).mono ?_); rintro e w2 ⟨rfl, ho2, hu2⟩; dsimp only; (have hE := cut_endP HR.out hu2 HD.out ho2); rw [← HLL.out] at hE; obtain ⟨m1, f1, hR2⟩ := hE) | go_values | go_skip | go_guarded | go_step | go_upon | go_back)
  have hu3 : Upd (fun b => b = g ∨ (Value.slice (some ⟨gl, 0, none⟩) xs.length c).ownBlock = some b) w (w2.setCell ⟨g, 1, none⟩ (.slice (some ⟨gl, 0, none⟩) l c)) :=
    (New.upd hNB).trans ((hu2.mono (fun b hb => .inr (by rw [show b = gl from hb]; rfl))).setCell (p := ⟨g, 1, none⟩) (.inl (.inl rfl)) _)
  have hub := (Upd.refl (fun b => b = g) w2).setCell (p := ⟨g, 1, none⟩) (.inl rfl) (.slice (some ⟨gl, 0, none⟩) l c)
  replace bx0 := hub.cell (hu2.cell bx0 HGW.out) HGG.out
  replace bx1 := hub.cell (hu2.cell bx1 HGW.out) HGG.out
  clear hub
  generalize w2.setCell ⟨g, 1, none⟩ (.slice (some ⟨gl, 0, none⟩) l c) = w0 at *
  have HRD := Bx.mk (hR2.new (Upd.refl Nowhere _).drew)
  have hrow := HRD.out.row.alloc (.cells #[.int .u32 t, .int .i32 x.1, .bool x.2] 87)
  rw [HD.out] at hrow
  have hs := Src.ofSlice (P := Try.prog) (size := 3) _ Try.underlying80 _ 1 1 _ rfl (cells_new w0.drew [.int .u32 t, .int .i32 x.1, .bool x.2] 87) (by intro u hu; simp at hu; rcases hu with rfl | rfl | rfl <;> rfl)
  have k12 := hR2.c1
  have k1' := (Upd.refl Nowhere w0).drew.cell k12 (fun q => q)
  have bx0' := (Upd.refl Nowhere w0).drew.cell bx0 (fun q => q)
  have bx1' := (Upd.refl Nowhere w0).drew.cell bx1 (fun q => q)
  have k1'' := ((Upd.refl Nowhere w0).alloc (.cells #[.int .u32 t, .int .i32 x.1, .bool x.2] 87)).cell k12 (fun q => q)
  clear k12 bx0 bx1 k0 k1 c0 m1 f1 hrow0 e1
  go_region_law (refine step_appB rfl _ _ 80 80 rfl 0 87 (Value.agg #[.int .u32 0, .int .i32 0, .bool false]) 3 12 Try.underlying80 infoP rfl _ l _ hrow rfl _ 1 _ hs rfl (Nat.zero_le _) (by unfold maxLen; omega) (by omega) ?_; intro v5 w5 ho5 hk5 hw5; obtain ⟨m5, f5⟩ := grownP HRD.out hk5; obtain ⟨A5, c5, rfl, _⟩ := own_rd ho5)
  all_goals
    go_wp2
    go_ret
    obtain ⟨r1, r2⟩ := put_endP HRD.out hk5 (by rw [HD.out]; exact ho5) hw5 hup2 ht
    have hu4 := hu3.drew
    rw [List.drop_one] at r1
    exact ⟨rfl, _, r1, hu4.trans (r2.upd.mono (fun b hb => hb)), fun b hb => (r2.at_ b hb).imp (fun q => q) (fun q => Nat.le_trans hu4.size q)⟩
end Go.Proofs.Ytkcepmalahmkiaa
