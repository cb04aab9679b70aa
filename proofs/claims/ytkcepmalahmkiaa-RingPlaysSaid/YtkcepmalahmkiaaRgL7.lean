/- A ring of int64: Put where there is no room: walked. -/
import Derived.Test.YtkcepmalahmkiaaRgL6
namespace Go.Proofs.Ytkcepmalahmkiaa
open Go.RowKit
/-- the first goes -/
theorem Delete01L (g n cap m : Nat) (xs : List (Rit Int)) (w : World) (ho : w.ownsRow 0 108 2 (.slice (some ⟨g, 0, none⟩) n cap) n (rcells csL xs)) (hj : 1 + m = n) (hcap : n ≤ cap) (hm : cap ≤ maxLen) :
    Calls Try.prog 42 #[.slice (some ⟨g, 0, none⟩) n cap, .int .i64 0, .int .i64 1] w fun e w' => e = .returned (.slice (some ⟨g, 0, none⟩) m cap) ∧
      w'.ownsRow 0 108 2 (.slice (some ⟨g, 0, none⟩) m cap) m (rcells csL (xs.drop 1)) ∧ Upd (fun b => b = g) w w' := by
  have h := LDelete_any g n cap 0 1 m (rcells csL xs) w ho (by omega) hj hcap hm (rcells_one csL (2 - 1) csL_len csL_one xs)
  rw [rcells_drop csL (2 - 1) csL_len]
  simpa using h
theorem cut_endL {W w3 : World} {g gl n m c most : Nat} {xs : List (Rit Int)} (h : LRing W g (.slice (some ⟨gl, 0, none⟩) n c) most xs) (hu : Upd (fun b => b = gl) W w3) (hl : (xs.drop 1).length = m) (ho : w3.ownsRow 0 108 2 (.slice (some ⟨gl, 0, none⟩) m c) m (rcells csL (xs.drop 1))) :
    w3.cell? ⟨g, 1, none⟩ = some (.slice (some ⟨gl, 0, none⟩) n c) ∧ w3.frozen? ⟨g, 1, none⟩ = false ∧ LRing (w3.setCell ⟨g, 1, none⟩ (.slice (some ⟨gl, 0, none⟩) m c)) g (.slice (some ⟨gl, 0, none⟩) m c) most (xs.drop 1) := by
  have hne : g ≠ gl := fun e => h.apart (by rw [e]; rfl)
  have e : w3.heap[g]? = some (.cells #[.int .i64 most, .slice (some ⟨gl, 0, none⟩) n c] 106 (0, 0)) := hu.blk h.obj hne
  refine ⟨by rw [World.cell?, e]; rfl, by simp [World.frozen?, e], ⟨heap_setCell_same w3 g 1 _ _ _ e, ?_, h.up.sublist (List.drop_sublist _ _), fun x hx => h.lt x (List.mem_of_mem_drop hx)⟩⟩
  rw [hl]
  exact own_upd ho (Upd.set1 _ _ _) (fun b hb q => own_obj_ne ho e (by decide) ((show b = g from q) ▸ hb))
set_option maxRecDepth 20000 in
set_option maxHeartbeats 2000000 in
theorem PutFullL {w : World} {g most : Nat} {v : Value} {xs : List (Rit Int)} (h : LRing w g v most xs) (hm : xs.length = most) (h1 : 1 ≤ most) (hmm : most ≤ 64) (t : Nat) (x : Int) (ht : t < 4294967296) (hup : Rising (xs ++ [⟨t, x⟩])) :
    Calls Try.prog 25 #[.pointer (some ⟨g, 0, none⟩), .int .u32 t, (.int .i64 x)] w fun e w' => e = .returned (.int .i64 0) ∧ ∃ v', LRing w' g v' most (xs.drop 1 ++ [⟨t, x⟩]) ∧ LWrote g v v' w w' := by
  have HR := Bx.mk h
  have k0 := h.c0
  have k1 := h.c1
  have hup2 : Rising (xs.drop 1 ++ [⟨t, x⟩]) := by
    have := hup.sublist (List.drop_sublist 1 _)
    rwa [List.drop_append_of_le_length (by omega)] at this
  obtain ⟨l, hl⟩ : ∃ l, l + 1 = xs.length := ⟨xs.length - 1, by omega⟩
  have hll : l < xs.length := by omega
  obtain ⟨gl, c, rfl, _, _, hc, hcm, hr⟩ := own_some h.row (by omega)
  have c0 := atL hr l hll 0 (by omega) _ rfl
  rw [Nat.add_zero] at c0
  have hlast : (xs[l]'hll).tick < t := by
    have := List.pairwise_iff_getElem.1 hup l xs.length (by rw [List.length_append]; simp; omega) (by rw [List.length_append]; simp) hll
    simpa [List.getElem_append_left hll] using this
  have hti : ¬ (t : Int) ≤ ((xs[l]'hll).tick : Int) := by omega
  generalize (xs[l]'hll).tick = tl at *
  have HLL := Bx.mk hl
  have HD := Bx.mk (show (xs.drop 1).length = l by rw [List.length_drop]; omega)
  have hrow0 := h.row
  rw [← hl] at k1 hm hrow0 hc
  subst hm
  have e1 : IntKind.i64.wrap (((l + 1 : Nat) : Int) - 1) = (l : Int) := by rw [IntKind.wrap_i64]; omega
  have hl64 : l ≤ 64 := by omega
  clear h hr hl hlast hll
  go_enter Try.func25, Try.ntmps25
  repeat' (first | (first
    | (go_at_call 42; (with_reducible refine (Delete01L gl (l + 1) c l xs _ hrow0 (by omega) hc hcm).mono ?_); rintro e w2 ⟨rfl, ho2, hu2⟩; dsimp only; (have hE := cut_endL HR.out hu2 HD.out ho2); rw [← HLL.out] at hE; obtain ⟨m1, f1, hR2⟩ := hE; have hrow1 := hR2.row; rw [HD.out] at hrow1; have hrow2 := hrow1.alloc (.cells #[.int .u32 t, .int .i64 x] 108); have k12 := hR2.c1; have hs2 := Src.ofSlice (P := Try.prog) (size := 2) _ Try.underlying104 _ 1 1 _ rfl (cells_new (w2.setCell ⟨g, 1, none⟩ (.slice (some ⟨gl, 0, none⟩) l c)) [.int .u32 t, .int .i64 x] 108) (by intro u hu; simp at hu; rcases hu with rfl | rfl <;> rfl); rw [show (w2.setCell ⟨g, 1, none⟩ (.slice (some ⟨gl, 0, none⟩) l c)).heap.size = w2.heap.size by simp] at hs2)
    | (at_builtin; refine wpList_appB rfl _ _ 104 104 rfl 0 108 (Value.agg #[.int .u32 0, .int .i64 0]) 2 16 Try.underlying104 infoL rfl _ l _ hrow2 rfl _ 1 _ hs2 rfl (Nat.zero_le _) (by unfold maxLen; omega) (by omega) ?_; intro v5 w5 ho5 hk5 hw5; obtain ⟨m5, f5⟩ := grownL hR2 hk5; obtain ⟨A5, c5, rfl, _⟩ := own_rd ho5)) | go_values | go_skip | go_guarded | go_step | go_upon | go_back)
  go_ret
  obtain ⟨r1, r2⟩ := put_endL hR2 hk5 (by rw [HD.out]; exact ho5) hw5 hup2 ht
  have hu3 : Upd (fun b => b = g ∨ (Value.slice (some ⟨gl, 0, none⟩) xs.length c).ownBlock = some b) w (w2.setCell ⟨g, 1, none⟩ (.slice (some ⟨gl, 0, none⟩) l c)) :=
    (hu2.mono (fun b hb => .inr (by rw [show b = gl from hb]; rfl))).setCell (p := ⟨g, 1, none⟩) (.inl (.inl rfl)) _
  exact ⟨rfl, _, r1, hu3.trans (r2.upd.mono (fun b hb => hb)), fun b hb => (r2.at_ b hb).imp (fun q => q) (fun q => Nat.le_trans hu3.size q)⟩
end Go.Proofs.Ytkcepmalahmkiaa
