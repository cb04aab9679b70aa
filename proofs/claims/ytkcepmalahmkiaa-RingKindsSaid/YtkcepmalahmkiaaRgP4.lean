/- A ring of Pair: Get: walked. -/
import Derived.Test.YtkcepmalahmkiaaRgP5
namespace Go.Proofs.Ytkcepmalahmkiaa
open Go.RowKit
theorem some_atP {xs : List (Rit (Int × Bool))} (h : Rising xs) (t : Nat) (v : Int × Bool) (hf : found xs t = some v) : ∃ hi : lb xs t < xs.length, xs[lb xs t].v = v := by
  by_cases hi : lb xs t < xs.length
  · by_cases ht : xs[lb xs t].tick = t
    · have := found_at h t hi ht
      rw [hf] at this
      exact ⟨hi, (Option.some.inj this).symm⟩
    · have := found_none h t (fun _ => ht)
      rw [hf] at this; cases this
  · have := found_none h t (fun q => absurd q hi)
    rw [hf] at this; cases this
theorem pairRes {fn : Func} {p u : Tmp} (h : fn.results = #[.cell p 30, .tmp u]) (tmps : Array Value) (w : World) (g : Nat) (cs : Array Value) (fr : Nat × Nat) (hp : tmps.getD p undef = .pointer (some ⟨g, 0, none⟩)) (hg : w.heap[g]? = some (.cells cs 30 fr)) (hs : cs.size = 2) :
    (results fn tmps).run Try.prog w = .ok (.tuple #[.agg cs, tmps.getD u undef]) w := by
  have hr := run_loadVar_row (P := Try.prog) w g 30 30 cs fr _ hg Try.underlying30 rfl (by rw [hs]; kernel_rfl)
  rw [results_cell_tmp h, hp]
  simp [asAddr, hr]
theorem set_pair {w : World} {B : Nat} {a b : Value} (h : w.heap[B]? = some (.cells #[a, b] 30 (0, 0))) (x y : Value) : ((w.setCell ⟨B, 0, none⟩ x).setCell ⟨B, 1, none⟩ y).heap[B]? = some (.cells #[x, y] 30 (0, 0)) :=
  heap_setCell_same _ B 1 _ _ y (heap_setCell_same _ B 0 _ _ x h)
theorem pair_cells {w : World} {B : Nat} {a b : Value} (h : w.heap[B]? = some (.cells #[a, b] 30 (0, 0))) : w.cell? ⟨B, 0, none⟩ = some a ∧ w.cell? ⟨B, 1, none⟩ = some b ∧ w.frozen? ⟨B, 0, none⟩ = false ∧ w.frozen? ⟨B, 1, none⟩ = false :=
  ⟨by rw [World.cell?, h]; rfl, by rw [World.cell?, h]; rfl, by simp [World.frozen?, h], by simp [World.frozen?, h]⟩
theorem two_zero (w : World) : let w2 := (w.alloc (.cells #[.int .i32 0, .bool false] 30)).alloc (.cells #[.int .i32 0, .bool false] 30)
    w2.heap[w.heap.size]? = some (.cells #[.int .i32 0, .bool false] 30 (0, 0)) ∧ w2.heap[w.heap.size + 1]? = some (.cells #[.int .i32 0, .bool false] 30 (0, 0)) := by
  intro w2
  refine ⟨?_, ?_⟩
  · exact ((Upd.refl Nowhere _).alloc _).blk (heap_alloc_new w _) (fun q => q)
  · have := heap_alloc_new (w.alloc (.cells #[.int .i32 0, .bool false] 30)) (.cells #[.int .i32 0, .bool false] 30)
    rwa [show (w.alloc (.cells #[.int .i32 0, .bool false] 30)).heap.size = w.heap.size + 1 by simp] at this
theorem put_pair {w : World} (w1 : World) (hd : New w w1) (B : Nat) (hB : w.heap.size ≤ B) (x y a b : Value) (hb : w1.heap[B]? = some (.cells #[a, b] 30 (0, 0))) :
    New w ((w1.setCell ⟨B, 0, none⟩ x).setCell ⟨B, 1, none⟩ y) ∧ ((w1.setCell ⟨B, 0, none⟩ x).setCell ⟨B, 1, none⟩ y).heap[B]? = some (.cells #[x, y] 30 (0, 0)) :=
  ⟨(hd.setCell (p := ⟨B, 0, none⟩) (.inr hB) _).setCell (p := ⟨B, 1, none⟩) (.inr hB) _, set_pair hb x y⟩
theorem GetNoP {w : World} {g most : Nat} {v : Value} {xs : List (Rit (Int × Bool))} (h : PRing w g v most xs) (hm : xs.length ≤ 4096) (t : Nat) (hf : found xs t = none) :
    Calls Try.prog 12 #[.pointer (some ⟨g, 0, none⟩), .int .u32 t] w fun e w' => e = .returned (.tuple #[.agg #[.int .i32 0, .bool false], .bool false]) ∧ New w w' := by
  obtain ⟨b0, b1⟩ := two_zero w
  have hN0 : New w ((w.alloc (.cells #[.int .i32 0, .bool false] 30)).alloc (.cells #[.int .i32 0, .bool false] 30)) := ((Upd.refl _ _).alloc _).alloc _
  have HF := Bx.mk (findP_any (h.new hN0) hm t)
  rw [hf] at HF
  clear h hm hf
  have B0 := Bx.mk b0
  have B1 := Bx.mk b1
  clear b0 b1
  go_enter Try.func12, Try.ntmps12
  go_wp2_with (go_at_call 36; (with_reducible refine (HF.out).mono ?_); rintro e w2 ⟨rfl, hN2⟩; (have q0 := hN2.blk B0.out (fun q => q)); (have q1 := hN2.blk B1.out (fun q => q)); obtain ⟨m0, m1, _, _⟩ := pair_cells q1; obtain ⟨_, _, f0, f1⟩ := pair_cells q0; dsimp only)
  obtain ⟨p1, p2⟩ := put_pair _ (hN0.trans hN2) w.heap.size (Nat.le_refl _) (.int .i32 0) (.bool false) _ _ q0
  exact bodyPost_ret (pairRes Try.results12 _ _ w.heap.size _ (0, 0) rfl p2 rfl) rfl ⟨rfl, p1⟩
set_option maxRecDepth 20000 in
theorem GetOkP {w : World} {g most : Nat} {v : Value} {xs : List (Rit (Int × Bool))} (h : PRing w g v most xs) (hm : xs.length ≤ 4096) (t : Nat) (x : Int × Bool) (hf : found xs t = some x) :
    Calls Try.prog 12 #[.pointer (some ⟨g, 0, none⟩), .int .u32 t] w fun e w' => e = .returned (.tuple #[(.agg #[.int .i32 x.1, .bool x.2]), .bool true]) ∧ New w w' := by
  obtain ⟨b0, b1⟩ := two_zero w
  have hN0 : New w ((w.alloc (.cells #[.int .i32 0, .bool false] 30)).alloc (.cells #[.int .i32 0, .bool false] 30)) := ((Upd.refl _ _).alloc _).alloc _
  replace h := h.new hN0
  have HF := Bx.mk (findP_any h hm t)
  obtain ⟨hi, hv⟩ := some_atP h.up t x hf
  rw [hf] at HF
  obtain ⟨gl, c, rfl, _, _, hc, _, hr⟩ := own_some h.row (by omega)
  have c1 := atP hr (lb xs t) hi 1 (by omega) _ rfl
  have c2 := atP hr (lb xs t) hi 2 (by omega) _ rfl
  rw [hv] at *
  have k1 := h.c1
  generalize lb xs t = i at *
  have hii : (i : Int) < (xs.length : Int) := by omega
  clear h hm hf hr hv hi
  generalize xs.length = n at *
  have B0 := Bx.mk b0
  have B1 := Bx.mk b1
  clear b0 b1
  go_enter Try.func12, Try.ntmps12
  go_wp2_with (go_at_call 36; (with_reducible refine (HF.out).mono ?_); rintro e w2 ⟨rfl, hN2⟩; (have q0 := hN2.blk B0.out (fun q => q)); (have q1 := hN2.blk B1.out (fun q => q)); obtain ⟨m0, m1, _, _⟩ := pair_cells q1; obtain ⟨_, _, f0, f1⟩ := pair_cells q0; have d1 := hN2.cell c1 (fun q => q); have d2 := hN2.cell c2 (fun q => q); have e1 := hN2.cell k1 (fun q => q); dsimp only)
  obtain ⟨p1, p2⟩ := put_pair _ (hN0.trans hN2) w.heap.size (Nat.le_refl _) (.int .i32 x.1) (.bool x.2) _ _ q0
  exact bodyPost_ret (pairRes Try.results12 _ _ w.heap.size _ (0, 0) rfl p2 rfl) rfl ⟨rfl, p1⟩
end Go.Proofs.Ytkcepmalahmkiaa
