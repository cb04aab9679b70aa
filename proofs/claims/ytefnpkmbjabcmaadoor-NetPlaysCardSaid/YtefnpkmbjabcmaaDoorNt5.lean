/- Peek, Take, Copy, Drop: walked. -/
import Derived.Test.YtefnpkmbjabcmaaDoorNt4
namespace Go.Proofs.YtefnpkmbjabcmaaDoor
open Go.RowKit

theorem out_results {fn : Func} {p u : Tmp} (h : fn.results = #[.cell p 36, .tmp u]) (tmps : Array Value) (w : World) (g : Nat) (cs : Array Value) (fr : Nat × Nat) (hp : tmps.getD p undef = .pointer (some ⟨g, 0, none⟩)) (hg : w.heap[g]? = some (.cells cs 36 fr)) (hs : cs.size = 2) :
    (results fn tmps).run Tryd.prog w = .ok (.tuple #[.agg cs, tmps.getD u undef]) w := by
  have hr := run_loadVar_row (P := Tryd.prog) w g 36 36 cs fr _ hg Tryd.underlying36 rfl (by rw [hs]; kernel_rfl)
  rw [results_cell_tmp h, hp]
  simp [asAddr, hr]
/-- a datagram of its own, and a number -/
def RetOutE (to : Int) (fr : List (BitVec 8)) (k : Int) (w : World) (e : Ending) (w' : World) : Prop := ∃ v, e = .returned (.tuple #[.agg #[.int .i64 to, v], .int .i64 k]) ∧ w'.ownsRow w.heap.size 5 1 v fr.length (u8s fr) ∧ New w w'

theorem peek_out {w : World} (w1 : World) (hd : New w w1) (B : Nat) (hB : w.heap.size ≤ B) (x y a b : Value) (hb : w1.heap[B]? = some (.cells #[a, b] 36 (0, 0))) :
    New w ((w1.setCell ⟨B, 0, none⟩ x).setCell ⟨B, 1, none⟩ y) ∧ ((w1.setCell ⟨B, 0, none⟩ x).setCell ⟨B, 1, none⟩ y).heap[B]? = some (.cells #[x, y] 36 (0, 0)) :=
  ⟨(hd.setCell (p := ⟨B, 0, none⟩) (.inr hB) _).setCell (p := ⟨B, 1, none⟩) (.inr hB) _, set_two hb x y⟩

set_option maxHeartbeats 1000000 in
theorem Peek_no {w : World} {g most : Nat} {v : Value} {xs : List It} (h : IsBag w g v most xs) (i : Int) (hi : ¬ (0 ≤ i ∧ i < xs.length)) :
    Calls Tryd.prog 14 #[.pointer (some ⟨g, 0, none⟩), .int .i64 i] w fun e w' => e = .returned (.tuple #[.agg #[.int .i64 0, .slice none 0 0], .int .i64 10]) ∧ New w w' := by
  have hd : New w (w.alloc (.cells #[.int .i64 0, .slice none 0 0] 36)) := (Upd.refl _ _).alloc _
  have hb := box_new w (.int .i64 0) (.slice none 0 0)
  have HA := Bx.mk (has_any (h.new hd) i)
  rw [decide_eq_false hi] at HA
  have hE := peek_out _ hd w.heap.size (Nat.le_refl _) (.int .i64 0) (.slice none 0 0) _ _ hb
  go_enter Tryd.func14, Tryd.ntmps14
  go_wp2_with (go_at_call 30; (with_reducible refine (HA.out).mono ?_); rintro e w2 ⟨rfl, rfl⟩; dsimp only)
  exact bodyPost_ret (out_results Tryd.results14 _ _ w.heap.size _ (0, 0) rfl hb rfl) rfl ⟨rfl, hd⟩
theorem Peek_nil (w : World) (i : Int) :
    Calls Tryd.prog 14 #[.pointer none, .int .i64 i] w fun e w' => e = .returned (.tuple #[.agg #[.int .i64 0, .slice none 0 0], .int .i64 10]) ∧ New w w' := by
  have hd : New w (w.alloc (.cells #[.int .i64 0, .slice none 0 0] 36)) := (Upd.refl _ _).alloc _
  have hb := box_new w (.int .i64 0) (.slice none 0 0)
  go_enter Tryd.func14, Tryd.ntmps14
  go_wp2_with (go_at_call 30; (with_reducible refine (has_nil _ i).mono ?_); rintro e w2 ⟨rfl, rfl⟩; dsimp only)
  exact bodyPost_ret (out_results Tryd.results14 _ _ w.heap.size _ (0, 0) rfl hb rfl) rfl ⟨rfl, hd⟩
set_option maxHeartbeats 1000000 in
theorem Peek_ok {w : World} {g most : Nat} {v : Value} {xs : List It} (h : IsBag w g v most xs) (i : Nat) (hi : i < xs.length) (hsz : xs.length ≤ 4096) (x : It) (hx : xs[i]? = some x) (hfr : x.fr.length ≤ 140737488351232) :
    Calls Tryd.prog 14 #[.pointer (some ⟨g, 0, none⟩), .int .i64 i] w (RetOutE x.to x.fr 0 w) := by
  have hd : New w (w.alloc (.cells #[.int .i64 0, .slice none 0 0] 36)) := (Upd.refl _ _).alloc _
  have hb := box_new w (.int .i64 0) (.slice none 0 0)
  have hs1 : (w.alloc (.cells #[.int .i64 0, .slice none 0 0] 36)).heap.size = w.heap.size + 1 := by simp
  have h1 := h.new hd
  have HA := Bx.mk (has_any h1 i)
  rw [decide_eq_true (show 0 ≤ (i : Int) ∧ (i : Int) < xs.length by omega)] at HA
  obtain ⟨gl, c, hv, hc, hcm, hne, e0, e1, hin⟩ := h1.item i hi
  have hxx : xs[i] = x := by rw [List.getElem?_eq_getElem hi] at hx; exact Option.some.inj hx
  rw [hxx] at e0 e1 hin
  obtain ⟨A, cf, hxv, hcf, hcfm, hr, _⟩ := In.slice hin
  rw [hxv] at e1
  have c1 := h1.c1
  rw [hv] at c1
  have hil : (i : Int) < (xs.length : Int) := by omega
  clear h h1 hx hxx hv hin hxv
  generalize xs.length = l at *
  have HB := Bx.mk hb
  have HS1 := Bx.mk hs1
  have HR := Bx.mk hr
  clear hb hs1 hr
  go_enter Tryd.func14, Tryd.ntmps14
  go_wp2_with (first | (go_at_call 30; (with_reducible refine (HA.out).mono ?_); rintro e w2 ⟨rfl, rfl⟩; dsimp only) | (go_at_call 29; (with_reducible refine (twin_any x.to A _ cf x.fr _ rfl hfr HR.out).mono ?_); rintro e w3 ⟨v3, rfl, ho3, hu3⟩; obtain ⟨A3, c3, rfl, _⟩ := own_rd ho3; have hb3 := hu3.blk HB.out (fun q => q); obtain ⟨m0, m1⟩ := out_cells hb3; have f0 := out_fz hb3 0; have f1 := out_fz hb3 1; dsimp only))
  have hlt : w.heap.size < (w.alloc (.cells #[.int .i64 0, .slice none 0 0] 36)).heap.size := by rw [HS1.out]; omega
  obtain ⟨p1, p2⟩ := peek_out w3 (hd.trans hu3) w.heap.size (Nat.le_refl _) (.int .i64 x.to) (.slice A3 x.fr.length c3) _ _ hb3
  refine bodyPost_ret (out_results Tryd.results14 _ _ w.heap.size _ (0, 0) rfl p2 rfl) rfl ⟨_, rfl, ?_, p1⟩
  exact own_upd (own_upd (own_lower ho3 (Nat.le_of_lt hlt)) (Upd.set1 _ _ _) (fun b hb q => by have := own_ge ho3 b hb; have : b = w.heap.size := q; omega)) (Upd.set1 _ _ _) (fun b hb q => by have := own_ge ho3 b hb; have : b = w.heap.size := q; omega)

/-- two result cells, laid one behind the other -/
theorem heap_two' (w : World) (o1 o2 : Obj) : ((w.alloc o1).alloc o2).heap[w.heap.size + 1]? = some o2 := by
  have := heap_alloc_new (w.alloc o1) o2
  rwa [show (w.alloc o1).heap.size = w.heap.size + 1 by simp] at this
set_option maxHeartbeats 1000000 in
theorem Take_no {w : World} {g most : Nat} {v : Value} {xs : List It} (h : IsBag w g v most xs) (i : Int) (hi : ¬ (0 ≤ i ∧ i < xs.length)) :
    Calls Tryd.prog 16 #[.pointer (some ⟨g, 0, none⟩), .int .i64 i] w fun e w' => e = .returned (.tuple #[.agg #[.int .i64 0, .slice none 0 0], .int .i64 10]) ∧ New w w' := by
  have hd : New w (w.alloc (.cells #[.int .i64 0, .slice none 0 0] 36)) := (Upd.refl _ _).alloc _
  have hb := box_new w (.int .i64 0) (.slice none 0 0)
  have HP := Bx.mk (Peek_no (h.new hd) i hi)
  clear h hi
  go_enter Tryd.func16, Tryd.ntmps16
  go_wp2_with (go_at_call 14; (with_reducible refine (HP.out).mono ?_); rintro e w2 ⟨rfl, hu2⟩; have hb2 := hu2.blk hb (fun q => q); obtain ⟨m0, m1⟩ := out_cells hb2; have f0 := out_fz hb2 0; have f1 := out_fz hb2 1; have hlt := (Array.getElem?_eq_some_iff.1 hb2).1; dsimp only)
  obtain ⟨p1, p2⟩ := peek_out w2 (hd.trans hu2) w.heap.size (Nat.le_refl _) (.int .i64 0) (.slice none 0 0) _ _ hb2
  exact bodyPost_ret (out_results Tryd.results16 _ _ w.heap.size _ (0, 0) rfl (((Upd.refl Nowhere _).alloc _).blk p2 (fun q => q)) rfl) rfl ⟨rfl, p1.alloc _⟩
theorem Take_nil (w : World) (i : Int) :
    Calls Tryd.prog 16 #[.pointer none, .int .i64 i] w fun e w' => e = .returned (.tuple #[.agg #[.int .i64 0, .slice none 0 0], .int .i64 10]) ∧ New w w' := by
  have hd : New w (w.alloc (.cells #[.int .i64 0, .slice none 0 0] 36)) := (Upd.refl _ _).alloc _
  have hb := box_new w (.int .i64 0) (.slice none 0 0)
  have HP := Bx.mk (fun w => Peek_nil w i)
  go_enter Tryd.func16, Tryd.ntmps16
  go_wp2_with (go_at_call 14; (with_reducible refine (HP.out _).mono ?_); rintro e w2 ⟨rfl, hu2⟩; have hb2 := hu2.blk hb (fun q => q); obtain ⟨m0, m1⟩ := out_cells hb2; have f0 := out_fz hb2 0; have f1 := out_fz hb2 1; have hlt := (Array.getElem?_eq_some_iff.1 hb2).1; dsimp only)
  obtain ⟨p1, p2⟩ := peek_out w2 (hd.trans hu2) w.heap.size (Nat.le_refl _) (.int .i64 0) (.slice none 0 0) _ _ hb2
  exact bodyPost_ret (out_results Tryd.results16 _ _ w.heap.size _ (0, 0) rfl (((Upd.refl Nowhere _).alloc _).blk p2 (fun q => q)) rfl) rfl ⟨rfl, p1.alloc _⟩
theorem Delete_J (g n cap i j m : Nat) (cs : List Value) (w : World) (ho : w.ownsRow 0 36 2 (.slice (some ⟨g, 0, none⟩) n cap) n cs) (hij : i < j) (hj : j + m = n) (hcap : n ≤ cap) (hm : cap ≤ maxLen) (h1 : ∀ u ∈ cs, u.oneCell' = true) (J : Int) (hJ : (j : Int) = J) :
    Calls Tryd.prog 31 #[.slice (some ⟨g, 0, none⟩) n cap, .int .i64 i, .int .i64 J] w fun e w' => e = .returned (.slice (some ⟨g, 0, none⟩) (i + m) cap) ∧
      w'.ownsRow 0 36 2 (.slice (some ⟨g, 0, none⟩) (i + m) cap) (i + m) (cs.take (i * 2) ++ cs.drop (j * 2)) ∧ Upd (fun b => b = g) w w' := by subst hJ; exact Delete_any g n cap i j m cs w ho hij hj hcap hm h1
theorem take_blk {W w3 : World} {g gl B : Nat} {a b p q : Value} (hu : Upd (fun b => b = gl) W w3) (hg : W.heap[g]? = some (.cells #[p, q] 67 (0, 0))) (hB : W.heap[B]? = some (.cells #[a, b] 36 (0, 0))) (hne : B ≠ gl) (u : Value) :
    (w3.setCell ⟨g, 1, none⟩ u).heap[B]? = some (.cells #[a, b] 36 (0, 0)) := by
  have hBg : B ≠ g := by
    intro e
    subst e
    rw [hB] at hg
    injection hg with hg
    injection hg with _ hg
    exact absurd hg (by decide)
  rw [heap_setCell_other _ _ _ _ hBg]
  exact hu.blk hB hne
theorem cut_end {W w3 : World} {g gl most : Nat} {v v' : Value} {xs ys : List It} (h : IsBag W g v most xs) (hu : Upd (fun b => b = gl) W w3) (hv : v.ownBlock = some gl) (ho : w3.ownsRow 0 36 2 v' ys.length (outs ys)) (hys : ∀ x ∈ ys, x ∈ xs) :
    IsBag (w3.setCell ⟨g, 1, none⟩ v') g v' most ys := by
  have hgl : gl ≠ g := fun e => h.apart (e ▸ hv)
  have e : w3.heap[g]? = some (.cells #[.int .i64 most, v] 67 (0, 0)) := hu.blk h.obj (fun q => hgl q.symm)
  refine ⟨heap_setCell_same w3 g 1 _ _ _ e, own_upd ho (Upd.set1 _ _ _) (fun b hb q => obj_apart e ho (by decide) ((show b = g from q) ▸ hb)), fun x hx => ?_⟩
  have h1 : x.In w3 := own_upd (h.frs x (hys x hx)) hu (fun b hb q => by
    have q' : b = gl := q
    subst q'
    exact own_apart (h.frs x (hys x hx)) h.row (by decide) b hb hv)
  exact own_upd h1 (Upd.set1 _ _ _) (fun b hb q => obj_apart e h1 (by decide) ((show b = g from q) ▸ hb))
theorem IsBag.at_out {W : World} {g B most : Nat} {v a b : Value} {xs : List It} (h : IsBag W g v most xs) (hB : W.heap[B]? = some (.cells #[a, b] 36 (0, 0))) (hne : ∀ k, v.ownBlock = some k → k ≠ B) (x y : Value) : IsBag ((W.setCell ⟨B, 0, none⟩ x).setCell ⟨B, 1, none⟩ y) g v most xs := by
  have hgB : g ≠ B := by
    intro e
    subst e
    have e2 := h.obj
    rw [hB] at e2
    injection e2 with e2
    injection e2 with _ e2
    exact absurd e2 (by decide)
  have hu : Upd (fun k => k = B) W ((W.setCell ⟨B, 0, none⟩ x).setCell ⟨B, 1, none⟩ y) := Upd.setCell (p := ⟨B, 1, none⟩) (Upd.set1 W ⟨B, 0, none⟩ x) (.inl rfl) y
  exact h.upd hu hgB hne (fun x hx k hk q => obj_apart hB (h.frs x hx) (by decide) ((show k = B from q) ▸ hk))
theorem bag_cells {w : World} {g : Nat} {a b : Value} (h : w.heap[g]? = some (.cells #[a, b] 67 (0, 0))) : w.cell? ⟨g, 1, none⟩ = some b ∧ w.frozen? ⟨g, 1, none⟩ = false := ⟨by rw [World.cell?, h]; rfl, by simp [World.frozen?, h]⟩
set_option maxHeartbeats 2000000 in
theorem Take_ok {w : World} {g most : Nat} {v : Value} {xs : List It} (h : IsBag w g v most xs) (i : Nat) (hi : i < xs.length) (hsz : xs.length ≤ 4096) (x : It) (hx : xs[i]? = some x) (hfr : x.fr.length ≤ 140737488351232) :
    Calls Tryd.prog 16 #[.pointer (some ⟨g, 0, none⟩), .int .i64 i] w fun e w' => ∃ vr v', e = .returned (.tuple #[.agg #[.int .i64 x.to, vr], .int .i64 0]) ∧ w'.ownsRow w.heap.size 5 1 vr x.fr.length (u8s x.fr) ∧ IsBag w' g v' most (xs.take i ++ xs.drop (i + 1)) ∧ BagWrote g v v' w w' := by
  have hd : New w (w.alloc (.cells #[.int .i64 0, .slice none 0 0] 36)) := (Upd.refl _ _).alloc _
  have hb := box_new w (.int .i64 0) (.slice none 0 0)
  have h1 := h.new hd
  have HP := Bx.mk (Peek_ok h1 i hi hsz x hx hfr)
  obtain ⟨gl, c, rfl, hc, hcm, hne, -, -, -⟩ := h1.item i hi
  have hglt : gl < w.heap.size := own_lt h.row gl rfl
  have HL := Bx.mk (outs_length xs)
  have HSZ := Bx.mk (show (w.alloc (.cells #[.int .i64 0, .slice none 0 0] 36)).heap.size = w.heap.size + 1 by simp)
  clear hx
  obtain ⟨m, hm⟩ : ∃ m, i + 1 + m = xs.length := ⟨xs.length - (i + 1), by omega⟩
  have HI := Bx.mk h1
  clear h h1
  generalize hll : xs.length = l at *
  have HLL := Bx.mk hll
  have HM := Bx.mk hm
  clear hll hm
  go_enter Tryd.func16, Tryd.ntmps16
  go_wp2_with (first
    | (go_at_call 31; (with_reducible refine (Delete_J gl l c i (i + 1) m (outs xs) _ hrow (by omega) HM.out hc hcm (outs_one xs hIB.frs) _ (by omega)).mono ?_); rintro e w3 ⟨rfl, ho3, hu3⟩; dsimp only; have q1 := take_blk hu3 hIB.obj hbB (by omega) (.slice (some ⟨gl, 0, none⟩) (i + m) c); have q2 := take_blk hu3 hIB.obj hbA (by omega) (.slice (some ⟨gl, 0, none⟩) (i + m) c); have hob3 := hu3.blk hIB.obj (fun e => hne e.symm); obtain ⟨r0, r1⟩ := bag_cells hob3; obtain ⟨s0, s1⟩ := out_cells q1; obtain ⟨t0, t1⟩ := out_cells q2; have f0 := out_fz q2 0; have f1 := out_fz q2 1)
    | (go_at_call 14; (with_reducible refine (HP.out).mono ?_); rintro e w2 ⟨vr, rfl, hor, hu2⟩; have hb2 := hu2.blk hb (fun q => q); have hlt := (Array.getElem?_eq_some_iff.1 hb2).1; obtain ⟨Ar, cr, rfl, _⟩ := own_rd hor; have hal : New w2 (w2.alloc (.cells #[.int .i64 x.to, .slice Ar x.fr.length cr] 36)) := (Upd.refl _ _).alloc _; have hIB := (HI.out.new hu2).new hal; have hbA := hal.blk hb2 (fun q => q); have hbB := box_new w2 (.int .i64 x.to) (.slice Ar x.fr.length cr); have c1 := hIB.c1; have hrow := hIB.row; rw [HLL.out] at hrow; dsimp only))
  refine bodyPost_ret (out_results Tryd.results16 _ _ w.heap.size _ (0, 0) rfl (set_two q2 _ _) rfl) rfl ⟨_, .slice (some ⟨gl, 0, none⟩) (i + m) c, rfl, ?_, ?_, ?_, fun b hb => .inl hb⟩
  · have hwl : ∀ b, (Value.slice Ar x.fr.length cr).ownBlock = some b → w.heap.size + 1 ≤ b := fun b hb => by have := own_ge hor b hb; have := HSZ.out; omega
    have h1 := own_lower (own_upd (own_new hor hal) hu3 (fun b hb q => by have := hwl b hb; have : b = gl := q; omega)) (show w.heap.size ≤ _ by rw [HSZ.out]; omega)
    have h2 := own_upd h1 (Upd.set1 w3 ⟨g, 1, none⟩ (.slice (some ⟨gl, 0, none⟩) (i + m) c)) (fun b hb q => obj_apart hob3 h1 (by decide) ((show b = g from q) ▸ hb))
    have h3 := own_upd h2 (Upd.set1 _ ⟨w.heap.size, 0, none⟩ (.int .i64 x.to)) (fun b hb q => by have := hwl b hb; have : b = w.heap.size := q; omega)
    exact own_upd h3 (Upd.set1 _ ⟨w.heap.size, 1, none⟩ (.slice Ar x.fr.length cr)) (fun b hb q => by have := hwl b hb; have : b = w.heap.size := q; omega)
  · have hyl : (xs.take i ++ xs.drop (i + 1)).length = i + m := by rw [List.length_append, List.length_take, List.length_drop]; have := HLL.out; have := HM.out; omega
    have hE := cut_end (ys := xs.take i ++ xs.drop (i + 1)) hIB hu3 rfl (by rw [hyl, outs_append, outs_take, outs_drop]; exact ho3) (fun x hx => (List.mem_append.1 hx).elim (List.mem_of_mem_take ·) (List.mem_of_mem_drop ·))
    exact hE.at_out q2 (fun k hk => by have : gl = k := by simpa [Value.ownBlock] using hk
                                       omega) _ _
  · have hn : New w (w2.alloc (.cells #[.int .i64 x.to, .slice Ar x.fr.length cr] 36)) := (hd.trans hu2).trans hal
    exact (((((New.upd hn).then hu3 (fun b hb => .inl (.inr (by rw [show b = gl from hb]; rfl))))).setCell (p := ⟨g, 1, none⟩) (.inl (.inl rfl)) _).setCell (p := ⟨w.heap.size, 0, none⟩) (.inr (Nat.le_refl _)) _).setCell (p := ⟨w.heap.size, 1, none⟩) (.inr (Nat.le_refl _)) _
end Go.Proofs.YtefnpkmbjabcmaaDoor
