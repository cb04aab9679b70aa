/- CompNil: walked. -/
import Derived.Test.YtpfdbkfjjjiamaaCm6
namespace Go.Proofs.Ytpfdbkfjjjiamaa
open Go.RowKit
theorem compRes {fn : Func} {p u : Tmp} (h : fn.results = #[.cell p 24, .tmp u]) (tmps : Array Value) (w : World) (g : Nat) (cs : Array Value) (fr : Nat × Nat) (hp : tmps.getD p undef = .pointer (some ⟨g, 0, none⟩)) (hg : w.heap[g]? = some (.cells cs 24 fr)) (hs : cs.size = 4) :
    (results fn tmps).run Try.prog w = .ok (.tuple #[.agg cs, tmps.getD u undef]) w := by
  have hr := run_loadVar_row (P := Try.prog) w g 24 24 cs fr _ hg Try.underlying24 rfl (by rw [hs]; kernel_rfl)
  rw [results_cell_tmp h, hp]
  simp [asAddr, hr]
theorem comp_eql (w : World) (k a b c : Int) : (binOp .eql 24 (.agg #[.int .u8 k, .int .i32 a, .int .i32 b, .int .i32 c]) (.agg #[.int .u8 k, .int .i32 a, .int .i32 b, .int .i32 c])).run Try.prog w = .ok (.bool true) w := by
  have h := run_equalIn_array (P := Try.prog) w 9997 22 21 .i32 3 Try.underlying22 Try.underlying21 (z := some (.int .i32 0)) (bytes := 4) (by kernel_rfl) [a, b, c] [a, b, c] rfl rfl
  rw [run_eql_struct]
  rw [show (10000 : Nat) = 9999 + 1 from rfl, run_equalIn_struct w 9999 24 _ _ (by kernel_rfl) (by kernel_rfl)]
  have hu : Try.prog.underlying 24 = some (.struct (Try.prog.fieldsOf 24)) := by kernel_rfl
  simp [Program.fieldsOf, Try.underlying24, Op.eqFields, part, isAgg, run_underlying Try.underlying22, run_underlying Try.underlying5, go_sem]
  have h2 : (Op.equalIn 9999 22 (.agg #[.int .i32 a, .int .i32 b, .int .i32 c]) (.agg #[.int .i32 a, .int .i32 b, .int .i32 c])).run Try.prog w = .ok true w := by simpa using h
  rw [h2]
  rfl
theorem alloc_at {x : World} {n : Nat} (h : x.heap.size = n) (o : Obj) : (x.alloc o).heap[n]? = some o := h ▸ heap_alloc_new x o
theorem cmGet_nil (k : Nat) (w : World) : Calls Try.prog 18 #[.pointer none, .int .u8 k] w fun e w' => e = .returned (.tuple #[.agg #[.int .u8 0, .int .i32 0, .int .i32 0, .int .i32 0], .int .i64 10]) ∧ New w w' := by
  go_enter Try.func18, Try.ntmps18
  repeat' (first | fail | go_values | go_skip | go_guarded | go_step | go_upon | go_back)
  refine bodyPost_ret (compRes Try.results18 _ _ (w.heap.size + 1 + 1) _ (0, 0) rfl (alloc_at (by simp) _) rfl) rfl ?_
  exact ⟨rfl, (((Upd.refl _ w).alloc _).alloc _).alloc _⟩
theorem cmGetStep_nil (k : Nat) (a b c : Int) (w : World) : Calls Try.prog 28 #[.pointer none, .agg #[.int .u8 k, .int .i32 a, .int .i32 b, .int .i32 c]] w fun e w' => e = .returned (.tuple #[.agg #[.int .u8 0, .int .i32 0, .int .i32 0, .int .i32 0], .int .i64 10]) ∧ New w w' := by
  go_enter Try.func28, Try.ntmps28
  repeat' (first | fail | go_values | go_skip | go_guarded | go_step | go_upon | go_back)
  refine bodyPost_ret (compRes Try.results28 _ _ (w.heap.size + 1 + 1) _ (0, 0) rfl (alloc_at (by simp) _) rfl) rfl ?_
  exact ⟨rfl, (((Upd.refl _ w).alloc _).alloc _).alloc _⟩
theorem cmPut_nil (k : Nat) (a b c : Int) (w : World) : Calls Try.prog 22 #[.pointer none, .agg #[.int .u8 k, .int .i32 a, .int .i32 b, .int .i32 c]] w fun e w' => e = .returned (.int .i64 10) ∧ New w w' := by
  go_enter Try.func22, Try.ntmps22
  repeat' (first | fail | go_values | go_skip | go_guarded | go_step | go_upon | go_back)
  go_ret
  exact ⟨rfl, (Upd.refl _ w).alloc _⟩
theorem cmPutStep_nil (k k' : Nat) (a b c a' b' c' : Int) (w : World) : Calls Try.prog 29 #[.pointer none, .agg #[.int .u8 k, .int .i32 a, .int .i32 b, .int .i32 c], .agg #[.int .u8 k', .int .i32 a', .int .i32 b', .int .i32 c']] w fun e w' => e = .returned (.int .i64 10) ∧ New w w' := by
  go_enter Try.func29, Try.ntmps29
  repeat' (first | fail | go_values | go_skip | go_guarded | go_step | go_upon | go_back)
  go_ret
  exact ⟨rfl, ((Upd.refl _ w).alloc _).alloc _⟩
set_option maxHeartbeats 4000000 in
theorem CompNil_any (k k' : Nat) (a b c a' b' c' : Int) (w : World) : Calls Try.prog 6 #[.agg #[.int .u8 k, .int .i32 a, .int .i32 b, .int .i32 c], .agg #[.int .u8 k', .int .i32 a', .int .i32 b', .int .i32 c']] w fun e w' => e = .returned (.bool true) ∧ New w w' := by
  obtain ⟨hN0, r1, r2⟩ := two_boxes w k k' a b c a' b' c'
  have R1 := Bx.mk r1
  have R2 := Bx.mk r2
  have cE : ∀ w, _ := fun w => comp_eql w 0 0 0 0
  have CE := Bx.mk cE
  clear cE
  obtain ⟨c0, c1, c2, c3⟩ := four_cells r1
  obtain ⟨d0, d1, d2, d3⟩ := four_cells r2
  clear r1 r2
  go_enter Try.func6, Try.ntmps6
  repeat' (first | (first
    | (go_at_call 18; go_loud ((with_reducible refine (cmGet_nil k' _).mono ?_); rintro e w1 ⟨rfl, hu1⟩; have N1 := hN0.trans hu1; clear c0 c1 c2 c3 d0 d1 d2 d3; have h1 := (Upd.refl Nowhere w1).alloc (.cells #[.int .u8 0, .int .i32 0, .int .i32 0, .int .i32 0] 24); have q1 := rd_new w1 [.int .u8 0, .int .i32 0, .int .i32 0, .int .i32 0] 24; (obtain ⟨c0, c1, c2, c3⟩ := four_cells ((R1.out.new hu1).new h1)); dsimp only))
    | (go_at_call 28; go_loud ((with_reducible refine (cmGetStep_nil k a b c _).mono ?_); rintro e w2 ⟨rfl, hu2⟩; have N2 := (N1.trans h1).trans hu2; have h2 := (Upd.refl Nowhere w2).alloc (.cells #[.int .u8 0, .int .i32 0, .int .i32 0, .int .i32 0] 24); have q2 := rd_new w2 [.int .u8 0, .int .i32 0, .int .i32 0, .int .i32 0] 24; have P1 := Bx.mk (((R1.out.new hu1).new h1).new (hu2.trans h2)); have P2 := Bx.mk (((R2.out.new hu1).new h1).new (hu2.trans h2)); have P3 := Bx.mk (q1.new (hu2.trans h2)); have P4 := Bx.mk q2; have N2a := N2.trans h2; clear c0 c1 c2 c3 q1 q2 h1 h2; dsimp only))
    | (go_at_call 8; go_loud ((with_reducible refine (cmAwake_any _).mono ?_); rintro e w3 ⟨rfl, hu3⟩; have N3 := N2a.trans hu3; (obtain ⟨d0, d1, d2, d3⟩ := four_cells (P2.out.new hu3)); dsimp only))
    | (go_at_call 22; go_loud ((with_reducible refine (cmPut_nil k' a' b' c' _).mono ?_); rintro e w4 ⟨rfl, hu4⟩; have N4 := N3.trans hu4; have K4 := hu3.trans hu4; clear d0 d1 d2 d3; (obtain ⟨e0, e1, e2, e3⟩ := four_cells (P1.out.new K4)); (obtain ⟨f0, f1, f2, f3⟩ := four_cells (P2.out.new K4)); dsimp only))
    | (go_at_call 29; go_loud ((with_reducible refine (cmPutStep_nil k k' a b c a' b' c' _).mono ?_); rintro e w5 ⟨rfl, hu5⟩; have N5 := N4.trans hu5; have K5 := K4.trans hu5; clear e0 e1 e2 e3 f0 f1 f2 f3; (obtain ⟨e0, e1, e2, e3⟩ := four_cells (P3.out.new K5)); (obtain ⟨f0, f1, f2, f3⟩ := four_cells (P4.out.new K5)); have ce := CE.out; dsimp only))) | go_values | go_skip | go_guarded | go_step | go_upon | go_back)
  go_ret
  exact ⟨rfl, N5⟩
end Go.Proofs.Ytpfdbkfjjjiamaa
