/- find, nothing: walks. -/
import Derived.Test.YtdnkdmdmekdfkaaDf2
import Derived.Test.YtdnkdmdmekdfkaaOwn
import Derived.Laws.IdiomArrays
import Derived.Laws.StructEq
import Derived.Laws.ResultCell
namespace Go.Proofs.Ytdnkdmdmekdfkaa
open Go.RowKit
instance : DecidableEq C4 := fun x y => decidable_of_iff (x.k = y.k ∧ x.a = y.a ∧ x.b = y.b ∧ x.c = y.c) (by cases x; cases y; simp)
theorem comp_ne (w : World) (x y : C4) : (binOp .neq 46 (.agg #[.int .u8 x.k, .int .i32 x.a, .int .i32 x.b, .int .i32 x.c]) (.agg #[.int .u8 y.k, .int .i32 y.a, .int .i32 y.b, .int .i32 y.c])).run Try.prog w = .ok (.bool (decide (x ≠ y))) w := by
  obtain ⟨k, a, b, c⟩ := x
  obtain ⟨k', a', b', c'⟩ := y
  have h := run_equalIn_array (P := Try.prog) w 9997 44 21 .i32 3 Try.underlying44 Try.underlying21 (z := some (.int .i32 0)) (bytes := 4) (by kernel_rfl) [a, b, c] [a', b', c'] rfl rfl
  dsimp only
  rw [run_neq_struct]
  rw [show (10000 : Nat) = 9999 + 1 from rfl, run_equalIn_struct w 9999 46 _ _ (by kernel_rfl) (by kernel_rfl)]
  have hu : Try.prog.underlying 46 = some (.struct (Try.prog.fieldsOf 46)) := by kernel_rfl
  simp [Program.fieldsOf, Try.underlying46, Op.eqFields, part, isAgg, run_underlying Try.underlying44, run_underlying Try.underlying5, go_sem]
  have h2 : (Op.equalIn 9999 44 (.agg #[.int .i32 a, .int .i32 b, .int .i32 c]) (.agg #[.int .i32 a', .int .i32 b', .int .i32 c'])).run Try.prog w = .ok (decide ([a, b, c] = [a', b', c'])) w := by simpa using h
  rw [h2]
  by_cases hk : k = k'
  · subst hk
    rw [if_pos rfl]
    by_cases ha : [a, b, c] = [a', b', c']
    · rw [decide_eq_true ha]
      simp only [List.cons.injEq, and_true] at ha
      obtain ⟨rfl, rfl, rfl⟩ := ha
      simp [Result.andThen]
    · rw [decide_eq_false ha]
      simp only [List.cons.injEq, and_true, not_and] at ha
      simp only [Result.andThen, decide_true, Bool.not_true, Bool.false_or]
      simp
      by_cases h1 : a = a'
      · by_cases h2 : b = b'
        · exact .inr (.inr (ha h1 h2))
        · exact .inr (.inl h2)
      · exact .inl h1
  · rw [if_neg (by omega)]
    simp [hk]
def fnd (l : List C4) (k : Nat) : Option C4 := l.find? fun q => q.k == k
theorem find_at {α : Type} {p : α → Bool} (l : List α) (j : Nat) (hj : j < l.length) (h : ∀ q ∈ l.take j, p q = false) (hp : p l[j] = true) : l.find? p = some l[j] := by
  have e : l.find? p = (l.take j ++ l[j] :: l.drop (j + 1)).find? p := by rw [← List.drop_eq_getElem_cons hj, List.take_append_drop]
  rw [e, List.find?_append, List.find?_eq_none.2 (fun q hq => by simp [h q hq]), List.find?_cons, hp]
  rfl
set_option maxHeartbeats 4000000 in
theorem findLam_any (k0 k B : Nat) (a b c : Int) (w : World) (h : w.cell? ⟨B, 0, none⟩ = some (.int .u8 k0)) : Calls Try.prog 67 #[.agg #[.int .u8 k, .int .i32 a, .int .i32 b, .int .i32 c], .pointer (some ⟨B, 0, none⟩)] w fun e w' => e = .returned (.bool (decide (k = k0))) ∧ New w w' := by
  have hU := (Upd.refl Nowhere w).alloc (.cells #[.int .u8 k, .int .i32 a, .int .i32 b, .int .i32 c] 46)
  obtain ⟨c0, c1, c2, c3⟩ := c4_new w k a b c
  have hB := hU.cell h (fun q => q)
  go_enter Try.func67, Try.ntmps67
  repeat' (first | fail | go_values | go_skip | go_guarded | go_step | go_upon | go_back)
  go_returns
  refine ⟨?_, hU⟩
  exact congrArg (fun z => Ending.returned (Value.bool z)) (Bool.eq_iff_iff.2 (by simp only [decide_eq_true_eq, beq_iff_eq]; omega))
set_option maxHeartbeats 4000000 in
theorem idxFind_any (A : Option Addr) (n c : Nat) (l : List C4) (k0 B : Nat) (w : World) (h : Co w (A, n, c) l) (hl : l.length ≤ 1000) (hB : w.cell? ⟨B, 0, none⟩ = some (.int .u8 k0)) : Calls Try.prog 65 #[.slice A n c, .func (.func 67) #[] #[.pointer (some ⟨B, 0, none⟩)]] w fun e w' => ((∃ j, ∃ hj : j < l.length, e = .returned (.int .i64 j) ∧ fnd l k0 = some l[j]) ∨ (e = .returned (.int .i64 (-1)) ∧ fnd l k0 = none)) ∧ New w w' := by
  obtain ⟨h1, h2, hx⟩ := h
  dsimp only at h1 h2 hx
  have HL := Bx.mk h1
  clear h1 h2
  have hn : n ≤ 1000 := by have := HL.out; omega
  go_enter Try.func65, Try.ntmps65
  repeat' (first | fail | go_values | go_skip | go_guarded | go_step | go_upon | go_back)
  go_loopw [8] (fun i wr => ∃ (j : Nat), j ≤ n ∧ i = .int .i64 j ∧ Bx (∀ q ∈ l.take j, (q.k == k0) = false) ∧ New w wr) (fun i _ => n - (intOf i).toNat)
  case atStart => exact ⟨0, by omega, rfl, ⟨fun q hq => by simp at hq⟩, Upd.refl _ _⟩
  case round =>
    obtain ⟨j, hj, rfl, HY, hN⟩ := hrel
    by_cases hlt : j < n
    · have hjL : j < l.length := by rw [HL.out]; exact hlt
      obtain ⟨b0, off, rfl, h0, h1, h2, h3⟩ := (hx.new hN).four j hjL
      have HS := Bx.mk (List.take_succ_eq_append_getElem hjL)
      have HF := Bx.mk (find_at (p := fun q : C4 => q.k == k0) l j hjL HY.out)
      generalize hqe : l[j] = q at *
      obtain ⟨k, a, b, c'⟩ := q
      simp only at h0 h1 h2 h3 HF
      have hBr := hN.cell hB (fun q => q)
      have HC := Bx.mk (findLam_any k0 k B a b c' wr hBr)
      have HQE := Bx.mk hqe
      clear hqe
      by_cases hk : k = k0
      · rw [decide_eq_true hk] at HC
        have HE := Bx.mk (HF.out (by simp [hk]))
        clear hk
        repeat' (first | (go_at_call 67; (with_reducible refine (HC.out).mono ?_); rintro e w2 ⟨rfl, hu2⟩; dsimp only) | go_values | go_skip | go_guarded | go_step | go_upon | go_back)
        go_returns
        exact ⟨.inl ⟨j, hjL, rfl, by rw [HQE.out]; exact HE.out⟩, hN.trans hu2⟩
      · rw [decide_eq_false hk] at HC
        have HY2 := Bx.mk (show ∀ q ∈ l.take (j + 1), (q.k == k0) = false by
          intro q hq
          rw [HS.out] at hq
          rcases List.mem_append.1 hq with hq | hq
          · exact HY.out q hq
          · simp at hq; subst hq; simpa using hk)
        clear hk
        repeat' (first | (go_at_call 67; (with_reducible refine (HC.out).mono ?_); rintro e w2 ⟨rfl, hu2⟩; dsimp only) | go_values | go_skip | go_guarded | go_step | go_upon | go_back)
        go_roundw
        case rel => exact ⟨j + 1, by omega, by go_num, HY2, hN.trans hu2⟩
        case measure => simp [intOf]; omega
    · obtain rfl : j = n := by omega
      have HE := Bx.mk (show fnd l k0 = none by have := HY.out; rw [List.take_of_length_le (by rw [HL.out]; exact Nat.le_refl _)] at this; exact List.find?_eq_none.2 fun q hq => by simp [this q hq])
      repeat' (first | fail | go_values | go_skip | go_guarded | go_step | go_upon | go_back)
      go_returns
      exact ⟨.inr ⟨rfl, HE.out⟩, hN⟩
def zC : C4 := ⟨0, 0, 0, 0⟩
theorem find_results (tmps : Array Value) (w : World) (g : Nat) (cs : Array Value) (fr : Nat × Nat) (hp : tmps.getD 4 undef = .pointer (some ⟨g, 0, none⟩)) (hg : w.heap[g]? = some (.cells cs 46 fr)) (hs : cs.size = 4) :
    (results Try.f49 tmps).run Try.prog w = .ok (.tuple #[.agg cs, tmps.getD 5 undef]) w := by
  have hp' : tmps[4]?.getD undef = .pointer (some ⟨g, 0, none⟩) := by simpa using hp
  have hr := run_loadVar_row (P := Try.prog) w g 46 46 cs fr _ hg Try.underlying46 rfl (by rw [hs]; kernel_rfl)
  rw [results_cell_tmp Try.results49, hp]
  simp [asAddr, hr]
theorem o4_at {w : World} {B T : Nat} {a b c d : Value} (h : w.heap[B]? = some (.cells #[a, b, c, d] T (0, 0))) : w.cell? ⟨B, 0, none⟩ = some a ∧ w.cell? ⟨B, 1, none⟩ = some b ∧ w.cell? ⟨B, 2, none⟩ = some c ∧ w.cell? ⟨B, 3, none⟩ = some d ∧ ∀ o, w.frozen? ⟨B, o, none⟩ = false := by
  refine ⟨by rw [World.cell?, h]; rfl, by rw [World.cell?, h]; rfl, by rw [World.cell?, h]; rfl, by rw [World.cell?, h]; rfl, fun o => by simp [World.frozen?, h]⟩
theorem o4_set {w : World} {B T : Nat} {a b c d : Value} (h : w.heap[B]? = some (.cells #[a, b, c, d] T (0, 0))) (x y z u : Value) : ((((w.setCell ⟨B, 0, none⟩ x).setCell ⟨B, 1, none⟩ y).setCell ⟨B, 2, none⟩ z).setCell ⟨B, 3, none⟩ u).heap[B]? = some (.cells #[x, y, z, u] T (0, 0)) :=
  heap_setCell_same _ B 3 _ _ u (heap_setCell_same _ B 2 _ _ z (heap_setCell_same _ B 1 _ _ y (heap_setCell_same _ B 0 _ _ x h)))
theorem new_set4 {w w1 : World} {B : Nat} (h : New w w1) (hB : w.heap.size ≤ B) (x y z u : Value) : New w ((((w1.setCell ⟨B, 0, none⟩ x).setCell ⟨B, 1, none⟩ y).setCell ⟨B, 2, none⟩ z).setCell ⟨B, 3, none⟩ u) :=
  (((h.setCell (p := ⟨B, 0, none⟩) (.inr hB) x).setCell (p := ⟨B, 1, none⟩) (.inr hB) y).setCell (p := ⟨B, 2, none⟩) (.inr hB) z).setCell (p := ⟨B, 3, none⟩) (.inr hB) u
set_option maxRecDepth 4000 in
set_option maxHeartbeats 4000000 in
theorem find_any (A : Option Addr) (n c : Nat) (l : List C4) (k0 : Nat) (w : World) (h : Co w (A, n, c) l) (hl : l.length ≤ 1000) : Calls Try.prog 49 #[.slice A n c, .int .u8 k0] w fun e w' => (∃ x : C4, x = (fnd l k0).getD zC ∧ e = .returned (.tuple #[.agg #[.int .u8 x.k, .int .i32 x.a, .int .i32 x.b, .int .i32 x.c], .bool (fnd l k0).isSome])) ∧ New w w' := by
  have hU := ((Upd.refl Nowhere w).alloc (.cells #[.int .u8 k0] 5)).alloc (.cells #[.int .u8 0, .int .i32 0, .int .i32 0, .int .i32 0] 46)
  have hob : ((w.alloc (.cells #[.int .u8 k0] 5)).alloc (.cells #[.int .u8 0, .int .i32 0, .int .i32 0, .int .i32 0] 46)).heap[w.heap.size + 1]? = some (.cells #[.int .u8 0, .int .i32 0, .int .i32 0, .int .i32 0] 46 (0, 0)) := by
    have := heap_alloc_new (w.alloc (.cells #[.int .u8 k0] 5)) (.cells #[.int .u8 0, .int .i32 0, .int .i32 0, .int .i32 0] 46)
    rwa [show (w.alloc (.cells #[.int .u8 k0] 5)).heap.size = w.heap.size + 1 by simp] at this
  have hBx : ((w.alloc (.cells #[.int .u8 k0] 5)).alloc (.cells #[.int .u8 0, .int .i32 0, .int .i32 0, .int .i32 0] 46)).cell? ⟨w.heap.size, 0, none⟩ = some (.int .u8 k0) :=
    ((Upd.refl Nowhere (w.alloc (.cells #[.int .u8 k0] 5))).alloc _).cell (by rw [World.cell?, heap_alloc_new]; rfl) (fun q => q)
  have HI := Bx.mk (idxFind_any A n c l k0 w.heap.size _ (h.new hU) hl hBx)
  have HCO := Bx.mk (fun {w'} (k : New w w') => h.new k)
  have HOB := Bx.mk hob
  have HN := Bx.mk h.len
  clear hBx hob
  go_enter Try.func49, Try.ntmps49
  repeat' (first | (go_at_call 65; (with_reducible refine (HI.out).mono ?_); rintro e w2 ⟨hres, hu2⟩; (rcases hres with ⟨j, hj, rfl, hF⟩ | ⟨rfl, hF⟩); (case' inl => (obtain ⟨b0, off, rfl, h0, h1, h2, h3⟩ := (HCO.out (hU.trans hu2)).rd.four j hj; have hjn : (j : Int) < (n : Int) := (by have := HN.out; dsimp only at this; omega); (have HQ := Bx.mk hF); clear hF; generalize l[j] = q at *; obtain ⟨k, a, b, c'⟩ := q; dsimp only at h0 h1 h2 h3)); all_goals (obtain ⟨z0, z1, z2, z3, zf⟩ := o4_at (hu2.blk HOB.out (fun q => q))); dsimp only) | go_values | go_skip | go_guarded | go_step | go_upon | go_back)
  all_goals refine bodyPost_ret (find_results _ _ (w.heap.size + 1) _ (0, 0) rfl (o4_set (hu2.blk HOB.out (fun q => q)) _ _ _ _) rfl) rfl ?_
  · exact ⟨⟨⟨k, a, b, c'⟩, by rw [HQ.out]; rfl, by rw [HQ.out]; rfl⟩, new_set4 (hU.trans hu2) (by omega) _ _ _ _⟩
  · exact ⟨⟨zC, by rw [hF]; rfl, by rw [hF]; rfl⟩, new_set4 (hU.trans hu2) (by omega) _ _ _ _⟩
end Go.Proofs.Ytdnkdmdmekdfkaa
