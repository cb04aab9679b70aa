/- Box: walked. -/
import Derived.Test.YtohflgpkimnodaaGr6
namespace Go.Proofs.Ytohflgpkimnodaa
open Go.RowKit Go.Maps
/-- whom a part of a box has -/
def inRows (X0 Y0 Y1 x : Int) (s : Int × Int) : Prop := X0 ≤ s.1 ∧ s.1 < x ∧ Y0 ≤ s.2 ∧ s.2 ≤ Y1
theorem wpList_minI {P : Program} {w : World} {ops : Array Oper} {rest : List Oper} {o : Oper} {a : Act} {Q : Exit → Act → World → Prop} (hgd : o.guard = none) (s x : Operand) (t tx : TypeId)
    (ho : o.op = .call { callee := .builtin .min, args := #[s, x], argTypes := #[t, tx] }) (k kx : IntKind) (p q m : Int) (hm : min p q = m) (hs : a.eval s = .int k p) (hx : a.eval x = .int kx q)
    (h : wpList P ops Q rest (a.put o.dst (.int k m)) w) : wpList P ops Q (o :: rest) a w := wpList_min hgd s x t tx ho k kx p q m hm hs hx h
section
variable {n0 : Nat} {w : World} {g cb hb : Nat} {DC DH : DataW Unit} {B : Int × Int → Nat} {M : Nat → Option (Int × Int)} {K : Nat}
theorem few_len (f : Few M K) {cs : List Nat} (hn : cs.Nodup) (h : ∀ i ∈ cs, ∃ s, M i = some s) : cs.length ≤ K := by
  obtain ⟨L, h1, h2⟩ := f
  have := nodup_le cs L hn (fun i hi => by obtain ⟨s, hs⟩ := h i hi; exact h2 i s hs)
  omega
set_option maxRecDepth 20000 in
set_option maxHeartbeats 8000000 in
theorem box_any (h : GA n0 w g cb hb DC DH B M) (f : Few M K) (hK : K < 1000000) (x0 y0 x1 y1 X0 Y0 X1 Y1 : Int) (hX0 : max x0 (-32) = X0) (hY0 : max y0 (-32) = Y0) (hX1 : min x1 31 = X1) (hY1 : min y1 31 = Y1)
    (bx : inI64 x0 ∧ inI64 y0 ∧ inI64 x1 ∧ inI64 y1) :
    Calls Try.prog 34 #[.pointer (some ⟨g, 0, none⟩), .int .i64 x0, .int .i64 y0, .int .i64 x1, .int .i64 y1] w fun e w' => ∃ (A : Option Addr) (ys : List Nat), e = .returned (.slice A ys.length ys.length) ∧ ys.Pairwise (· < ·) ∧ (∀ i, i ∈ ys ↔ ∃ s, M i = some s ∧ inRows X0 Y0 Y1 (X1 + 1) s) ∧ Rd w' A (idv ys) ∧ (A = none → ys = []) ∧ New w w' := by
  have H0 := Bx.mk h
  have HF := Bx.mk f
  have hX0' : -32 ≤ X0 ∧ X0 ≤ 9223372036854775807 := by unfold inI64 at bx; omega
  have hY0' : -32 ≤ Y0 ∧ Y0 ≤ 9223372036854775807 := by unfold inI64 at bx; omega
  have hX1' : X1 ≤ 31 ∧ -9223372036854775808 ≤ X1 := by unfold inI64 at bx; omega
  have hY1' : Y1 ≤ 31 ∧ -9223372036854775808 ≤ Y1 := by unfold inI64 at bx; omega
  have HS := Bx.mk (fun (s : Int × Int) (hs : inS s) => h.setAt f s hs)
  have HX0 := Bx.mk hX0
  have HX1 := Bx.mk hX1
  have HY0 := Bx.mk hY0
  have HY1 := Bx.mk hY1
  clear h f bx hX0 hX1 hY0 hY1
  go_enter Try.func34, Try.ntmps34
  repeat' (first | (first | ((with_reducible refine at_wpList ?_); refine wpList_max rfl _ _ _ _ rfl _ _ _ _ _ HX0.out rfl rfl ?_)) | go_values | go_skip | go_guarded | go_step | go_upon | go_back)
  go_loopw [11, 12] (fun s11 s12 wr => ∃ (x : Int) (v : Value) (cs : List Nat), s11 = v ∧ s12 = .int .i64 x ∧ X0 ≤ x ∧ (x ≤ X1 + 1 ∨ x = X0) ∧ Bx (cs.Nodup) ∧ Bx (∀ i, i ∈ cs ↔ ∃ s, M i = some s ∧ inRows X0 Y0 Y1 x s) ∧ Bx (wr.ownsRow w.heap.size 38 1 v cs.length (idv cs)) ∧ Bx (New w wr)) (fun _ s12 _ => (X1 + 1 - intOf s12).toNat)
  case atStart => exact ⟨X0, _, [], rfl, rfl, Int.le_refl _, .inr rfl, ⟨List.nodup_nil⟩, ⟨fun i => ⟨fun h => (by cases h), fun ⟨s, _, h1, h2, _⟩ => (by omega)⟩⟩, ⟨World.ownsRow_nil _ _ _ _⟩, ⟨Upd.refl _ _⟩⟩
  case round =>
    obtain ⟨x, v, cs, rfl, rfl, hx1, hx2, HN, HM, HR, HU⟩ := hrel
    by_cases hxl : x ≤ X1
    · have wx : IntKind.i64.wrap (x + 1) = x + 1 := by rw [IntKind.wrap_i64]; omega
      repeat' (first | (first | ((with_reducible refine at_wpList ?_); refine wpList_max rfl _ _ _ _ rfl _ _ _ _ _ HY0.out rfl rfl ?_) | ((with_reducible refine at_wpList ?_); refine wpList_min rfl _ _ _ _ rfl _ _ _ _ _ HX1.out rfl rfl ?_)) | go_values | go_skip | go_guarded | go_step | go_upon | go_back)
      go_loopw [11, 13] (fun s11 s13 wr => ∃ (y : Int) (v : Value) (cs : List Nat), s11 = v ∧ s13 = .int .i64 y ∧ Y0 ≤ y ∧ (y ≤ Y1 + 1 ∨ y = Y0) ∧ Bx (cs.Nodup) ∧ Bx (∀ i, i ∈ cs ↔ ∃ s, M i = some s ∧ (inRows X0 Y0 Y1 x s ∨ (s.1 = x ∧ Y0 ≤ s.2 ∧ s.2 < y))) ∧ Bx (wr.ownsRow w.heap.size 38 1 v cs.length (idv cs)) ∧ Bx (New w wr)) (fun _ s13 _ => (Y1 + 1 - intOf s13).toNat)
      case atStart => exact ⟨Y0, _, cs, rfl, rfl, Int.le_refl _, .inr rfl, HN, ⟨fun i => (HM.out i).trans ⟨fun ⟨s, a, b⟩ => ⟨s, a, .inl b⟩, fun ⟨s, a, b⟩ => ⟨s, a, b.resolve_right (fun q => (by omega))⟩⟩⟩, HR, HU⟩
      case round =>
        clear HN HM HR HU
        obtain ⟨y, v, cs, rfl, rfl, hy1, hy2, HN, HM, HR, HU⟩ := hrel
        by_cases hyl : y ≤ Y1
        · have wy : IntKind.i64.wrap (y + 1) = y + 1 := by rw [IntKind.wrap_i64]; omega
          obtain ⟨mb, m1, m2⟩ := HS.out (x, y) (by unfold inS inI64; simp only; omega)
          have H1 := H0.out.new HU.out
          have c0 := H1.c0
          have L : (Instr.lookup 59 (.map (some cb)) (.agg #[.int .i64 x, .int .i64 y]) false).run Try.prog wr = .ok (.map mb) wr := m2 wr H1
          have CK := Bx.mk (keys_any mb wr)
          have AL : New w (wr.alloc (.cells #[.map mb] 72)) := HU.out.alloc _
          have hcs : cs.length ≤ K := few_len HF.out HN.out (fun i hi => by obtain ⟨s, hs, _⟩ := (HM.out i).1 hi; exact ⟨s, hs⟩)
          have C := Bx.mk (append_any (w := wr.alloc (.cells #[.map mb] 72)) (m1.new AL) (Bm := wr.heap.size) (by simp) (by rw [World.cell?, heap_alloc_new]; rfl) w.heap.size cs.length _ cs (by omega) (HR.out.alloc _) AL.size)
          have BA := Bx.mk AL
          clear H1 m1 m2 AL
          repeat' (first | (first | ((with_reducible refine at_wpList ?_); refine wpList_min rfl _ _ _ _ rfl _ _ _ _ _ HY1.out rfl rfl ?_) | (go_at_call 37; (with_reducible refine (CK.out).mono ?_); rintro e w1 ⟨rfl, rfl⟩; dsimp only) | (go_at_call 36; (with_reducible refine (C.out).mono ?_); rintro e w2 ⟨v2, xs, rfl, p1, p2, p3, p4, p5⟩; dsimp only)) | go_values | go_skip | go_guarded | go_step | go_upon | go_back)
          have HR2 : w2.ownsRow w.heap.size 38 1 v2 (cs ++ xs).length (idv (cs ++ xs)) := by rw [List.length_append]; exact p4
          have HN2 : (cs ++ xs).Nodup := List.nodup_append.2 ⟨HN.out, p2, fun a ha b hb e => by
            obtain ⟨s, hs, q⟩ := (HM.out a).1 ha
            have hb2 := (p3 b).1 hb
            rw [← e, hs] at hb2
            cases hb2
            rcases q with ⟨_, q, _⟩ | ⟨_, _, q⟩
            · exact absurd q (Int.lt_irrefl _)
            · exact absurd q (Int.lt_irrefl _)⟩
          have HM2 : ∀ i, i ∈ cs ++ xs ↔ ∃ s, M i = some s ∧ (inRows X0 Y0 Y1 x s ∨ (s.1 = x ∧ Y0 ≤ s.2 ∧ s.2 < y + 1)) := by
            intro i
            rw [List.mem_append, HM.out i, p3 i]
            constructor
            · rintro (⟨s, hs, q | ⟨q1, q2, q3⟩⟩ | q)
              · exact ⟨s, hs, .inl q⟩
              · exact ⟨s, hs, .inr ⟨q1, q2, by omega⟩⟩
              · exact ⟨_, q, .inr ⟨rfl, hy1, by simp only; omega⟩⟩
            · rintro ⟨s, hs, q | ⟨q1, q2, q3⟩⟩
              · exact .inl ⟨s, hs, .inl q⟩
              · by_cases e : s.2 = y
                · exact .inr (by rw [hs, ← q1, ← e])
                · exact .inl ⟨s, hs, .inr ⟨q1, q2, by omega⟩⟩
          have HU2 : New w w2 := Upd.of_below (BA.out.below.trans p5)
          go_roundw
          case rel => exact ⟨y + 1, v2, cs ++ xs, rfl, rfl, by omega, .inl (by omega), ⟨HN2⟩, ⟨HM2⟩, ⟨HR2⟩, ⟨HU2⟩⟩
          case measure => simp [intOf]; omega
        · have HM2 : ∀ i, i ∈ cs ↔ ∃ s, M i = some s ∧ inRows X0 Y0 Y1 (x + 1) s := by
            intro i
            rw [HM.out i]
            constructor
            · rintro ⟨s, hs, ⟨q1, q2, q3, q4⟩ | ⟨q1, q2, q3⟩⟩
              · exact ⟨s, hs, q1, by omega, q3, q4⟩
              · exact ⟨s, hs, by omega, by omega, q2, by omega⟩
            · rintro ⟨s, hs, q1, q2, q3, q4⟩
              by_cases e : s.1 = x
              · exact ⟨s, hs, .inr ⟨e, q3, by omega⟩⟩
              · exact ⟨s, hs, .inl ⟨q1, by omega, q3, q4⟩⟩
          have HM3 := Bx.mk HM2
          clear HM2 HM
          repeat' (first | (first | ((with_reducible refine at_wpList ?_); refine wpList_min rfl _ _ _ _ rfl _ _ _ _ _ HY1.out rfl rfl ?_)) | go_values | go_skip | go_guarded | go_step | go_upon | go_back)
          go_roundw
          case rel => exact ⟨x + 1, _, cs, rfl, rfl, by omega, .inl (by omega), HN, HM3, HR, HU⟩
          case measure => simp [intOf]; omega
    · have HM3 := Bx.mk (show ∀ i, i ∈ cs ↔ ∃ s, M i = some s ∧ inRows X0 Y0 Y1 (X1 + 1) s by
        intro i
        rw [HM.out i]
        constructor
        · rintro ⟨s, hs, q1, q2, q3, q4⟩; exact ⟨s, hs, q1, by omega, q3, q4⟩
        · rintro ⟨s, hs, q1, q2, q3, q4⟩; exact ⟨s, hs, q1, by omega, q3, q4⟩)
      have hcs : cs.length ≤ K := few_len HF.out HN.out (fun i hi => by obtain ⟨s, hs, _⟩ := (HM.out i).1 hi; exact ⟨s, hs⟩)
      have CS := Bx.mk (sort_any HR.out (by omega))
      obtain ⟨A, c, rfl, hc1, hc2, _, hc3⟩ := own_rd HR.out
      have hA : A = none → cs.length = 0 ∧ c = 0 := by
        intro q
        rcases HR.out.2 with ⟨e, h0⟩ | ⟨g', cap', cur, e, _⟩
        · simp only [Value.slice.injEq] at e
          exact ⟨h0, e.2.2⟩
        · rw [q] at e; simp at e
      have hge := Bx.mk (own_ge HR.out)
      have CC := Bx.mk (fun w => clip_any A cs.length c w hc1 hA (by have := hc2; unfold maxLen at this; omega))
      clear HM
      repeat' (first | (first | ((with_reducible refine at_wpList ?_); refine wpList_min rfl _ _ _ _ rfl _ _ _ _ _ HX1.out rfl rfl ?_) | (go_at_call 38; (with_reducible refine (CS.out).mono ?_); rintro e w2 ⟨rfl, ys, p1, p2, p3, p4⟩; dsimp only) | (go_at_call 39; (with_reducible refine (CC.out _).mono ?_); rintro e w3 ⟨rfl, rfl⟩; dsimp only)) | go_values | go_skip | go_guarded | go_step | go_upon | go_back)
      go_returns
      have hl2 := p1.length_eq
      obtain ⟨A', c', e, _, _, hr, _⟩ := own_rd p3
      simp only [Value.slice.injEq] at e
      obtain ⟨rfl, _, rfl⟩ := e
      refine ⟨A, ys, by rw [hl2]; rfl, strict_of p2 (p1.nodup_iff.2 HN.out), fun i => (p1.mem_iff).trans (HM3.out i), hr, fun q => ?_, HU.out.then p4 (fun b hb => .inr (hge.out b hb))⟩
      have := (hA q).1
      exact List.length_eq_zero_iff.1 (by omega)
end
end Go.Proofs.Ytohflgpkimnodaa
