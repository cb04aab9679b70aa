/- DiffPatches: the walk. -/
import Derived.Test.YtdnkdmdmekdfkaaDf28
import Derived.StillTailTactics
namespace Go.Proofs.Ytdnkdmdmekdfkaa
open Go.RowKit
set_option maxRecDepth 4000 in
set_option maxHeartbeats 4000000 in
theorem refPatch_bad (A : Option Addr) (n p : Nat) (L : List Et) (g0 : Option Addr) (g1 g2 : Nat) (c0 : Option Addr) (c1 c2 : Nat) (h0 : Option Addr) (h1 h2 : Nat) (w : World) (hx : EnL w A n L) (hn : n ≤ 1000) (hs : Sm L) (hz : frm 0 L ≠ 0) :
    Calls Try.prog 14 #[.slice A n p, .agg #[.slice g0 g1 g2, .slice c0 c1 c2, .slice h0 h1 h2]] w fun e w' => e = .returned (.tuple #[.slice none 0 0, .int .i64 (frm 0 L)]) ∧ New w w' := by
  have U0 := newA w (.cells #[.slice g0 g1 g2, .slice c0 c1 c2, .slice h0 h1 h2] 26)
  have CF := Bx.mk (refForm_any A n p L _ (hx.new U0) hn hs)
  obtain ⟨f, hf⟩ : ∃ f, frm 0 L = f := ⟨_, rfl⟩
  rw [hf] at CF hz ⊢
  have hzb : (f != 0) = true := by rw [bne_iff_ne]; exact hz
  clear hf
  go_enter Try.func14, Try.ntmps14
  repeat' (first | (go_at_call 17; (with_reducible refine (CF.out).mono ?_); rintro e2 w2 ⟨rfl, hu2⟩; dsimp only) | go_values | go_skip | go_guarded | go_step | go_upon | go_back)
  go_returns
  exact ⟨rfl, U0.trans hu2⟩
/-- values in the ranges of their types -/
structure BdD (D : Dl) : Prop where
  c : Bd D.come
  hk : ∀ c ∈ D.chg, (∀ q ∈ c.nw, q.k < 256) ∧ ∀ q ∈ c.st, q.k < 256
theorem sumH_mem {L : List Ch} {x : Ch} (h : x ∈ L) : x.nw.length + x.st.length ≤ sumH L := by
  induction L with
  | nil => cases h
  | cons y L ih =>
    unfold sumH at ih ⊢
    rw [List.map_cons, List.sum_cons]
    rcases List.mem_cons.1 h with h | h
    · rw [h]; omega
    · have := ih h; omega
theorem few_sx {L : List Et} (hb : Bd L) (hf : few L = true) : Sx 400 L ∧ L.length ≤ 400 := by
  have hf := of_decide_eq_true hf
  exact ⟨fun x hx => ⟨(hb x hx).1, by have := sumL_mem hx; omega, (hb x hx).2⟩, by omega⟩
theorem smR_of {L : List Et} {D : Dl} (hb : Bd L) (hd : BdD D) (hl : few L = true) (hf : fewD D = true) : SmR L D := by
  unfold fewD at hf
  obtain ⟨h1, h2⟩ := Bool.and_eq_true_iff.1 hf
  have h1 := of_decide_eq_true h1
  obtain ⟨a1, a2⟩ := few_sx hb hl
  obtain ⟨b1, b2⟩ := few_sx hd.c h2
  exact ⟨a2, a1, by omega, b2, b1, by omega, by omega, hd.hk⟩
theorem SmR.smP {L : List Et} {D : Dl} (h : SmR L D) : SmP L D := by
  refine ⟨by have := h.l; omega, fun x hx => (h.x x hx).1, fun x hx => by have := (h.x x hx).2.1; omega, fun x hx => (h.x x hx).2.2, by have := h.g; omega, by have := h.c; omega, h.cs.sm (by omega), by have := h.h; omega, fun c hc => ?_⟩
  have h1 := sumH_mem hc
  have h2 := h.hs
  exact ⟨by omega, by omega, (h.hk c hc).1, (h.hk c hc).2⟩
theorem own_poke {w : World} {base e size n : Nat} {v : Value} {xs : List Value} (h : w.ownsRow base e size v n xs) (g k : Nat) (hg : v.ownBlock = some g) (hk : xs.length ≤ k) (u : Value) : (w.setCell ⟨g, k, none⟩ u).ownsRow base e size v n xs := by
  obtain ⟨hl, ⟨hv, _⟩ | ⟨g', cap, cur, hv, hbg, hh, hnc, hm, hcs, ht⟩⟩ := h
  · rw [hv] at hg; cases hg
  · rw [hv] at hg
    simp only [Value.ownBlock, Option.some.injEq] at hg
    subst hg
    refine ⟨hl, .inr ⟨g', cap, cur.set! k u, hv, hbg, heap_setCell_same w g' k _ _ _ hh, hnc, hm, by simpa using hcs, ?_⟩⟩
    simp only [Array.set!_eq_setIfInBounds, Array.toList_setIfInBounds]
    rw [List.take_set_of_le (by omega), ht]
theorem ccells_set (l : List C4) (m : Nat) (hm : m < l.length) (X : Int) : (ccells l).set (m * 4 + 1) (.int .i32 X) = ccells (l.set m ⟨l[m].k, X, l[m].b, l[m].c⟩) := by
  have e1 : l = l.take m ++ l[m] :: l.drop (m + 1) := by rw [← List.drop_eq_getElem_cons hm, List.take_append_drop]
  have hl : (l.take m).length = m := by rw [List.length_take]; omega
  have e2 : ∀ q, l.set m q = l.take m ++ q :: l.drop (m + 1) := fun q => List.set_eq_take_append_cons_drop.trans (by rw [if_pos hm])
  rw [e2]
  conv => lhs; rw [e1]
  rw [ccells_append, ccells_append, List.set_append_right _ _ (by rw [ccells_length, hl]; omega), ccells_length, hl]
  rw [show m * 4 + 1 - m * 4 = 1 by omega]
  rfl
/-- a field of a component is written: who holds its row holds it, so many as before -/
theorem Cn.poke {base : Nat} {w : World} {s : Sl} {l : List C4} (h : Cn base w s l) (g m : Nat) (X : Int) : ∃ l', l'.length = l.length ∧ Cn base (w.setCell ⟨g, m * 4 + 1, none⟩ (.int .i32 X)) s l' := by
  by_cases hb : (Value.slice s.1 s.2.1 s.2.2).ownBlock = some g
  · by_cases hm : m < l.length
    · refine ⟨l.set m ⟨l[m].k, X, l[m].b, l[m].c⟩, by rw [List.length_set], ?_⟩
      obtain ⟨A, n, c⟩ := s
      have h' := h
      unfold Cn at h' ⊢
      dsimp only at h' hb ⊢
      obtain ⟨A', c', e, _, _, _, hA⟩ := own_rd h'
      simp only [Value.slice.injEq] at e
      obtain ⟨rfl, rfl, rfl⟩ := e
      obtain ⟨hl, ⟨hv, _⟩ | ⟨g', cap, cur, hv, r⟩⟩ := h'
      · rw [hv] at hb; cases hb
      · rw [hv] at hb
        simp only [Value.ownBlock, Option.some.injEq] at hb
        subst hb
        simp only [Value.slice.injEq] at hv
        obtain ⟨rfl, _, rfl⟩ := hv
        rw [List.length_set, ← ccells_set l m hm X]
        exact (own_setk (show w.ownsRow base _ 4 (.slice (some ⟨g', 0, none⟩) l.length c) l.length (ccells l) from h) (m * 4 + 1) (by rw [ccells_length]; omega) _).1
    · exact ⟨l, rfl, own_poke h g _ hb (by rw [ccells_length]; omega) _⟩
  · exact ⟨l, rfl, own_upd h (upd_set w g _ _) fun b hb' q => by subst q; exact hb hb'⟩
theorem Al.poke {base : Nat} {w : World} (g m : Nat) (X : Int) : ∀ {es : List E4} {N : List Et}, Al (Cn base w) es N → ∃ N', N'.length = N.length ∧ (∀ j, (N'.getD j zE).2.length = (N.getD j zE).2.length) ∧ Al (Cn base (w.setCell ⟨g, m * 4 + 1, none⟩ (.int .i32 X))) es N'
  | [], [], _ => ⟨[], rfl, fun _ => rfl, trivial⟩
  | e :: es, x :: N, h => by
    obtain ⟨l', h1, h2⟩ := h.1.2.poke g m X
    obtain ⟨N', k1, k2, k3⟩ := Al.poke g m X h.2
    refine ⟨(x.1, l') :: N', by simp [k1], fun j => ?_, ⟨h.1.1, h2⟩, k3⟩
    cases j with
    | zero => exact h1
    | succ j => exact k2 j
  | [], _ :: _, h => h.elim
  | _ :: _, [], h => h.elim
/-- what Patch answers: the code's, and so the reference's -/
def AnsC (L : List Et) (D : Dl) (E : Int) (N : List Et) : Prop :=
  (frm 0 L ≠ 0 ∧ E = frm 0 L ∧ N = []) ∨ (frm 0 L = 0 ∧ ∃ N0, Cand L D N0 ∧ ((E = 0 ∧ N = N0 ∧ frm 0 N0 = 0 ∧ mrg L N0 = D) ∨ (E = 4 ∧ N = [] ∧ ¬ (frm 0 N0 = 0 ∧ mrg L N0 = D))))
theorem PatchU (A : Option Addr) (n p : Nat) (L : List Et) (g0 : Option Addr) (g1 g2 : Nat) (c0 : Option Addr) (c1 c2 : Nat) (h0 : Option Addr) (h1 h2 : Nat) (D : Dl) (w : World) (hx : EnL w A n L) (hd : DlR w g0 g1 g2 c0 c1 h0 h1 D) (hs : SmR L D) :
    Calls Try.prog 13 #[.slice A n p, .agg #[.slice g0 g1 g2, .slice c0 c1 c2, .slice h0 h1 h2]] w fun e w' => (∃ (t0 : Option Addr) (t1 t2 : Nat) (E : Int) (es : List E4) (N : List Et), e = .returned (.tuple #[.slice t0 t1 t2, .int .i64 E]) ∧ t1 ≤ 900 ∧ w'.ownsRow w.heap.size 43 2 (.slice t0 t1 t2) t1 (ec es) ∧ Al (Cn w.heap.size w') es N ∧ es.length = t1 ∧ Sm N ∧ AnsC L D E N) ∧ New w w' := by
  by_cases hz : frm 0 L = 0
  · refine (Patch_any A n p L g0 g1 g2 c0 c1 c2 h0 h1 h2 D w hx hd hs.smP hz).mono ?_
    rintro e w' ⟨⟨N0, hC, hans⟩, hu⟩
    rcases hans with ⟨⟨t0, t1, t2⟩, he, hen, hf, hm⟩ | ⟨he, hno⟩
    · obtain ⟨es, ho, hal⟩ := hen.ex
      obtain ⟨_, _, e2, _⟩ := own_rd ho
      simp only [Value.slice.injEq] at e2
      obtain ⟨_, rfl, _⟩ := e2
      obtain ⟨k1, k2⟩ := hC.sm hs.smP
      exact ⟨⟨t0, _, t2, 0, es, N0, he, k2, ho, hal, hal.len, k1, .inr ⟨hz, N0, hC, .inl ⟨rfl, rfl, hf, hm⟩⟩⟩, hu⟩
    · exact ⟨⟨none, 0, 0, 4, [], [], he, by omega, World.ownsRow_nil _ _ _ _, trivial, rfl, (fun x hx => by cases hx), .inr ⟨hz, N0, hC, .inr ⟨rfl, rfl, hno⟩⟩⟩, hu⟩
  · refine (Patch_bad A n p L g0 g1 g2 c0 c1 c2 h0 h1 h2 w hx (by have := hx.len; have := hs.l; omega) (hs.x.sm (by omega)) hz).mono ?_
    rintro e w' ⟨he, hu⟩
    exact ⟨⟨none, 0, 0, _, [], [], he, by omega, World.ownsRow_nil _ _ _ _, trivial, rfl, (fun x hx => by cases hx), .inl ⟨hz, rfl, rfl⟩⟩, hu⟩
theorem refPatchU (A : Option Addr) (n p : Nat) (L : List Et) (g0 : Option Addr) (g1 g2 : Nat) (c0 : Option Addr) (c1 c2 : Nat) (h0 : Option Addr) (h1 h2 : Nat) (D : Dl) (w : World) (hx : EnL w A n L) (hd : DlR w g0 g1 g2 c0 c1 h0 h1 D) (hs : SmR L D) (E : Int) (N : List Et) (ha : AnsC L D E N) :
    Calls Try.prog 14 #[.slice A n p, .agg #[.slice g0 g1 g2, .slice c0 c1 c2, .slice h0 h1 h2]] w fun e w' => (∃ (u0 : Option Addr) (u1 u2 : Nat), e = .returned (.tuple #[.slice u0 u1 u2, .int .i64 E]) ∧ EnL w' u0 u1 N) ∧ New w w' := by
  rcases ha with ⟨hz, rfl, rfl⟩ | ⟨hz, N0, hC, hans⟩
  · refine (refPatch_bad A n p L g0 g1 g2 c0 c1 c2 h0 h1 h2 w hx (by have := hx.len; have := hs.l; omega) (hs.x.sm (by omega)) hz).mono ?_
    rintro e w' ⟨he, hu⟩
    exact ⟨⟨none, 0, 0, he, EnL.zero _⟩, hu⟩
  · have hL := (frm_wf L 0 hz).1
    refine (refPatch_any A n p L g0 g1 g2 c0 c1 c2 h0 h1 h2 D w hx hd hs hz).mono ?_
    rintro e w' ⟨⟨t0, t1, t2, E', he, hp⟩, hu⟩
    refine ⟨?_, hu⟩
    rcases hans with ⟨rfl, rfl, hf, hm⟩ | ⟨rfl, rfl, hno⟩
    · have hrc : rcAll L D = some N := by rw [← hm]; exact rc_mrg hL (frm_wf N 0 hf).1
      rcases hp with ⟨N', h1, h2, h3, rfl, h5⟩ | ⟨h1, _⟩
      · rw [hrc] at h1
        obtain rfl := Option.some.inj h1
        exact ⟨t0, t1, t2, he, h5⟩
      · exact absurd ⟨hf, hm⟩ (h1 N hrc)
    · rcases hp with ⟨N', h1, h2, h3, rfl, h5⟩ | ⟨_, rfl, rfl, rfl, rfl⟩
      · exfalso
        have : N0 = N' := patch_uniq hL (frm_wf N' 0 h2).1 (by rw [h3]; exact hC)
        subst this
        exact hno ⟨h2, h3⟩
      · exact ⟨none, 0, 0, he, EnL.zero _⟩
theorem Cn.lit {base : Nat} {w : World} {s : Sl} {l : List C4} (h : Cn base w s l) (hn : 0 < l.length) : ∃ g, s.1 = some ⟨g, 0, none⟩ ∧ base ≤ g ∧ s.2.1 = l.length ∧ (∃ cs, w.heap[g]? = some (.cells cs 46 (0, 0))) ∧ ∀ j (hj : j < l.length), w.cell? ⟨g, j * 4 + 1, none⟩ = some (.int .i32 l[j].a) ∧ w.frozen? ⟨g, j * 4 + 1, none⟩ = false := by
  obtain ⟨A, n, c⟩ := s
  have h' := h
  unfold Cn at h'
  dsimp only at h' ⊢
  obtain ⟨hl, ⟨hv, _⟩ | ⟨g, cap, cur, hv, hbg, hh, r⟩⟩ := id h'
  · simp only [Value.slice.injEq] at hv; omega
  · simp only [Value.slice.injEq] at hv
    obtain ⟨rfl, rfl, rfl⟩ := hv
    refine ⟨g, rfl, hbg, rfl, ⟨_, hh⟩, fun j hj => ?_⟩
    have hk := own_setk h' (j * 4 + 1) (by rw [ccells_length]; omega) undef
    obtain ⟨b, off, e, _, e1, _⟩ := (show Rd w (some ⟨g, 0, none⟩) (ccells l) from h.co.rd).four j hj
    simp only [Option.some.injEq, Addr.mk.injEq, and_true] at e
    obtain ⟨rfl, rfl⟩ := e
    exact ⟨by simpa using e1, hk.2.1⟩
set_option maxRecDepth 20000 in
set_option maxHeartbeats 16000000 in
theorem diffPatches_any (A : Option Addr) (n p : Nat) (L : List Et) (g0 : Option Addr) (g1 g2 : Nat) (c0 : Option Addr) (c1 c2 : Nat) (h0 : Option Addr) (h1 h2 : Nat) (D : Dl) (w : World) (hx : EnL w A n L) (hd : DlR w g0 g1 g2 c0 c1 h0 h1 D) (b1 : Bd L) (b2 : BdD D) (s1 : n + sumL L ≤ 1000000000) (s2 : g1 + h1 + sumH D.chg ≤ 1000000000) (s3 : c1 + sumL D.come ≤ 1000000000) :
    Calls Try.prog 3 #[.slice A n p, .agg #[.slice g0 g1 g2, .slice c0 c1 c2, .slice h0 h1 h2]] w fun e w' => e = .returned (.bool true) ∧ New w w' := by
  have U0 := newA w (.cells #[.slice g0 g1 g2, .slice c0 c1 c2, .slice h0 h1 h2] 26)
  have HB0 := Bx.mk (heap_alloc_new w (.cells #[.slice g0 g1 g2, .slice c0 c1 c2, .slice h0 h1 h2] 26))
  have H1 := Bx.mk hx
  have H2 := Bx.mk hd
  have HL := Bx.mk (show L.length = n from hx.len)
  have HG1 := Bx.mk (show D.gone.length = g1 from hd.gone.len)
  have HH1 := Bx.mk hd.chg.len
  have HC1 := Bx.mk hd.come.len
  have HF1 := Bx.mk (fun (w' : World) (k : New w w') => Few_any A n p L w' (hx.new k) s1)
  have HF2 := Bx.mk (fun (w' : World) (k : New w w') => FewD_any g0 g1 g2 c0 c1 c2 h0 h1 h2 D w' (hd.new k) s2 s3)
  have B1 := Bx.mk b1
  have B2 := Bx.mk b2
  have HU0 := Bx.mk U0
  clear hx hd b1 b2 s1 s2 s3 U0
  go_enter Try.func3, Try.ntmps3
  go_upto_region 1 with (fail)
  generalize w.alloc (.cells #[.slice g0 g1 g2, .slice c0 c1 c2, .slice h0 h1 h2] 26) = w0 at *
  generalize w.heap.size = BD at *
  cases hf1 : few L with
  | false =>
    rw [hf1] at HF1
    clear hf1
    repeat' (first | (first
      | (go_at_call 8; (with_reducible refine (awake19_any _).mono ?_); rintro e1 w1 ⟨rfl, hu1⟩; dsimp only)
      | (go_at_call 9; (with_reducible refine (HF1.out _ (HU0.out.trans hu1)).mono ?_); rintro e2 w2 ⟨rfl, hu2⟩; dsimp only)) | go_values | go_skip | go_guarded | go_step | go_upon | go_back)
    go_returns
    exact ⟨rfl, (HU0.out.trans hu1).trans hu2⟩
  | true =>
    cases hf2 : fewD D with
    | false =>
      rw [hf1] at HF1
      rw [hf2] at HF2
      clear hf1 hf2
      repeat' (first | (first
        | (go_at_call 8; (with_reducible refine (awake19_any _).mono ?_); rintro e1 w1 ⟨rfl, hu1⟩; dsimp only)
        | (go_at_call 9; (with_reducible refine (HF1.out _ (HU0.out.trans hu1)).mono ?_); rintro e2 w2 ⟨rfl, hu2⟩; obtain ⟨q0, q1, q2, _⟩ := o3_at ((hu1.trans hu2).blk HB0.out (fun q => q)); dsimp only)
        | (go_at_call 10; (with_reducible refine (HF2.out _ ((HU0.out.trans hu1).trans hu2)).mono ?_); rintro e3 w3 ⟨rfl, hu3⟩; dsimp only)) | go_values | go_skip | go_guarded | go_step | go_upon | go_back)
      go_returns
      exact ⟨rfl, ((HU0.out.trans hu1).trans hu2).trans hu3⟩
    | true =>
      have HSM := Bx.mk (smR_of B1.out B2.out hf1 hf2)
      rw [hf1] at HF1
      rw [hf2] at HF2
      clear hf1 hf2 B1 B2
      go_upto_region 5 with (first
        | (go_at_call 8; (with_reducible refine (awake19_any _).mono ?_); rintro e1 wa ⟨rfl, hu1⟩; dsimp only)
        | (go_at_call 9; (with_reducible refine (HF1.out _ (HU0.out.trans hu1)).mono ?_); rintro e2 wb ⟨rfl, hu2⟩; obtain ⟨q0, q1, q2, _⟩ := o3_at ((hu1.trans hu2).blk HB0.out (fun q => q)); dsimp only)
        | (go_at_call 10; (with_reducible refine (HF2.out _ ((HU0.out.trans hu1).trans hu2)).mono ?_); rintro e3 w1 ⟨rfl, hu3⟩; dsimp only))
      have HU1 := Bx.mk (((HU0.out.trans hu1).trans hu2).trans hu3)
      have HOB := Bx.mk (((hu1.trans hu2).trans hu3).blk HB0.out (fun q => q))
      have HSL := Bx.mk (HSM.out.x.sm (show 400 ≤ 1000 by omega))
      have hn4 : n ≤ 400 := by rw [← HL.out]; exact HSM.out.l
      have hg4 : g1 ≤ 300 := by rw [← HG1.out]; exact HSM.out.g
      have hc4 : c1 ≤ 400 := by rw [← HC1.out]; exact HSM.out.c
      have hh4 : h1 ≤ 300 := by rw [← HH1.out]; exact HSM.out.h
      have CT := Bx.mk (fun (w' : World) (k : New w1 w') => Twins_any A n p L w' (H1.out.new (HU1.out.trans k)) (by omega) (fun x hx => (HSL.out x hx).len))
      have CD := Bx.mk (fun (w' : World) (k : New w1 w') => TwinD_any g0 g1 g2 c0 c1 c2 h0 h1 h2 D w' (H2.out.new (HU1.out.trans k)) (by omega) (by omega) (fun x hx => by have := (HSM.out.cs x hx).2.1; omega) (by omega) (fun c hc => by have := sumH_mem hc; have := HSM.out.hs; omega))
      clear hu1 hu2 hu3 q0 q1 q2 HF1 HF2 HB0
      (refine wp_cutM [none, some 1, some 2, none, none, some 5, some 6, some 7, some 8, some 9, some 10, some 11, some 12, some 13, some 14, some 15, some 16, some 17, some 18, some 19, some 20, some 21, some 22, some 23, some 24, some 25, some 26, some 27, some 28, some 29, some 30, some 31, some 32, some 33, some 34, some 35, some 36, some 37, some 38, some 39, some 40, some 41, some 42, some 43, some 44, some 45, some 46, some 47, some 48, some 49, some 50, some 51, some 52, some 53, some 54, some 55, some 56, some 57, some 58, some 59, some 60, some 61, some 62, some 63, some 64, some 65, some 66, some 67, some 68, some 69, some 70, some 71, some 72, some 73, some 74, some 75, some 76, some 77, some 78, some 79, some 80, some 81, some 82, some 83, some 84, some 85, some 86, some 87, some 88, some 89, some 90, some 91, some 92, some 93, some 94, some 95, some 96, some 97] (fun fs wx => (fun av bv wx => ∃ (a0 : Option Addr) (a1 a2 B5 : Nat) (x0 : Option Addr) (x1 x2 : Nat) (y0 : Option Addr) (y1 y2 : Nat) (z0 : Option Addr) (z1 z2 : Nat), av = .slice a0 a1 a2 ∧ bv = .pointer (some ⟨B5, 0, none⟩) ∧ Bx (EnL wx a0 a1 L) ∧ Bx (DlR wx x0 x1 x2 y0 y1 z0 z1 D) ∧ Bx (wx.heap[B5]? = some (.cells #[.slice x0 x1 x2, .slice y0 y1 y2, .slice z0 z1 z2] 26 (0, 0))) ∧ Bx (New w1 wx)) (fs 5) (fs 6) wx) ?first ?rest; (case' first => intro _ _ _ _); (case' rest => (intro fs wc hcut; simp only [Mix]; generalize fs 5 = u5 at hcut ⊢; generalize fs 6 = u6 at hcut ⊢; try dsimp only at hcut)))
      case first =>
        refine wp_region_any (by kernel_rfl) ?_
        refine wp_free 6 98 (PhiOf [fun v _ => v = .slice A n p, fun v w' => EnN w1.heap.size w' v L, fun v _ => v = .agg #[.slice g0 g1 g2, .slice c0 c1 c2, .slice h0 h1 h2], fun v w' => ∃ gv cv hv : Value, v = .agg #[gv, cv, hv] ∧ DlN w1.heap.size w' gv cv hv D, fun v w' => ∃ B5, v = .pointer (some ⟨B5, 0, none⟩) ∧ w1.heap.size ≤ B5 ∧ w'.heap[B5]? = some (.cells #[.slice none 0 0, .slice none 0 0, .slice none 0 0] 26 (0, 0)), fun v w' => EnN w1.heap.size w' v L]) (PhiOf_stable ⟨fun _ _ _ _ h => h, fun _ _ _ hn h => h.new hn, fun _ _ _ _ h => h, fun _ _ _ hn ⟨a, b, c, h1, h2⟩ => ⟨a, b, c, h1, h2.new hn⟩, fun _ _ _ hn ⟨B, h1, h2, h3⟩ => ⟨B, h1, h2, hn.blk h3 (fun q => q)⟩, fun _ _ _ hn h => h.new hn, trivial⟩) (by kernel_rfl) (by kernel_rfl) (by kernel_rfl) (by kernel_rfl) ?_ ?_
        · intro a w' K i o hi ho met hK
          have hi' : i = 0 ∨ i = 1 ∨ i = 2 ∨ i = 3 ∨ i = 4 ∨ i = 5 := by have := (mem_heads.1 hi).1; omega
          have hN := met.new
          have hN' : New w1 w' := ((Upd.refl Nowhere w1).drew).trans hN
          obtain ⟨q0, q1, q2, _⟩ := o3_at (hN'.blk HOB.out (fun q => q))
          rcases hi' with rfl | rfl | rfl | rfl | rfl | rfl
          all_goals cases ho
          · have e0 := met.b 0 _ rfl (by kernel_rfl)
            refine free_run (.slice A n p) w' (by unfold execOp; go_simp) (hK _ _ (Upd.refl _ _) rfl)
          · have e23 : a.tmps[23]?.getD undef = .slice A n p := met.d 0 23 (by kernel_rfl)
            unfold Oper.wp execOp
            go_simp
            (first | (go_at_call 11; (with_reducible refine (CT.out _ hN').mono ?_); rintro e2 w2 ⟨v2, rfl, k1, k2⟩; dsimp only))
            exact hK _ _ k2 (k1.lower hN'.size)
          · have e3 := met.b 3 _ rfl (by kernel_rfl)
            refine free_run (.agg #[.slice g0 g1 g2, .slice c0 c1 c2, .slice h0 h1 h2]) w' (by unfold execOp; go_simp) (hK _ _ (Upd.refl _ _) rfl)
          · have e25 : a.tmps[25]?.getD undef = .agg #[.slice g0 g1 g2, .slice c0 c1 c2, .slice h0 h1 h2] := met.d 2 25 (by kernel_rfl)
            unfold Oper.wp execOp
            go_simp
            (first | (go_at_call 12; (with_reducible refine (CD.out _ hN').mono ?_); rintro e2 w2 ⟨⟨a', b', c', rfl, k1⟩, k2⟩; dsimp only))
            exact hK _ _ k2 ⟨_, _, _, rfl, k1.lower hN'.size⟩
          · refine free_run (.pointer (some ⟨w'.heap.size, 0, none⟩)) (w'.alloc (.cells #[.slice none 0 0, .slice none 0 0, .slice none 0 0] 26)) (by unfold execOp; go_simp) (hK _ _ ((Upd.refl _ _).alloc _) ⟨_, rfl, hN'.size, heap_alloc_new _ _⟩)
          · have e24 : (fun v w' => EnN w1.heap.size w' v L) (a.tmps[24]?.getD undef) w' := met.d 1 24 (by kernel_rfl)
            obtain ⟨A7, p7, h7, _⟩ := EnN.enl e24
            refine free_run (.slice A7 L.length p7) w' (by unfold execOp; go_simp) (hK _ _ (Upd.refl _ _) (by rw [← h7]; exact e24))
        · intro vs w' hw hΦ
          have vp0 : vs 0 = .slice A n p := hΦ 0 (by simp [heads])
          have vp1 : (fun v w' => EnN w1.heap.size w' v L) (vs 1) w' := hΦ 1 (by simp [heads])
          have vp2 : vs 2 = .agg #[.slice g0 g1 g2, .slice c0 c1 c2, .slice h0 h1 h2] := hΦ 2 (by simp [heads])
          have vp3 : (fun v w' => ∃ gv cv hv : Value, v = .agg #[gv, cv, hv] ∧ DlN w1.heap.size w' gv cv hv D) (vs 3) w' := hΦ 3 (by simp [heads])
          have vp4 : (fun v w' => ∃ B5, v = .pointer (some ⟨B5, 0, none⟩) ∧ w1.heap.size ≤ B5 ∧ w'.heap[B5]? = some (.cells #[.slice none 0 0, .slice none 0 0, .slice none 0 0] 26 (0, 0))) (vs 4) w' := hΦ 4 (by simp [heads])
          have vp5 : (fun v w' => EnN w1.heap.size w' v L) (vs 5) w' := hΦ 5 (by simp [heads])
          refine tail_at [(0, some 23), (1, some 24), (2, some 25), (3, some 26), (4, some 6), (5, some 5)] vs (by kernel_rfl) ?_
          simp only [List.map, putAll]
          clear hΦ
          generalize vs 0 = v0 at *
          generalize vs 1 = v1 at *
          generalize vs 2 = v2 at *
          generalize vs 3 = v3 at *
          generalize vs 4 = v4 at *
          generalize vs 5 = v5 at *
          subst vp0
          subst vp2
          obtain ⟨B5, rfl, hB5, hob5⟩ := vp4
          obtain ⟨a0, a2, rfl, _⟩ := EnN.enl vp5
          obtain ⟨gv, cv, hv, rfl, hkd⟩ := vp3
          obtain ⟨x0, x2, y0, y2, z0, z2, rfl, rfl, rfl, _⟩ := hkd.r
          have hN' : New w1 w' := ((Upd.refl Nowhere w1).drew).trans hw
          obtain ⟨r0, r1, r2, rf⟩ := o3_at hob5
          have HOB5 := Bx.mk hob5
          have HKA := Bx.mk vp5
          have HKD := Bx.mk hkd
          clear vp1 hob5 hkd vp5
          simp only [List.drop_succ_cons, List.drop_zero]
          go_frame
          repeat' (first | fail | go_values | go_skip | go_guarded | go_step | go_upon | go_back)
          have HY := Bx.mk (Only.of_obj HOB5.out (upd_set3 w' B5 (.slice x0 D.gone.length x2) (.slice y0 D.come.length y2) (.slice z0 D.chg.length z2)))
          have HEA := Bx.mk (HY.out.en HKA.out (by decide) (by decide))
          have HDA := Bx.mk (HY.out.dl HKD.out (by decide) (by decide) (by decide) (by decide))
          (refine met_cut (by assumption) (by kernel_rfl) (by kernel_rfl) ?rel; (case' rel => try dsimp only [slotsOf, List.getD_cons_succ, List.getD_cons_zero]))
          case rel => exact ⟨a0, L.length, a2, B5, x0, _, x2, y0, _, y2, z0, _, z2, rfl, rfl, by
            obtain ⟨_, _, e, h⟩ := HEA.out.enl
            simp only [Value.slice.injEq] at e
            obtain ⟨rfl, _, rfl⟩ := e
            exact ⟨h⟩, by
            obtain ⟨_, _, _, _, _, _, ea, eb, ec', hdr⟩ := HDA.out.r
            simp only [Value.slice.injEq] at ea eb ec'
            obtain ⟨rfl, _, rfl⟩ := ea
            obtain ⟨rfl, _, rfl⟩ := eb
            obtain ⟨rfl, _, rfl⟩ := ec'
            exact ⟨hdr⟩, ⟨o3_set HOB5.out _ _ _⟩, ⟨((hN'.setCell (p := ⟨B5, 0, none⟩) (.inr hB5) _).setCell (p := ⟨B5, 1, none⟩) (.inr hB5) _).setCell (p := ⟨B5, 2, none⟩) (.inr hB5) _⟩⟩
      case rest =>
        obtain ⟨a0, a1, a2, B5, x0, x1, x2, y0, y1, y2, z0, z1, z2, rfl, rfl, HA, HDB, HB5, HN⟩ := hcut
        rename World => wc
        have HNc := Bx.mk (HU1.out.trans HN.out)
        have HOBc := Bx.mk (HN.out.blk HOB.out (fun q => q))
        clear HU1 HOB HN CT CD
        obtain ⟨q0, q1, q2, _⟩ := o3_at HB5.out
        have CP := Bx.mk (PatchU a0 a1 a2 L x0 x1 x2 y0 y1 y2 z0 z1 z2 D wc HA.out HDB.out HSM.out)
        go_upto_region 7 with (first
          | (go_at_call 13; (with_reducible refine (CP.out).mono ?_); rintro e7 wd ⟨⟨t0, t1, t2, E, es, N, rfl, ht9, ho7, hal7, hel, hsm7, hans⟩, hu7⟩; dsimp only))
        obtain ⟨p0, p1, p2, _⟩ := o3_at (hu7.blk HOBc.out (fun q => q))
        have HO7 := Bx.mk ho7
        have HAL7 := Bx.mk hal7
        have HU7 := Bx.mk hu7
        have HSM7 := Bx.mk hsm7
        have CR := Bx.mk (refPatchU A n p L g0 g1 g2 c0 c1 c2 h0 h1 h2 D wd (H1.out.new (HNc.out.trans hu7)) (H2.out.new (HNc.out.trans hu7)) HSM.out E N hans)
        clear ho7 hal7 hu7 hsm7 hans CP q0 q1 q2
        have hEE : (E != E) = false := by simp
        have HEN := Bx.mk (own_enl HO7.out hel (HAL7.out.map fun _ _ q => q.co))
        have CS1 := Bx.mk (fun {u0 : Option Addr} {u1 u2 : Nat} {w' : World} (k : New wd w') (h : EnL w' u0 u1 N) => SameEnts_any t0 t1 t2 N u0 u1 u2 N w' (HEN.out.new k) h (by have := HEN.out.len; omega) (fun x hx => (HSM7.out x hx).len))
        rw [decide_eq_true rfl] at CS1
        have CS2 := Bx.mk (fun (w' : World) (k : New wc w') => SameEnts_any a0 a1 a2 L A n p L w' (HA.out.new k) (H1.out.new (HNc.out.trans k)) (by rw [HL.out]; omega) (fun x hx => (HSL.out x hx).len))
        rw [decide_eq_true rfl] at CS2
        have HSD := Bx.mk (show SmD D from ⟨by rw [HG1.out]; omega, by rw [HC1.out]; omega, by rw [HH1.out]; omega, HSM.out.cs.sm (by omega), fun c hc => by have := sumH_mem hc; have := HSM.out.hs; omega⟩)
        have CS3 := Bx.mk (fun (w' : World) (k : New wc w') => refSame_any x0 x1 x2 y0 y1 y2 z0 z1 z2 D g0 g1 g2 c0 c1 c2 h0 h1 h2 D w' (HDB.out.new k) (H2.out.new (HNc.out.trans k)) HSD.out)
        rw [decide_eq_true rfl] at CS3
        clear HSD
        go_upto_region 10 with (first
          | (go_at_call 14; (with_reducible refine (CR.out).mono ?_); rintro e8 we ⟨⟨u0, u1, u2, rfl, hen8⟩, hu8⟩; dsimp only)
          | (have _m := hu9; (go_at_call 15; (with_reducible refine (CS2.out _ ((HU7.out.trans hu8).trans hu9)).mono ?_); rintro ea wg ⟨rfl, hua⟩; have hall := (HU7.out.trans (hu8.trans hu9)).trans hua; obtain ⟨r0, r1, r2, _⟩ := o3_at (hall.blk HB5.out (fun q => q)); obtain ⟨v0, v1, v2, _⟩ := o3_at (hall.blk HOBc.out (fun q => q)); dsimp only))
          | (go_at_call 15; (with_reducible refine (CS1.out hu8 hen8).mono ?_); rintro e9 wf ⟨rfl, hu9⟩; dsimp only)
          | (go_at_call 16; (with_reducible refine (CS3.out _ hall).mono ?_); rintro eb wh ⟨rfl, hub⟩; dsimp only))
        have HNh := Bx.mk (hall.trans hub)
        have HOh := Bx.mk (own_new HO7.out (((hu8.trans hu9).trans hua).trans hub))
        have HAh := Bx.mk (HAL7.out.map fun _ _ q => q.new (((hu8.trans hu9).trans hua).trans hub))
        clear HO7 HAL7 HU7 CR HEN CS1 hu8 hen8 hu9 hua hub hall r0 r1 r2 v0 v1 v2 p0 p1 p2 hEE
        repeat' (first | fail | go_values | go_skip | go_guarded | go_step | go_upon | go_back)
        (refine wp_loopM [none, some 1, some 2, none, none, none, none, none, some 8, some 9, some 10, some 11, some 12, some 13, some 14, some 15, some 16, some 17, some 18, some 19, some 20, some 21, some 22, some 23, some 24, some 25, some 26, some 27, some 28, some 29, some 30, some 31, some 32, some 33, some 34, some 35, some 36, some 37, some 38, some 39, some 40, some 41, some 42, some 43, some 44, some 45, some 46, some 47, some 48, some 49, some 50, some 51, some 52, some 53, some 54, some 55, some 56, some 57, some 58, some 59, some 60, none, some 62, some 63, some 64, some 65, some 66, some 67, some 68, some 69, some 70, some 71, some 72, some 73, some 74, some 75, some 76, some 77, some 78, some 79, some 80, some 81, some 82, some 83, some 84, some 85, some 86, some 87, some 88, some 89, some 90, some 91, some 92, some 93, some 94, some 95, some 96, some 97] (fun fs wr dM => (fun iv wr dd => ∃ (j : Nat) (M : List Et), iv = .int .i64 j ∧ j ≤ t1 ∧ Bx (wr.ownsRow wc.heap.size 43 2 (.slice t0 t1 t2) t1 (ec es)) ∧ Bx (Al (Cn wc.heap.size wr) es M) ∧ Bx (New wc wr) ∧ dd = t1 - j) (fs 62) wr dM) (by kernel_rfl) ?atStart ?round; (case' atStart => dsimp only [slotsOf, List.getD_cons_succ, List.getD_cons_zero]); (case' round => (intro dM_ J_ K_ fs wr hrel hJ_ hK_; simp only [Mix]; generalize fs 62 = u62 at hrel ⊢; try dsimp only at hrel)))
        case atStart => exact ⟨_, 0, N, rfl, Nat.zero_le _, HOh, HAh, HNh, rfl⟩
        case round =>
          clear HOh HAh HNh
          obtain ⟨j, M, rfl, hj, HO, HAL, HN, rfl⟩ := hrel
          by_cases hlt : j < t1
          · have hjI : (j : Int) < (t1 : Int) := by omega
            have hje : j < es.length := by omega
            obtain ⟨g, rfl⟩ : ∃ g, t0 = some ⟨g, 0, none⟩ := by
              obtain ⟨_, ⟨hv, _⟩ | ⟨g, _, _, hv, _⟩⟩ := HO.out
              · simp only [Value.slice.injEq] at hv; omega
              · simp only [Value.slice.injEq] at hv; exact ⟨g, hv.1⟩
            obtain ⟨_, r1⟩ := ec_get es j hje
            have k1 := (own_setk HO.out (j * 2 + 1) (by rw [ec_length]; omega) undef).2.2.trans r1
            have HGE := Bx.mk (fun (M : List Et) (w' : World) (h : Al (Cn wc.heap.size w') es M) => show ∃ l, Cn wc.heap.size w' es[j].2 l from ⟨_, (h.get j (by rw [← h.len]; exact hje) hje).2⟩)
            have HCE := Bx.mk (fun (w' : World) (h : w'.ownsRow wc.heap.size 43 2 (.slice (some ⟨g, 0, none⟩) t1 t2) t1 (ec es)) => (own_setk h (j * 2 + 1) (by rw [ec_length]; omega) undef).2.2.trans r1)
            clear r1
            generalize es[j] = ej at *
            obtain ⟨ei, m0, m1, m2⟩ := ej
            dsimp only at k1 HGE HCE
            repeat' (first | fail | go_values | go_skip | go_guarded | go_step | go_upon | go_back)
            (refine wp_loopM [none, some 1, some 2, none, none, none, none, none, some 8, some 9, some 10, none, some 12, some 13, some 14, some 15, some 16, some 17, some 18, some 19, some 20, some 21, some 22, some 23, some 24, some 25, some 26, some 27, some 28, some 29, some 30, some 31, some 32, some 33, some 34, some 35, some 36, some 37, some 38, some 39, some 40, some 41, some 42, some 43, some 44, some 45, some 46, some 47, some 48, some 49, some 50, some 51, some 52, some 53, some 54, some 55, some 56, some 57, some 58, some 59, some 60, none, none, some 63, some 64, some 65, some 66, some 67, some 68, some 69, none, some 71, some 72, some 73, some 74, some 75, some 76, some 77, some 78, some 79, some 80, some 81, some 82, some 83, some 84, some 85, some 86, some 87, some 88, some 89, some 90, some 91, some 92, some 93, some 94, some 95, some 96, some 97] (fun fs wr dM => (fun kv wr dd => ∃ (m : Nat) (M : List Et), kv = .int .i64 m ∧ m ≤ m1 ∧ Bx (wr.ownsRow wc.heap.size 43 2 (.slice (some ⟨g, 0, none⟩) t1 t2) t1 (ec es)) ∧ Bx (Al (Cn wc.heap.size wr) es M) ∧ Bx (New wc wr) ∧ dd = m1 - m) (fs 71) wr dM) (by kernel_rfl) ?atStart ?round; (case' atStart => dsimp only [slotsOf, List.getD_cons_succ, List.getD_cons_zero]); (case' round => (intro dM_ J_ K_ fs wr hrel hJ_ hK_; simp only [Mix]; generalize fs 71 = u71 at hrel ⊢; try dsimp only at hrel)))
            case atStart => exact ⟨_, 0, M, rfl, Nat.zero_le _, HO, HAL, HN, rfl⟩
            case round =>
              clear HO HAL HN k1
              obtain ⟨m, M, rfl, hm, HO, HAL, HN, rfl⟩ := hrel
              by_cases hlm : m < m1
              · have hmI : (m : Int) < (m1 : Int) := by omega
                obtain ⟨l, hcl⟩ := HGE.out M wr HAL.out
                have hll : l.length = m1 := hcl.co.len
                obtain ⟨b4, hb0, hb4, _, ⟨csq, hcsq⟩, hat⟩ := hcl.lit (by omega)
                dsimp only at hb0
                subst hb0
                obtain ⟨f0, f1⟩ := hat m (by omega)
                have f2 := HCE.out wr HO.out
                have hd : New wr wr.drew := (Upd.refl Nowhere wr).drew
                have HPK := Bx.mk (fun X => Al.poke b4 m X (HAL.out.map fun _ _ q => q.new hd))
                have HCQ := Bx.mk (hd.blk hcsq (fun q => q))
                have HOD := Bx.mk (own_new HO.out hd)
                have HND := Bx.mk (HN.out.trans hd)
                have hm9 : m1 ≤ 9223372036854775807 := by have := own_max hcl; unfold maxLen at this; omega
                generalize l[m].a = av at *
                clear hat hcl hcsq hll HO HAL HN
                go_upto_region 16 with (fail)
                go_still_tail 14, (by kernel_rfl)
                change wpList _ _ _ _ _ wr.drew
                repeat' (first | fail | go_values | go_skip | go_guarded | go_step | go_upon | go_back)
                (refine met_loop (by assumption) (by kernel_rfl) (by kernel_rfl) ?rel; (case' rel => try dsimp only [slotsOf, List.getD_cons_succ, List.getD_cons_zero]))
                case rel =>
                  obtain ⟨M', _, _, hM'⟩ := HPK.out (bits .xor .i32 av 1)
                  exact ⟨_, ⟨m + 1, M', by go_num, by omega, ⟨(Only.of_obj HCQ.out (upd_set wr.drew b4 (m * 4 + 1) _)).own HOD.out (by decide)⟩, ⟨hM'⟩, ⟨HND.out.setCell (p := ⟨b4, m * 4 + 1, none⟩) (.inr hb4) _⟩, rfl⟩, by omega⟩
              · have hmI : ¬ (m : Int) < (m1 : Int) := by omega
                repeat' (first | fail | go_values | go_skip | go_guarded | go_step | go_upon | go_back)
                (refine met_loop (by assumption) (by kernel_rfl) (by kernel_rfl) ?rel; (case' rel => try dsimp only [slotsOf, List.getD_cons_succ, List.getD_cons_zero]))
                case rel => exact ⟨_, ⟨j + 1, M, by go_num, by omega, HO, HAL, HN, rfl⟩, by omega⟩
          · obtain rfl : t1 = j := by omega
            have hjI : ¬ (t1 : Int) < (t1 : Int) := by omega
            obtain ⟨r0, r1, r2, _⟩ := o3_at (HN.out.blk HB5.out (fun q => q))
            obtain ⟨v0, v1, v2, _⟩ := o3_at (HN.out.blk HOBc.out (fun q => q))
            have C2 := Bx.mk (CS2.out _ HN.out)
            clear hlt
            repeat' (first | (first
              | (go_at_call 15; (with_reducible refine (C2.out).mono ?_); rintro ea wg ⟨rfl, hua⟩; have hall := HN.out.trans hua; obtain ⟨r0', r1', r2', _⟩ := o3_at (hall.blk HB5.out (fun q => q)); obtain ⟨v0', v1', v2', _⟩ := o3_at (hall.blk HOBc.out (fun q => q)); dsimp only)
              | (go_at_call 16; (with_reducible refine (CS3.out _ hall).mono ?_); rintro eb wh ⟨rfl, hub⟩; dsimp only)) | go_values | go_skip | go_guarded | go_step | go_upon | go_back)
            go_returns
            exact ⟨rfl, HNc.out.trans (hall.trans hub)⟩
end Go.Proofs.Ytdnkdmdmekdfkaa
