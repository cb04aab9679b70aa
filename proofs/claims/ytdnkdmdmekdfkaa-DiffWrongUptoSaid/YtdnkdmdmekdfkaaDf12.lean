/- Who is in a list: walks. -/
import Derived.Test.YtdnkdmdmekdfkaaDf10
namespace Go.Proofs.Ytdnkdmdmekdfkaa
open Go.RowKit
set_option maxHeartbeats 4000000 in
theorem IndexI_any (A : Option Addr) (n c : Nat) (l : List Nat) (v : Nat) (w : World) (h : Go_ w (A, n, c) l) (hl : l.length ≤ 1000) : Calls Try.prog 48 #[.slice A n c, .int .u32 v] w fun e w' => (∃ F : Int, e = .returned (.int .i64 F) ∧ decide (0 ≤ F) = decide (v ∈ l)) ∧ New w w' := by
  have HL := Bx.mk h.len
  dsimp only at HL
  have hn : n ≤ 1000 := by have := HL.out; omega
  go_enter Try.func48, Try.ntmps48
  repeat' (first | fail | go_values | go_skip | go_guarded | go_step | go_upon | go_back)
  go_loopw [8] (fun i wr => ∃ (j : Nat), j ≤ n ∧ i = .int .i64 j ∧ Bx (¬ v ∈ l.take j) ∧ New w wr) (fun i _ => n - (intOf i).toNat)
  case atStart => exact ⟨0, by omega, rfl, ⟨by simp⟩, Upd.refl _ _⟩
  case round =>
    obtain ⟨j, hj, rfl, HY, hN⟩ := hrel
    by_cases hlt : j < n
    · have hjL : j < l.length := by rw [HL.out]; exact hlt
      obtain ⟨b0, off, rfl, h0⟩ := (h.new hN).at_ j hjL
      have HS := Bx.mk (List.take_succ_eq_append_getElem hjL)
      have HM := Bx.mk (List.getElem_mem hjL)
      generalize l[j] = q at *
      by_cases hk : v = q
      · have hkI : ((v : Int) == (q : Int)) = true := by rw [beq_iff_eq]; omega
        have hkE : (v : Int) = (q : Int) := by omega
        have HE := Bx.mk (show v ∈ l by rw [hk]; exact HM.out)
        clear hk HS HM
        repeat' (first | fail | go_values | go_skip | go_guarded | go_step | go_upon | go_back)
        go_returns
        exact ⟨⟨_, rfl, by rw [decide_eq_true HE.out]; exact decide_eq_true (by omega)⟩, hN⟩
      · have hkI : ((v : Int) == (q : Int)) = false := by rw [beq_eq_false_iff_ne]; omega
        have hkE : ¬ (v : Int) = (q : Int) := by omega
        have HY2 := Bx.mk (show ¬ v ∈ l.take (j + 1) by
          rw [HS.out]
          intro hm
          rcases List.mem_append.1 hm with hm | hm
          · exact HY.out hm
          · simp at hm; exact hk hm)
        clear hk HS HM
        repeat' (first | fail | go_values | go_skip | go_guarded | go_step | go_upon | go_back)
        go_roundw
        case rel => exact ⟨j + 1, by omega, by go_num, HY2, hN⟩
        case measure => simp [intOf]; omega
    · obtain rfl : j = n := by omega
      have HE := Bx.mk (show ¬ v ∈ l by have := HY.out; rwa [List.take_of_length_le (by rw [HL.out]; exact Nat.le_refl _)] at this)
      repeat' (first | fail | go_values | go_skip | go_guarded | go_step | go_upon | go_back)
      go_returns
      exact ⟨⟨-1, rfl, by rw [decide_eq_false HE.out]; rfl⟩, hN⟩
theorem Contains_any (A : Option Addr) (n c : Nat) (l : List Nat) (v : Nat) (w : World) (h : Go_ w (A, n, c) l) (hl : l.length ≤ 1000) : Calls Try.prog 25 #[.slice A n c, .int .u32 v] w fun e w' => e = .returned (.bool (decide (v ∈ l))) ∧ New w w' := by
  have HI := Bx.mk (IndexI_any A n c l v w h hl)
  go_enter Try.func25, Try.ntmps25
  repeat' (first | (go_at_call 48; (with_reducible refine (HI.out).mono ?_); rintro e w2 ⟨⟨F, rfl, hF⟩, hu2⟩; dsimp only) | go_values | go_skip | go_guarded | go_step | go_upon | go_back)
  go_returns
  refine ⟨?_, hu2⟩
  rw [← hF]
  exact congrArg (fun z => Ending.returned (Value.bool z)) (by first | rfl | (rw [Bool.eq_iff_iff]; simp))
set_option maxHeartbeats 4000000 in
theorem PatchLam_any (i j B : Nat) (m : Int) (s0 : Option Addr) (s1 s2 : Nat) (t0 : Option Addr) (t1 t2 : Nat) (w : World) (h : w.cell? ⟨B, 0, none⟩ = some (.int .u32 j)) : Calls Try.prog 27 #[.agg #[.int .u32 i, .int .u8 m, .slice s0 s1 s2, .slice t0 t1 t2], .pointer (some ⟨B, 0, none⟩)] w fun e w' => e = .returned (.bool (decide (i = j))) ∧ New w w' := by
  have hU := (Upd.refl Nowhere w).alloc (.cells #[.int .u32 i, .int .u8 m, .slice s0 s1 s2, .slice t0 t1 t2] 57)
  obtain ⟨c0, c1, c2, c3, _⟩ := o4_at (heap_alloc_new w (.cells #[.int .u32 i, .int .u8 m, .slice s0 s1 s2, .slice t0 t1 t2] 57))
  have hB := hU.cell h (fun q => q)
  go_enter Try.func27, Try.ntmps27
  repeat' (first | fail | go_values | go_skip | go_guarded | go_step | go_upon | go_back)
  go_returns
  refine ⟨?_, hU⟩
  exact congrArg (fun z => Ending.returned (Value.bool z)) (Bool.eq_iff_iff.2 (by simp only [decide_eq_true_eq, beq_iff_eq]; omega))
set_option maxHeartbeats 4000000 in
theorem idxChg_any (A : Option Addr) (n c : Nat) (l : List Ch) (i0 B : Nat) (w : World) (h : ChL w A n l) (hl : l.length ≤ 1000) (hB : w.cell? ⟨B, 0, none⟩ = some (.int .u32 i0)) : Calls Try.prog 26 #[.slice A n c, .func (.func 27) #[] #[.pointer (some ⟨B, 0, none⟩)]] w fun e w' => ((∃ j, ∃ hj : j < l.length, e = .returned (.int .i64 j) ∧ l.find? (fun x => x.id == i0) = some l[j]) ∨ (e = .returned (.int .i64 (-1)) ∧ l.find? (fun x => x.id == i0) = none)) ∧ New w w' := by
  have HL := Bx.mk h.len
  have hn : n ≤ 1000 := by have := HL.out; omega
  go_enter Try.func26, Try.ntmps26
  repeat' (first | fail | go_values | go_skip | go_guarded | go_step | go_upon | go_back)
  go_loopw [8] (fun i wr => ∃ (j : Nat), j ≤ n ∧ i = .int .i64 j ∧ Bx (∀ q ∈ l.take j, (q.id == i0) = false) ∧ New w wr) (fun i _ => n - (intOf i).toNat)
  case atStart => exact ⟨0, by omega, rfl, ⟨fun q hq => by simp at hq⟩, Upd.refl _ _⟩
  case round =>
    obtain ⟨j, hj, rfl, HY, hN⟩ := hrel
    by_cases hlt : j < n
    · have hjL : j < l.length := by rw [HL.out]; exact hlt
      obtain ⟨b0, off, s0, s1, s2, t0, t1, t2, rfl, h0, h1, h2, h3, _, _⟩ := (h.new hN).el j hjL
      have HS := Bx.mk (List.take_succ_eq_append_getElem hjL)
      have HF := Bx.mk (find_at (p := fun q : Ch => q.id == i0) l j hjL HY.out)
      generalize hqe : l[j] = q at *
      obtain ⟨k, m, N, S⟩ := q
      dsimp only at h0 h1 h2 h3 HF
      generalize hm : (m.toNat : Int) = M at *
      have hBr := hN.cell hB (fun q => q)
      have HC := Bx.mk (PatchLam_any k i0 B M s0 s1 s2 t0 t1 t2 wr hBr)
      have HQE := Bx.mk hqe
      clear hqe hm
      by_cases hk : k = i0
      · rw [decide_eq_true hk] at HC
        have HE := Bx.mk (HF.out (by simp [hk]))
        clear hk
        repeat' (first | (go_at_call 27; (with_reducible refine (HC.out).mono ?_); rintro e w2 ⟨rfl, hu2⟩; dsimp only) | go_values | go_skip | go_guarded | go_step | go_upon | go_back)
        go_returns
        exact ⟨.inl ⟨j, hjL, rfl, by rw [HQE.out]; exact HE.out⟩, hN.trans hu2⟩
      · rw [decide_eq_false hk] at HC
        have HY2 := Bx.mk (show ∀ q ∈ l.take (j + 1), (q.id == i0) = false by
          intro q hq
          rw [HS.out] at hq
          rcases List.mem_append.1 hq with hq | hq
          · exact HY.out q hq
          · simp at hq; subst hq; simpa using hk)
        clear hk
        repeat' (first | (go_at_call 27; (with_reducible refine (HC.out).mono ?_); rintro e w2 ⟨rfl, hu2⟩; dsimp only) | go_values | go_skip | go_guarded | go_step | go_upon | go_back)
        go_roundw
        case rel => exact ⟨j + 1, by omega, by go_num, HY2, hN.trans hu2⟩
        case measure => simp [intOf]; omega
    · obtain rfl : j = n := by omega
      have HE := Bx.mk (show l.find? (fun x => x.id == i0) = none by have := HY.out; rw [List.take_of_length_le (by rw [HL.out]; exact Nat.le_refl _)] at this; exact List.find?_eq_none.2 fun q hq => by simp [this q hq])
      repeat' (first | fail | go_values | go_skip | go_guarded | go_step | go_upon | go_back)
      go_returns
      exact ⟨.inr ⟨rfl, HE.out⟩, hN⟩
set_option maxRecDepth 20000 in
theorem CloneE_any (A : Option Addr) (n c : Nat) (es : List E4) (w : World) (h1 : es.length = n) (h2 : A = none → n = 0) (h3 : Rd w A (ec es)) (hn : n ≤ 100000) : Calls Try.prog 60 #[.slice A n c] w fun e w' => ∃ s : Sl, e = .returned (.slice s.1 s.2.1 s.2.2) ∧ w'.ownsRow w.heap.size 43 2 (.slice s.1 s.2.1 s.2.2) n (ec es) ∧ New w w' := by
  cases A with
  | none =>
    obtain rfl : n = 0 := h2 rfl
    obtain rfl : es = [] := List.eq_nil_of_length_eq_zero h1
    have hq := fun w => Go.Lib.run_eql_slice_nil (P := Try.prog) w 22 43 none 0 c 0 0 Try.underlying22
    go_enter Try.func60, Try.ntmps60
    repeat' (first | fail | go_values | go_skip | go_guarded | go_step | go_upon | go_back)
    go_returns
    exact ⟨(none, 0, 0), rfl, World.ownsRow_nil _ _ _ _, Upd.refl _ _⟩
  | some a =>
    have hl0 := own_lit0 w w.heap.size 43 2 (Nat.le_refl _)
    have hs := (h3.new ((Upd.refl _ w).alloc (.cells #[] 43))).src (P := Try.prog) (n := n) (c := c) (size := 2) Try.underlying22 (fun q => by cases q) (by rw [ec_length, h1]) (ec_one es)
    have hq := fun w => Go.Lib.run_eql_slice_nil (P := Try.prog) w 22 43 (some a) n c 0 0 Try.underlying22
    go_enter Try.func60, Try.ntmps60
    repeat' (first | (at_builtin; refine wpList_appN _ rfl _ _ 22 22 rfl _ 43 (.agg #[.int .u32 0, .slice none 0 0]) 2 32 Try.underlying22 infoE rfl _ _ _ hl0 rfl _ _ _ hs rfl _ ((Upd.refl Nowhere w).alloc _) ?c1 ?c2 ?_; (case c1 => unfold maxLen; omega); (case c2 => omega); intro v' w1 ho hu hk hv) | go_values | go_skip | go_guarded | go_step | go_upon | go_back)
    go_returns
    simp only [Nat.zero_add, List.nil_append] at ho
    obtain ⟨A2, c2, rfl, _⟩ := own_rd ho
    exact ⟨(A2, n, c2), rfl, ho, hu⟩
end Go.Proofs.Ytdnkdmdmekdfkaa
namespace Go.Proofs.Ytdnkdmdmekdfkaa
open Go.RowKit
theorem own_setk {w : World} {base e size n c g : Nat} {xs : List Value} (h : w.ownsRow base e size (.slice (some ⟨g, 0, none⟩) n c) n xs) (k : Nat) (hk : k < xs.length) (v : Value) :
    (w.setCell ⟨g, k, none⟩ v).ownsRow base e size (.slice (some ⟨g, 0, none⟩) n c) n (xs.set k v) ∧ w.frozen? ⟨g, k, none⟩ = false ∧ w.cell? ⟨g, k, none⟩ = xs[k]? := by
  obtain ⟨hlen, ⟨hv, _⟩ | ⟨g', cap, cur, hv, hbg, hg, hnc, hcm, hcs, ht⟩⟩ := h
  · cases hv
  · simp only [Value.slice.injEq, Option.some.injEq, Addr.mk.injEq, and_true, true_and] at hv
    obtain ⟨rfl, rfl⟩ := hv
    refine ⟨⟨by rw [List.length_set]; exact hlen, .inr ⟨g, c, cur.set! k v, rfl, hbg, heap_setCell_same w g k _ _ _ hg, hnc, hcm, by simpa using hcs, ?_⟩⟩, by simp [World.frozen?, hg], ?_⟩
    · rw [← ht]
      simp only [Array.set!_eq_setIfInBounds, Array.toList_setIfInBounds, List.take_set]
    · rw [World.cell?, hg, ← ht, List.getElem?_take, if_pos (by omega)]
      simp
theorem ec_set (a : List E4) (e : E4) (b : List E4) (j : Nat) (hj : a.length = j) (s : Sl) : (ec (a ++ e :: b)).set (j * 2 + 1) (.slice s.1 s.2.1 s.2.2) = ec (a ++ (e.1, s) :: b) := by
  subst hj
  rw [ec_append, ec_append, List.set_append_right _ _ (by rw [ec_length]; omega), ec_length]
  rw [show a.length * 2 + 1 - a.length * 2 = 1 by omega]
  rfl
theorem ec_at (a : List E4) (e : E4) (b : List E4) (j : Nat) (hj : a.length = j) : (ec (a ++ e :: b))[j * 2]? = some (.int .u32 e.1) ∧ (ec (a ++ e :: b))[j * 2 + 1]? = some (.slice e.2.1 e.2.2.1 e.2.2.2) := by
  subst hj
  have := ec_get (a ++ e :: b) a.length (by simp)
  simpa using this
theorem Al.snoc {R : Sl → List C4 → Prop} {es : List E4} {L : List Et} (h : Al R es L) {e : E4} {x : Et} (h1 : e.1 = x.1) (h2 : R e.2 x.2) : Al R (es ++ [e]) (L ++ [x]) := h.append (Al.one h1 h2)
set_option maxRecDepth 4000 in
set_option maxHeartbeats 4000000 in
theorem Copy_any (A : Option Addr) (n c : Nat) (L : List Et) (w : World) (h : EnL w A n L) (hn : n ≤ 100000) (hs : ∀ x ∈ L, x.2.length ≤ 100000) : Calls Try.prog 33 #[.slice A n c] w fun e w' => (∃ s : Sl, e = .returned (.slice s.1 s.2.1 s.2.2) ∧ EnN w.heap.size w' (.slice s.1 s.2.1 s.2.2) L) ∧ New w w' := by
  obtain ⟨hl, hnil, es, hr, hal⟩ := h
  have hel := hal.len
  have HC := Bx.mk (CloneE_any A n c es w (by omega) hnil hr hn)
  have HAL := Bx.mk hal
  have HL := Bx.mk hl
  have HEL := Bx.mk hel
  clear hal hl hel hr hnil
  go_enter Try.func33, Try.ntmps33
  go_upto_block 0 with (first
    | (go_at_call 60; (with_reducible refine (HC.out).mono ?_); rintro e2 w2 ⟨⟨z0, z1, z2⟩, rfl, ho, hu2⟩; dsimp only))
  dsimp only at ho
  obtain ⟨_, c3, e3, _⟩ := own_rd ho
  simp only [Value.slice.injEq] at e3
  obtain ⟨rfl, rfl, rfl⟩ := e3
  have HO := Bx.mk ho
  have HU2 := Bx.mk hu2
  clear ho hu2 HC
  repeat' (first | fail | go_values | go_skip | go_guarded | go_step | go_upon | go_back)
  go_loopw [10] (fun i wr => ∃ (j : Nat) (a : List E4), j ≤ z1 ∧ i = .int .i64 j ∧ a.length = j ∧ Bx (wr.ownsRow w.heap.size 43 2 (.slice z0 z1 z2) z1 (ec (a ++ es.drop j))) ∧ Bx (Al (Cn w.heap.size wr) a (L.take j)) ∧ Bx (New w wr)) (fun i _ => z1 - (intOf i).toNat)
  case atStart => exact ⟨0, [], by omega, rfl, rfl, HO, ⟨trivial⟩, HU2⟩
  case round =>
    clear HO
    obtain ⟨j, a, hj, rfl, ha, HO, HA, HU⟩ := hrel
    by_cases hlt : j < z1
    · have hjL : j < L.length := by rw [HL.out]; exact hlt
      have hjE : j < es.length := by rw [HEL.out]; exact hjL
      have hji : (j : Int) < (z1 : Int) := by omega
      have hd := List.drop_eq_getElem_cons hjE
      obtain ⟨k0, k1⟩ := HAL.out.get j hjL hjE
      have HT := Bx.mk (List.take_succ_eq_append_getElem hjL)
      have hq := hs L[j] (List.getElem_mem hjL)
      have ho := HO.out
      rw [hd] at ho
      generalize es[j] = e at *
      generalize L[j] = x at *
      obtain ⟨i, s0, s1, s2⟩ := e
      obtain ⟨i', l⟩ := x
      dsimp only at k0 k1 hq
      subst k0
      obtain ⟨g, c', e1, hbg, _⟩ := own_some ho (by omega)
      simp only [Value.slice.injEq, true_and] at e1
      obtain ⟨rfl, rfl⟩ := e1
      obtain ⟨q0, q1⟩ := ec_at a (i, s0, s1, s2) (es.drop (j + 1)) j ha
      have hlen : (ec (a ++ (i, s0, s1, s2) :: es.drop (j + 1))).length = z1 * 2 := own_len ho
      have g0 : wr.cell? ⟨g, j * 2, none⟩ = some (.int .u32 i) := ((own_setk ho (j * 2) (by omega) undef).2.2).trans q0
      have g1 : wr.cell? ⟨g, j * 2 + 1, none⟩ = some (.slice s0 s1 s2) := ((own_setk ho (j * 2 + 1) (by omega) undef).2.2).trans q1
      obtain ⟨n0, n1⟩ := e2_new wr i s0 s1 s2
      have hA := (Upd.refl Nowhere wr).alloc (.cells #[.int .u32 i, .slice s0 s1 s2] 43)
      have HCL := Bx.mk (CloneC_any s0 s1 s2 l _ (k1.new (HU.out.trans hA)) hq)
      have HOW := Bx.mk ho
      clear ho hd q0 q1 k1 HO
      repeat' (first | (go_at_call 42; (with_reducible refine (HCL.out).mono ?_); rintro e5 w5 ⟨⟨m0, m1, m2⟩, rfl, hcn, hu5⟩; have ho5 := own_new HOW.out (hA.trans hu5); have f5 := (own_setk ho5 (j * 2 + 1) (by rw [hlen]; omega) (.slice m0 m1 m2)).2.1; have f7 := (hA.trans hu5).cell g1 (fun q => q); dsimp only) | go_values | go_skip | go_guarded | go_step | go_upon | go_back)
      have HO5 := Bx.mk ho5
      have HCN := Bx.mk (hcn.lower (show w.heap.size ≤ _ from (HU.out.trans hA).size))
      have kO : Only 43 w5 (w5.setCell ⟨g, j * 2 + 1, none⟩ (.slice m0 m1 m2)) := Only.of_app ho5 ((upd_set w5 g (j * 2 + 1) _).mono fun b hb => by rw [hb]; rfl)
      clear ho5 hcn f5 f7
      go_roundw
      case rel =>
        refine ⟨j + 1, a ++ [(i, m0, m1, m2)], by omega, by go_num, by rw [List.length_append, ha]; rfl, ⟨?_⟩, ⟨?_⟩, ⟨((HU.out.trans hA).trans hu5).setCell (p := ⟨g, j * 2 + 1, none⟩) (.inr hbg) _⟩⟩
        · have := (own_setk HO5.out (j * 2 + 1) (by rw [hlen]; omega) (.slice m0 m1 m2)).1
          rw [ec_set a _ _ j ha (m0, m1, m2)] at this
          rw [List.append_assoc]
          exact this
        · rw [HT.out]
          exact (HA.out.map fun _ _ q => kO.cn (q.new (hA.trans hu5)) (by decide)).snoc rfl (kO.cn HCN.out (by decide))
      case measure => simp [intOf]; omega
    · obtain rfl : j = z1 := by omega
      have HF := Bx.mk (show EnN w.heap.size wr (.slice z0 j z2) L from ⟨a, by
        have := HO.out
        rw [List.drop_of_length_le (by rw [HEL.out, HL.out]; exact Nat.le_refl _), List.append_nil] at this
        rw [HL.out]; exact this, by
        have := HA.out
        rwa [List.take_of_length_le (by rw [HL.out]; exact Nat.le_refl _)] at this⟩)
      repeat' (first | fail | go_values | go_skip | go_guarded | go_step | go_upon | go_back)
      go_returns
      exact ⟨⟨(z0, j, z2), rfl, HF.out⟩, HU.out⟩
end Go.Proofs.Ytdnkdmdmekdfkaa
