/- Who is in a list: walks. -/
import Derived.Test.YtdnkdmdmekdfkaaDf10
import Derived.Test.YtdnkdmdmekdfkaaBiPure
import Derived.Test.YtdnkdmdmekdfkaaSsC7
import Derived.Test.YtdnkdmdmekdfkaaSsE7
namespace Go.Proofs.Ytdnkdmdmekdfkaa
open Go.RowKit
set_option maxHeartbeats 4000000 in
theorem IndexI_any (A : Option Addr) (n c : Nat) (l : List Nat) (v : Nat) (w : World) (h : Go_ w (A, n, c) l) (hl : l.length ≤ 1000) : Calls Try.prog 48 #[.slice A n c, .int .u32 v] w fun e w' => (∃ F : Int, e = .returned (.int .i64 F) ∧ decide (0 ≤ F) = decide (v ∈ l)) ∧ New w w' := by
  have HL := Bx.mk h.len
  dsimp only at HL
  have hn : n ≤ 1000 := by have := HL.out; omega
  go_enter Try.func48, Try.ntmps48
  repeat' (first | fail | go_values | go_skip | go_guarded | go_step | go_upon | go_back)
  go_loopw [8] (fun i wr => ∃ (j : Nat), j ≤ n ∧ i = .int .i64 j ∧ Bx (¬ v ∈ l.take j) ∧ New w wr) (fun i _ => n - (intOf i).toNat)
  case atStart => exact ⟨0, by omega, rfl, ⟨by simp⟩, Upd.refl _ _⟩
  case round =>
    obtain ⟨j, hj, rfl, HY, hN⟩ := hrel
    by_cases hlt : j < n
    · have hjL : j < l.length := by rw [HL.out]; exact hlt
      obtain ⟨b0, off, rfl, h0⟩ := (h.new hN).at_ j hjL
      have HS := Bx.mk (List.take_succ_eq_append_getElem hjL)
      have HM := Bx.mk (List.getElem_mem hjL)
      generalize l[j] = q at *
      by_cases hk : v = q
      · have hkI : ((v : Int) == (q : Int)) = true := by rw [beq_iff_eq]; omega
        have hkE : (v : Int) = (q : Int) := by omega
        have HE := Bx.mk (show v ∈ l by rw [hk]; exact HM.out)
        clear hk HS HM
        repeat' (first | fail | go_values | go_skip | go_guarded | go_step | go_upon | go_back)
        go_returns
        exact ⟨⟨_, rfl, by rw [decide_eq_true HE.out]; exact decide_eq_true (by omega)⟩, hN⟩
      · have hkI : ((v : Int) == (q : Int)) = false := by rw [beq_eq_false_iff_ne]; omega
        have hkE : ¬ (v : Int) = (q : Int) := by omega
        have HY2 := Bx.mk (show ¬ v ∈ l.take (j + 1) by
          rw [HS.out]
          intro hm
          rcases List.mem_append.1 hm with hm | hm
          · exact HY.out hm
          · simp at hm; exact hk hm)
        clear hk HS HM
        repeat' (first | fail | go_values | go_skip | go_guarded | go_step | go_upon | go_back)
        go_roundw
        case rel => exact ⟨j + 1, by omega, by go_num, HY2, hN⟩
        case measure => simp [intOf]; omega
    · obtain rfl : j = n := by omega
      have HE := Bx.mk (show ¬ v ∈ l by have := HY.out; rwa [List.take_of_length_le (by rw [HL.out]; exact Nat.le_refl _)] at this)
      repeat' (first | fail | go_values | go_skip | go_guarded | go_step | go_upon | go_back)
      go_returns
      exact ⟨⟨-1, rfl, by rw [decide_eq_false HE.out]; rfl⟩, hN⟩
theorem Contains_any (A : Option Addr) (n c : Nat) (l : List Nat) (v : Nat) (w : World) (h : Go_ w (A, n, c) l) (hl : l.length ≤ 1000) : Calls Try.prog 25 #[.slice A n c, .int .u32 v] w fun e w' => e = .returned (.bool (decide (v ∈ l))) ∧ New w w' := by
  have HI := Bx.mk (IndexI_any A n c l v w h hl)
  go_enter Try.func25, Try.ntmps25
  repeat' (first | (go_at_call 48; (with_reducible refine (HI.out).mono ?_); rintro e w2 ⟨⟨F, rfl, hF⟩, hu2⟩; dsimp only) | go_values | go_skip | go_guarded | go_step | go_upon | go_back)
  go_returns
  refine ⟨?_, hu2⟩
  rw [← hF]
  exact congrArg (fun z => Ending.returned (Value.bool z)) (by first | rfl | (rw [Bool.eq_iff_iff]; simp))
set_option maxHeartbeats 4000000 in
theorem PatchLam_any (i j B : Nat) (m : Int) (s0 : Option Addr) (s1 s2 : Nat) (t0 : Option Addr) (t1 t2 : Nat) (w : World) (h : w.cell? ⟨B, 0, none⟩ = some (.int .u32 j)) : Calls Try.prog 27 #[.agg #[.int .u32 i, .int .u8 m, .slice s0 s1 s2, .slice t0 t1 t2], .pointer (some ⟨B, 0, none⟩)] w fun e w' => e = .returned (.bool (decide (i = j))) ∧ New w w' := by
  have hU := (Upd.refl Nowhere w).alloc (.cells #[.int .u32 i, .int .u8 m, .slice s0 s1 s2, .slice t0 t1 t2] 57)
  obtain ⟨c0, c1, c2, c3, _⟩ := o4_at (heap_alloc_new w (.cells #[.int .u32 i, .int .u8 m, .slice s0 s1 s2, .slice t0 t1 t2] 57))
  have hB := hU.cell h (fun q => q)
  go_enter Try.func27, Try.ntmps27
  repeat' (first | fail | go_values | go_skip | go_guarded | go_step | go_upon | go_back)
  go_returns
  refine ⟨?_, hU⟩
  exact congrArg (fun z => Ending.returned (Value.bool z)) (Bool.eq_iff_iff.2 (by simp only [decide_eq_true_eq, beq_iff_eq]; omega))
set_option maxHeartbeats 4000000 in
theorem idxChg_any (A : Option Addr) (n c : Nat) (l : List Ch) (i0 B : Nat) (w : World) (h : ChL w A n l) (hl : l.length ≤ 1000) (hB : w.cell? ⟨B, 0, none⟩ = some (.int .u32 i0)) : Calls Try.prog 26 #[.slice A n c, .func (.func 27) #[] #[.pointer (some ⟨B, 0, none⟩)]] w fun e w' => ((∃ j, ∃ hj : j < l.length, e = .returned (.int .i64 j) ∧ l.find? (fun x => x.id == i0) = some l[j]) ∨ (e = .returned (.int .i64 (-1)) ∧ l.find? (fun x => x.id == i0) = none)) ∧ New w w' := by
  have HL := Bx.mk h.len
  have hn : n ≤ 1000 := by have := HL.out; omega
  go_enter Try.func26, Try.ntmps26
  repeat' (first | fail | go_values | go_skip | go_guarded | go_step | go_upon | go_back)
  go_loopw [8] (fun i wr => ∃ (j : Nat), j ≤ n ∧ i = .int .i64 j ∧ Bx (∀ q ∈ l.take j, (q.id == i0) = false) ∧ New w wr) (fun i _ => n - (intOf i).toNat)
  case atStart => exact ⟨0, by omega, rfl, ⟨fun q hq => by simp at hq⟩, Upd.refl _ _⟩
  case round =>
    obtain ⟨j, hj, rfl, HY, hN⟩ := hrel
    by_cases hlt : j < n
    · have hjL : j < l.length := by rw [HL.out]; exact hlt
      obtain ⟨b0, off, s0, s1, s2, t0, t1, t2, rfl, h0, h1, h2, h3, _, _⟩ := (h.new hN).el j hjL
      have HS := Bx.mk (List.take_succ_eq_append_getElem hjL)
      have HF := Bx.mk (find_at (p := fun q : Ch => q.id == i0) l j hjL HY.out)
      generalize hqe : l[j] = q at *
      obtain ⟨k, m, N, S⟩ := q
      dsimp only at h0 h1 h2 h3 HF
      generalize hm : (m.toNat : Int) = M at *
      have hBr := hN.cell hB (fun q => q)
      have HC := Bx.mk (PatchLam_any k i0 B M s0 s1 s2 t0 t1 t2 wr hBr)
      have HQE := Bx.mk hqe
      clear hqe hm
      by_cases hk : k = i0
      · rw [decide_eq_true hk] at HC
        have HE := Bx.mk (HF.out (by simp [hk]))
        clear hk
        repeat' (first | (go_at_call 27; (with_reducible refine (HC.out).mono ?_); rintro e w2 ⟨rfl, hu2⟩; dsimp only) | go_values | go_skip | go_guarded | go_step | go_upon | go_back)
        go_returns
        exact ⟨.inl ⟨j, hjL, rfl, by rw [HQE.out]; exact HE.out⟩, hN.trans hu2⟩
      · rw [decide_eq_false hk] at HC
        have HY2 := Bx.mk (show ∀ q ∈ l.take (j + 1), (q.id == i0) = false by
          intro q hq
          rw [HS.out] at hq
          rcases List.mem_append.1 hq with hq | hq
          · exact HY.out q hq
          · simp at hq; subst hq; simpa using hk)
        clear hk
        repeat' (first | (go_at_call 27; (with_reducible refine (HC.out).mono ?_); rintro e w2 ⟨rfl, hu2⟩; dsimp only) | go_values | go_skip | go_guarded | go_step | go_upon | go_back)
        go_roundw
        case rel => exact ⟨j + 1, by omega, by go_num, HY2, hN.trans hu2⟩
        case measure => simp [intOf]; omega
    · obtain rfl : j = n := by omega
      have HE := Bx.mk (show l.find? (fun x => x.id == i0) = none by have := HY.out; rw [List.take_of_length_le (by rw [HL.out]; exact Nat.le_refl _)] at this; exact List.find?_eq_none.2 fun q hq => by simp [this q hq])
      repeat' (first | fail | go_values | go_skip | go_guarded | go_step | go_upon | go_back)
      go_returns
      exact ⟨.inr ⟨rfl, HE.out⟩, hN⟩
set_option maxRecDepth 20000 in
theorem CloneE_any (A : Option Addr) (n c : Nat) (es : List E4) (w : World) (h1 : es.length = n) (h2 : A = none → n = 0) (h3 : Rd w A (ec es)) (hn : n ≤ 100000) : Calls Try.prog 60 #[.slice A n c] w fun e w' => ∃ s : Sl, e = .returned (.slice s.1 s.2.1 s.2.2) ∧ w'.ownsRow w.heap.size 43 2 (.slice s.1 s.2.1 s.2.2) n (ec es) ∧ New w w' := by
  cases A with
  | none =>
    obtain rfl : n = 0 := h2 rfl
    obtain rfl : es = [] := List.eq_nil_of_length_eq_zero h1
    have hq := fun w => Go.Lib.run_eql_slice_nil (P := Try.prog) w 22 43 none 0 c 0 0 Try.underlying22
    go_enter Try.func60, Try.ntmps60
    repeat' (first | fail | go_values | go_skip | go_guarded | go_step | go_upon | go_back)
    go_returns
    exact ⟨(none, 0, 0), rfl, World.ownsRow_nil _ _ _ _, Upd.refl _ _⟩
  | some a =>
    have hl0 := own_lit0 w w.heap.size 43 2 (Nat.le_refl _)
    have hs := (h3.new ((Upd.refl _ w).alloc (.cells #[] 43))).src (P := Try.prog) (n := n) (c := c) (size := 2) Try.underlying22 (fun q => by cases q) (by rw [ec_length, h1]) (ec_one es)
    have hq := fun w => Go.Lib.run_eql_slice_nil (P := Try.prog) w 22 43 (some a) n c 0 0 Try.underlying22
    go_enter Try.func60, Try.ntmps60
    repeat' (first | (at_builtin; refine wpList_appN _ rfl _ _ 22 22 rfl _ 43 (.agg #[.int .u32 0, .slice none 0 0]) 2 32 Try.underlying22 infoE rfl _ _ _ hl0 rfl _ _ _ hs rfl _ ((Upd.refl Nowhere w).alloc _) ?c1 ?c2 ?_; (case c1 => unfold maxLen; omega); (case c2 => omega); intro v' w1 ho hu hk hv) | go_values | go_skip | go_guarded | go_step | go_upon | go_back)
    go_returns
    simp only [Nat.zero_add, List.nil_append] at ho
    obtain ⟨A2, c2, rfl, _⟩ := own_rd ho
    exact ⟨(A2, n, c2), rfl, ho, hu⟩
end Go.Proofs.Ytdnkdmdmekdfkaa
namespace Go.Proofs.Ytdnkdmdmekdfkaa
open Go.RowKit
theorem own_setk {w : World} {base e size n c g : Nat} {xs : List Value} (h : w.ownsRow base e size (.slice (some ⟨g, 0, none⟩) n c) n xs) (k : Nat) (hk : k < xs.length) (v : Value) :
    (w.setCell ⟨g, k, none⟩ v).ownsRow base e size (.slice (some ⟨g, 0, none⟩) n c) n (xs.set k v) ∧ w.frozen? ⟨g, k, none⟩ = false ∧ w.cell? ⟨g, k, none⟩ = xs[k]? := by
  obtain ⟨hlen, ⟨hv, _⟩ | ⟨g', cap, cur, hv, hbg, hg, hnc, hcm, hcs, ht⟩⟩ := h
  · cases hv
  · simp only [Value.slice.injEq, Option.some.injEq, Addr.mk.injEq, and_true, true_and] at hv
    obtain ⟨rfl, rfl⟩ := hv
    refine ⟨⟨by rw [List.length_set]; exact hlen, .inr ⟨g, c, cur.set! k v, rfl, hbg, heap_setCell_same w g k _ _ _ hg, hnc, hcm, by simpa using hcs, ?_⟩⟩, by simp [World.frozen?, hg], ?_⟩
    · rw [← ht]
      simp only [Array.set!_eq_setIfInBounds, Array.toList_setIfInBounds, List.take_set]
    · rw [World.cell?, hg, ← ht, List.getElem?_take, if_pos (by omega)]
      simp
theorem ec_set (a : List E4) (e : E4) (b : List E4) (j : Nat) (hj : a.length = j) (s : Sl) : (ec (a ++ e :: b)).set (j * 2 + 1) (.slice s.1 s.2.1 s.2.2) = ec (a ++ (e.1, s) :: b) := by
  subst hj
  rw [ec_append, ec_append, List.set_append_right _ _ (by rw [ec_length]; omega), ec_length]
  rw [show a.length * 2 + 1 - a.length * 2 = 1 by omega]
  rfl
theorem ec_at (a : List E4) (e : E4) (b : List E4) (j : Nat) (hj : a.length = j) : (ec (a ++ e :: b))[j * 2]? = some (.int .u32 e.1) ∧ (ec (a ++ e :: b))[j * 2 + 1]? = some (.slice e.2.1 e.2.2.1 e.2.2.2) := by
  subst hj
  have := ec_get (a ++ e :: b) a.length (by simp)
  simpa using this
theorem Al.snoc {R : Sl → List C4 → Prop} {es : List E4} {L : List Et} (h : Al R es L) {e : E4} {x : Et} (h1 : e.1 = x.1) (h2 : R e.2 x.2) : Al R (es ++ [e]) (L ++ [x]) := h.append (Al.one h1 h2)
set_option maxRecDepth 4000 in
set_option maxHeartbeats 4000000 in
theorem Copy_any (A : Option Addr) (n c : Nat) (L : List Et) (w : World) (h : EnL w A n L) (hn : n ≤ 100000) (hs : ∀ x ∈ L, x.2.length ≤ 100000) : Calls Try.prog 33 #[.slice A n c] w fun e w' => (∃ s : Sl, e = .returned (.slice s.1 s.2.1 s.2.2) ∧ EnN w.heap.size w' (.slice s.1 s.2.1 s.2.2) L) ∧ New w w' := by
  obtain ⟨hl, hnil, es, hr, hal⟩ := h
  have hel := hal.len
  have HC := Bx.mk (CloneE_any A n c es w (by omega) hnil hr hn)
  have HAL := Bx.mk hal
  have HL := Bx.mk hl
  have HEL := Bx.mk hel
  clear hal hl hel hr hnil
  go_enter Try.func33, Try.ntmps33
  go_upto_block 0 with (first
    | (go_at_call 60; (with_reducible refine (HC.out).mono ?_); rintro e2 w2 ⟨⟨z0, z1, z2⟩, rfl, ho, hu2⟩; dsimp only))
  dsimp only at ho
  obtain ⟨_, c3, e3, _⟩ := own_rd ho
  simp only [Value.slice.injEq] at e3
  obtain ⟨rfl, rfl, rfl⟩ := e3
  have HO := Bx.mk ho
  have HU2 := Bx.mk hu2
  clear ho hu2 HC
  repeat' (first | fail | go_values | go_skip | go_guarded | go_step | go_upon | go_back)
  go_loopw [10] (fun i wr => ∃ (j : Nat) (a : List E4), j ≤ z1 ∧ i = .int .i64 j ∧ a.length = j ∧ Bx (wr.ownsRow w.heap.size 43 2 (.slice z0 z1 z2) z1 (ec (a ++ es.drop j))) ∧ Bx (Al (Cn w.heap.size wr) a (L.take j)) ∧ Bx (New w wr)) (fun i _ => z1 - (intOf i).toNat)
  case atStart => exact ⟨0, [], by omega, rfl, rfl, HO, ⟨trivial⟩, HU2⟩
  case round =>
    clear HO
    obtain ⟨j, a, hj, rfl, ha, HO, HA, HU⟩ := hrel
    by_cases hlt : j < z1
    · have hjL : j < L.length := by rw [HL.out]; exact hlt
      have hjE : j < es.length := by rw [HEL.out]; exact hjL
      have hji : (j : Int) < (z1 : Int) := by omega
      have hd := List.drop_eq_getElem_cons hjE
      obtain ⟨k0, k1⟩ := HAL.out.get j hjL hjE
      have HT := Bx.mk (List.take_succ_eq_append_getElem hjL)
      have hq := hs L[j] (List.getElem_mem hjL)
      have ho := HO.out
      rw [hd] at ho
      generalize es[j] = e at *
      generalize L[j] = x at *
      obtain ⟨i, s0, s1, s2⟩ := e
      obtain ⟨i', l⟩ := x
      dsimp only at k0 k1 hq
      subst k0
      obtain ⟨g, c', e1, hbg, _⟩ := own_some ho (by omega)
      simp only [Value.slice.injEq, true_and] at e1
      obtain ⟨rfl, rfl⟩ := e1
      obtain ⟨q0, q1⟩ := ec_at a (i, s0, s1, s2) (es.drop (j + 1)) j ha
      have hlen : (ec (a ++ (i, s0, s1, s2) :: es.drop (j + 1))).length = z1 * 2 := own_len ho
      have g0 : wr.cell? ⟨g, j * 2, none⟩ = some (.int .u32 i) := ((own_setk ho (j * 2) (by omega) undef).2.2).trans q0
      have g1 : wr.cell? ⟨g, j * 2 + 1, none⟩ = some (.slice s0 s1 s2) := ((own_setk ho (j * 2 + 1) (by omega) undef).2.2).trans q1
      obtain ⟨n0, n1⟩ := e2_new wr i s0 s1 s2
      have hA := (Upd.refl Nowhere wr).alloc (.cells #[.int .u32 i, .slice s0 s1 s2] 43)
      have HCL := Bx.mk (CloneC_any s0 s1 s2 l _ (k1.new (HU.out.trans hA)) hq)
      have HOW := Bx.mk ho
      clear ho hd q0 q1 k1 HO
      repeat' (first | (go_at_call 42; (with_reducible refine (HCL.out).mono ?_); rintro e5 w5 ⟨⟨m0, m1, m2⟩, rfl, hcn, hu5⟩; have ho5 := own_new HOW.out (hA.trans hu5); have f5 := (own_setk ho5 (j * 2 + 1) (by rw [hlen]; omega) (.slice m0 m1 m2)).2.1; have f7 := (hA.trans hu5).cell g1 (fun q => q); dsimp only) | go_values | go_skip | go_guarded | go_step | go_upon | go_back)
      have HO5 := Bx.mk ho5
      have HCN := Bx.mk (hcn.lower (show w.heap.size ≤ _ from (HU.out.trans hA).size))
      have kO : Only 43 w5 (w5.setCell ⟨g, j * 2 + 1, none⟩ (.slice m0 m1 m2)) := Only.of_app ho5 ((upd_set w5 g (j * 2 + 1) _).mono fun b hb => by rw [hb]; rfl)
      clear ho5 hcn f5 f7
      go_roundw
      case rel =>
        refine ⟨j + 1, a ++ [(i, m0, m1, m2)], by omega, by go_num, by rw [List.length_append, ha]; rfl, ⟨?_⟩, ⟨?_⟩, ⟨((HU.out.trans hA).trans hu5).setCell (p := ⟨g, j * 2 + 1, none⟩) (.inr hbg) _⟩⟩
        · have := (own_setk HO5.out (j * 2 + 1) (by rw [hlen]; omega) (.slice m0 m1 m2)).1
          rw [ec_set a _ _ j ha (m0, m1, m2)] at this
          rw [List.append_assoc]
          exact this
        · rw [HT.out]
          exact (HA.out.map fun _ _ q => kO.cn (q.new (hA.trans hu5)) (by decide)).snoc rfl (kO.cn HCN.out (by decide))
      case measure => simp [intOf]; omega
    · obtain rfl : j = z1 := by omega
      have HF := Bx.mk (show EnN w.heap.size wr (.slice z0 j z2) L from ⟨a, by
        have := HO.out
        rw [List.drop_of_length_le (by rw [HEL.out, HL.out]; exact Nat.le_refl _), List.append_nil] at this
        rw [HL.out]; exact this, by
        have := HA.out
        rwa [List.take_of_length_le (by rw [HL.out]; exact Nat.le_refl _)] at this⟩)
      repeat' (first | fail | go_values | go_skip | go_guarded | go_step | go_upon | go_back)
      go_returns
      exact ⟨⟨(z0, j, z2), rfl, HF.out⟩, HU.out⟩
end Go.Proofs.Ytdnkdmdmekdfkaa
namespace Go.Proofs.Ytdnkdmdmekdfkaa
open Go.RowKit
theorem o2_at {w : World} {B T : Nat} {a b : Value} (h : w.heap[B]? = some (.cells #[a, b] T (0, 0))) : w.cell? ⟨B, 0, none⟩ = some a ∧ w.cell? ⟨B, 1, none⟩ = some b ∧ ∀ o, w.frozen? ⟨B, o, none⟩ = false := by
  refine ⟨by rw [World.cell?, h]; rfl, by rw [World.cell?, h]; rfl, fun o => by simp [World.frozen?, h]⟩
theorem o2_set {w : World} {B T : Nat} {a b : Value} (h : w.heap[B]? = some (.cells #[a, b] T (0, 0))) (x y : Value) : ((w.setCell ⟨B, 0, none⟩ x).setCell ⟨B, 1, none⟩ y).heap[B]? = some (.cells #[x, y] T (0, 0)) :=
  heap_setCell_same _ B 1 _ _ y (heap_setCell_same _ B 0 _ _ x h)
theorem upd_set2 (w : World) (B : Nat) (x y : Value) : Upd (fun b => b = B) w ((w.setCell ⟨B, 0, none⟩ x).setCell ⟨B, 1, none⟩ y) :=
  ((Upd.refl (fun b => b = B) w).setCell (p := ⟨B, 0, none⟩) (.inl rfl) x).setCell (p := ⟨B, 1, none⟩) (.inl rfl) y
theorem ccells_append (a b : List C4) : ccells (a ++ b) = ccells a ++ ccells b := List.flatMap_append
def keepQ (lost : BitVec 8) (x : C4) : Bool := !(decide (x.k < 6) && lost.getLsbD x.k)
def turnF (st : List C4) (x : C4) : C4 := (fnd st x.k).getD x
def turnA (lost : BitVec 8) (st : List C4) (l : List C4) : List C4 := (l.filter (keepQ lost)).map (turnF st)
def turnL (l : List C4) (c : Ch) : List C4 := turnA c.lost c.st l ++ c.nw
theorem turnA_take (lost : BitVec 8) (st l : List C4) (j : Nat) (h : j < l.length) : turnA lost st (l.take (j + 1)) = turnA lost st (l.take j) ++ (if keepQ lost l[j] = true then [turnF st l[j]] else []) := by
  unfold turnA
  rw [List.take_succ_eq_append_getElem h, List.filter_append, List.map_append, List.filter_cons, List.filter_nil]
  split <;> rfl
theorem turnA_len (lost : BitVec 8) (st l : List C4) : (turnA lost st l).length ≤ l.length := by
  unfold turnA; rw [List.length_map]; exact List.length_filter_le _ _
theorem bit_is (y : BitVec 8) (k : Nat) : (bits .and .u8 ((y.toNat : Int) / 2 ^ k) 1 == 1) = y.getLsbD k := by
  have e : ((y.toNat : Int) / 2 ^ k) = ((y.toNat / 2 ^ k : Nat) : Int) := by rw [Int.natCast_ediv, Int.natCast_pow]; rfl
  have hlt : y.toNat / 2 ^ k < 256 := Nat.lt_of_le_of_lt (Nat.div_le_self _ _) y.isLt
  have h := Go.u8_and_nat (y.toNat / 2 ^ k) 1 hlt (by omega)
  rw [e, show (1 : Int) = ((1 : Nat) : Int) from rfl, h, Nat.and_one_is_mod, BitVec.getLsbD, Nat.testBit, Nat.shiftRight_eq_div_pow, Nat.one_and_eq_mod_two]
  rcases Nat.mod_two_eq_zero_or_one (y.toNat / 2 ^ k) with h | h <;> rw [h] <;> rfl
set_option maxRecDepth 4000 in
set_option maxHeartbeats 16000000 in
theorem turn_any (i : Nat) (s0 : Option Addr) (s1 s2 : Nat) (l : List C4) (id0 : Nat) (C : Ch) (u0 : Option Addr) (u1 u2 : Nat) (v0 : Option Addr) (v1 v2 : Nat) (w : World) (hc : Co w (s0, s1, s2) l) (hu : Co w (u0, u1, u2) C.nw) (hv : Co w (v0, v1, v2) C.st) (hl : l.length ≤ 1000) (hn : C.nw.length ≤ 1000) (hs : C.st.length ≤ 1000) (hk : ∀ q ∈ l, q.k < 256) :
    Calls Try.prog 28 #[.agg #[.int .u32 i, .slice s0 s1 s2], .agg #[.int .u32 id0, .int .u8 C.lost.toNat, .slice u0 u1 u2, .slice v0 v1 v2]] w fun e w' => (∃ (t : Sl) (l' : List C4), e = .returned (.agg #[.int .u32 i, .slice t.1 t.2.1 t.2.2]) ∧ Cn w.heap.size w' t l' ∧ (turnL l C).Perm l' ∧ l'.Pairwise (fun x y => x.k ≤ y.k)) ∧ New w w' := by
  obtain ⟨_, lo, NW, ST⟩ := C
  dsimp only at hu hv hn hs ⊢
  have hTL := Bx.mk (show ∀ l' : List C4, (turnL l ⟨id0, lo, NW, ST⟩).Perm l' → True from fun _ _ => trivial)
  obtain ⟨b0, b1⟩ := e2_new w i s0 s1 s2
  have U0 := (Upd.refl Nowhere w).alloc (.cells #[.int .u32 i, .slice s0 s1 s2] 43)
  have hb3 := heap_alloc_new (w.alloc (.cells #[.int .u32 i, .slice s0 s1 s2] 43)) (.cells #[.int .u32 id0, .int .u8 lo.toNat, .slice u0 u1 u2, .slice v0 v1 v2] 57)
  have U1 := (Upd.refl Nowhere (w.alloc (.cells #[.int .u32 i, .slice s0 s1 s2] 43))).alloc (.cells #[.int .u32 id0, .int .u8 lo.toNat, .slice u0 u1 u2, .slice v0 v1 v2] 57)
  have hb4 := heap_alloc_new ((w.alloc (.cells #[.int .u32 i, .slice s0 s1 s2] 43)).alloc (.cells #[.int .u32 id0, .int .u8 lo.toNat, .slice u0 u1 u2, .slice v0 v1 v2] 57)) (.cells #[.int .u32 0, .slice none 0 0] 43)
  have U2 := (Upd.refl Nowhere ((w.alloc (.cells #[.int .u32 i, .slice s0 s1 s2] 43)).alloc (.cells #[.int .u32 id0, .int .u8 lo.toNat, .slice u0 u1 u2, .slice v0 v1 v2] 57))).alloc (.cells #[.int .u32 0, .slice none 0 0] 43)
  have z1 : (w.alloc (.cells #[.int .u32 i, .slice s0 s1 s2] 43)).heap.size = w.heap.size + 1 := by simp
  have z2 : ((w.alloc (.cells #[.int .u32 i, .slice s0 s1 s2] 43)).alloc (.cells #[.int .u32 id0, .int .u8 lo.toNat, .slice u0 u1 u2, .slice v0 v1 v2] 57)).heap.size = w.heap.size + 1 + 1 := by simp
  rw [z1] at hb3
  rw [z2] at hb4
  have c0 := U2.cell (U1.cell b0 (fun q => q)) (fun q => q)
  have c1 := U2.cell (U1.cell b1 (fun q => q)) (fun q => q)
  have hb3' := U2.blk hb3 (fun q => q)
  have hU := (U0.trans U1).trans U2
  have hB := show w.heap.size ≤ w.heap.size + 1 + 1 by omega
  clear U0 U1 U2 z1 z2 b0 b1 hb3
  go_enter Try.func28, Try.ntmps28
  go_upto_block 0 with (fail)
  generalize ((w.alloc (.cells #[.int .u32 i, .slice s0 s1 s2] 43)).alloc (.cells #[.int .u32 id0, .int .u8 lo.toNat, .slice u0 u1 u2, .slice v0 v1 v2] 57)).alloc (.cells #[.int .u32 0, .slice none 0 0] 43) = w1 at *
  generalize w.heap.size + 1 + 1 = B4 at *
  generalize w.heap.size + 1 = B3 at *
  generalize hB0 : w.heap.size = B2 at *
  have HB0 := Bx.mk hB0
  have H3 := Bx.mk hb3'
  have H4 := Bx.mk hb4
  have HU := Bx.mk hU
  have HC := Bx.mk (hc.new hU)
  have HV := Bx.mk (hv.new hU)
  have HW := Bx.mk (hu.new hU)
  have HL := Bx.mk (show l.length = s1 from hc.len)
  have HBB := Bx.mk hB
  have hs1 : s1 ≤ 1000 := by have := HL.out; omega
  clear hB0 hb3' hb4 hU hc hv hu hB
  repeat' (first | fail | go_values | go_skip | go_guarded | go_step | go_upon | go_back)
  go_loopw [5, 13] (fun o iv wr => ∃ (j : Nat) (o0 : Option Addr) (o1 o2 : Nat), j ≤ s1 ∧ iv = .int .i64 j ∧ o = .slice o0 o1 o2 ∧ Bx (Cn w1.heap.size wr (o0, o1, o2) (turnA lo ST (l.take j))) ∧ Bx (New w1 wr)) (fun _ iv _ => s1 - (intOf iv).toNat)
  case atStart => exact ⟨0, none, 0, 0, by omega, rfl, rfl, ⟨World.ownsRow_nil _ _ _ _⟩, ⟨Upd.refl _ _⟩⟩
  case round =>
    obtain ⟨j, o0, o1, o2, hj, rfl, rfl, HO, HN⟩ := hrel
    by_cases hlt : j < s1
    · have hjL : j < l.length := by rw [HL.out]; exact hlt
      have hji : (j : Int) < (s1 : Int) := by omega
      obtain ⟨eb, eo, rfl, h0, h1, h2, h3⟩ := (HC.out.new HN.out).rd.four j hjL
      have HT := Bx.mk (turnA_take lo ST l j hjL)
      have hkq := hk l[j] (List.getElem_mem hjL)
      have hlen : (turnA lo ST (l.take j)).length ≤ 1000 := Nat.le_trans (turnA_len _ _ _) (by rw [List.length_take]; omega)
      generalize l[j] = q at *
      obtain ⟨k, a, b, c'⟩ := q
      dsimp only at h0 h1 h2 h3 hkq
      obtain ⟨m0, m1, m2, m3⟩ := c4_new wr k a b c'
      have hA := (Upd.refl Nowhere wr).alloc (.cells #[.int .u8 k, .int .i32 a, .int .i32 b, .int .i32 c'] 46)
      have hbox := heap_alloc_new wr (.cells #[.int .u8 k, .int .i32 a, .int .i32 b, .int .i32 c'] 46)
      have hNA := HN.out.trans hA
      obtain ⟨y0, y1, y2, y3, _⟩ := o4_at (hNA.blk H3.out (fun q => q))
      obtain ⟨DD, hDD⟩ : ∃ D, (decide (k < 6) && lo.getLsbD k) = D := ⟨_, rfl⟩
      have HKQ := Bx.mk (show keepQ lo ⟨k, a, b, c'⟩ = !DD by rw [← hDD]; rfl)
      have HDD := Bx.mk hDD
      have HBit := Bx.mk (bit_is lo k)
      clear hDD
      go_upto_region 5 with (fail)
      go_cut [28] (fun v wx => v = .bool DD ∧ wx = wr.alloc (.cells #[.int .u8 k, .int .i32 a, .int .i32 b, .int .i32 c'] 46))
      case first =>
        by_cases hk6 : k < 6
        · have hk6I : (k : Int) < 6 := by omega
          have hbb := HBit.out
          have hD := HDD.out
          rw [decide_eq_true hk6, Bool.true_and] at hD
          rw [hD] at hbb
          clear hD hk6
          repeat' (first | fail | go_values | go_skip | go_guarded | go_step | go_upon | go_back)
          go_meet
          case rel => exact ⟨by first | rfl | rw [hbb], rfl⟩
        · have hk6I : ¬ (k : Int) < 6 := by omega
          have hD := HDD.out
          rw [decide_eq_false hk6, Bool.false_and] at hD
          subst hD
          clear hk6
          repeat' (first | fail | go_values | go_skip | go_guarded | go_step | go_upon | go_back)
          go_meet
          case rel => exact ⟨rfl, rfl⟩
      case rest =>
        obtain ⟨rfl, hw⟩ := hcut
        subst hw
        cases DD with
        | true =>
          have HT2 := Bx.mk (show turnA lo ST (l.take (j + 1)) = turnA lo ST (l.take j) by rw [HT.out, if_neg (by rw [HKQ.out]; exact Bool.false_ne_true), List.append_nil])
          clear HT HKQ HDD HBit
          repeat' (first | fail | go_values | go_skip | go_guarded | go_step | go_upon | go_back)
          go_roundw
          case rel => exact ⟨j + 1, o0, o1, o2, by omega, by go_num, rfl, ⟨by rw [HT2.out]; exact HO.out.new hA⟩, ⟨hNA⟩⟩
          case measure => simp [intOf]; omega
        | false =>
          have HT2 := Bx.mk (show turnA lo ST (l.take (j + 1)) = turnA lo ST (l.take j) ++ [turnF ST ⟨k, a, b, c'⟩] by rw [HT.out, if_pos (by rw [HKQ.out]; rfl)])
          clear HT HKQ HDD HBit
          have HF := Bx.mk (fun (w' : World) (kk : New w1 w') => find_any v0 v1 v2 ST k w' (HV.out.new kk) hs)
          have HTF := Bx.mk (show turnF ST ⟨k, a, b, c'⟩ = (fnd ST k).getD ⟨k, a, b, c'⟩ from rfl)
          cases hF : fnd ST k with
          | none =>
            rw [hF] at HF HTF
            have HFN := Bx.mk (fun w' (kk : New w1 w') => (HF.out w' kk).mono (R' := fun e w2 => e = .returned (.tuple #[.agg #[.int .u8 zC.k, .int .i32 zC.a, .int .i32 zC.b, .int .i32 zC.c], .bool false]) ∧ New w' w2) fun e w2 ⟨⟨X, hX, he⟩, hu⟩ => ⟨by rw [he, hX]; rfl, hu⟩)
            have HT3 := Bx.mk (show turnA lo ST (l.take (j + 1)) = turnA lo ST (l.take j) ++ [⟨k, a, b, c'⟩] by rw [HT2.out, HTF.out]; rfl)
            clear HF hF HTF HT2
            have hs1' := fun w B => src_oneB (P := Try.prog) (w := w) Try.underlying41 [.int .u8 k, .int .i32 a, .int .i32 b, .int .i32 c'] 4 rfl (cc_one ⟨k, a, b, c'⟩) B
            repeat' (first | (first
              | (go_at_call 49; (with_reducible refine (HFN.out _ hNA).mono ?_); rintro e w2 ⟨rfl, hu2⟩; (have hX := ((Upd.refl Nowhere w2).alloc (.cells #[.int .u8 zC.k, .int .i32 zC.a, .int .i32 zC.b, .int .i32 zC.c] 46)); obtain ⟨p0, p1, p2, p3, pf⟩ := o4_at ((hu2.trans hX).blk hbox (fun q => q)); have hv3 := ((hA.trans hu2).trans hX).alloc (.cells #[.int .u8 k, .int .i32 a, .int .i32 b, .int .i32 c'] 46); have ho1 := own_new HO.out hv3; have hv4 := HN.out.trans hv3); dsimp only)
              | (at_builtin; refine wpList_appN _ rfl _ _ 41 41 rfl _ 46 (.agg #[.int .u8 0, .int .i32 0, .int .i32 0, .int .i32 0]) 4 16 Try.underlying41 infoC rfl _ _ _ ho1 rfl _ _ _ (hs1' _ _ (by simp)) rfl _ hv4 ?c1 ?c2 ?_; (case c1 => unfold maxLen; omega); (case c2 => omega); intro v5 w5 ho5 hu5 hk5 hv5); (obtain ⟨A5, c5, rfl, _⟩ := own_rd ho5)) | go_values | go_skip | go_guarded | go_step | go_upon | go_back)
            go_roundw
            case rel => exact ⟨j + 1, A5, _, c5, by omega, by go_num, rfl, ⟨by unfold Cn; rw [HT3.out, List.length_append, ccells_snoc]; exact ho5⟩, ⟨hu5⟩⟩
            case measure => simp [intOf]; omega
          | some X =>
            rw [hF] at HF HTF
            obtain ⟨Xk, Xa, Xb, Xc⟩ := X
            have HFN := Bx.mk (fun w' (kk : New w1 w') => (HF.out w' kk).mono (R' := fun e w2 => e = .returned (.tuple #[.agg #[.int .u8 Xk, .int .i32 Xa, .int .i32 Xb, .int .i32 Xc], .bool true]) ∧ New w' w2) fun e w2 ⟨⟨X, hX, he⟩, hu⟩ => ⟨by rw [he, hX]; rfl, hu⟩)
            have HT3 := Bx.mk (show turnA lo ST (l.take (j + 1)) = turnA lo ST (l.take j) ++ [⟨Xk, Xa, Xb, Xc⟩] by rw [HT2.out, HTF.out]; rfl)
            clear HF hF HTF HT2
            have hs1' := fun w B => src_oneB (P := Try.prog) (w := w) Try.underlying41 [.int .u8 Xk, .int .i32 Xa, .int .i32 Xb, .int .i32 Xc] 4 rfl (cc_one ⟨Xk, Xa, Xb, Xc⟩) B
            go_upto_region 9 with (first
              | (go_at_call 49; (with_reducible refine (HFN.out _ hNA).mono ?_); rintro e w2 ⟨rfl, hu2⟩; (have hX := ((Upd.refl Nowhere w2).alloc (.cells #[.int .u8 Xk, .int .i32 Xa, .int .i32 Xb, .int .i32 Xc] 46)); have hob8 := (hu2.trans hX).blk hbox (fun q => q); obtain ⟨p0, p1, p2, p3, pf⟩ := o4_at hob8; obtain ⟨r0, r1, r2, r3, rf⟩ := o4_at (heap_alloc_new w2 (.cells #[.int .u8 Xk, .int .i32 Xa, .int .i32 Xb, .int .i32 Xc] 46))); dsimp only))
            have h8 := o4_set hob8 (.int .u8 Xk) (.int .i32 Xa) (.int .i32 Xb) (.int .i32 Xc)
            have hU8 := upd_set4 (w2.alloc (.cells #[.int .u8 Xk, .int .i32 Xa, .int .i32 Xb, .int .i32 Xc] 46)) wr.heap.size (.int .u8 Xk) (.int .i32 Xa) (.int .i32 Xb) (.int .i32 Xc)
            have hN8 := new_set4 (((hNA.trans hu2).trans hX)) HN.out.size (.int .u8 Xk) (.int .i32 Xa) (.int .i32 Xb) (.int .i32 Xc)
            have hO8 : Cn w1.heap.size _ (o0, o1, o2) (turnA lo ST (l.take j)) := own_upd (own_new HO.out ((hA.trans hu2).trans hX)) hU8 (fun b hb q => by have := (HO.out.lt b hb).2; omega)
            clear p0 p1 p2 p3 pf r0 r1 r2 r3 rf hob8 hU8
            generalize ((((w2.alloc (.cells #[.int .u8 Xk, .int .i32 Xa, .int .i32 Xb, .int .i32 Xc] 46)).setCell ⟨wr.heap.size, 0, none⟩ (.int .u8 Xk)).setCell ⟨wr.heap.size, 1, none⟩ (.int .i32 Xa)).setCell ⟨wr.heap.size, 2, none⟩ (.int .i32 Xb)).setCell ⟨wr.heap.size, 3, none⟩ (.int .i32 Xc) = w8 at *
            obtain ⟨p0, p1, p2, p3, pf⟩ := o4_at h8
            have hv3 := (Upd.refl Nowhere w8).alloc (.cells #[.int .u8 Xk, .int .i32 Xa, .int .i32 Xb, .int .i32 Xc] 46)
            have ho1 := own_new hO8 hv3
            have hv4 := hN8.trans hv3
            repeat' (first | (first
              | (at_builtin; refine wpList_appN _ rfl _ _ 41 41 rfl _ 46 (.agg #[.int .u8 0, .int .i32 0, .int .i32 0, .int .i32 0]) 4 16 Try.underlying41 infoC rfl _ _ _ ho1 rfl _ _ _ (hs1' _ _ rfl) rfl _ hv4 ?c1 ?c2 ?_; (case c1 => unfold maxLen; omega); (case c2 => omega); intro v5 w5 ho5 hu5 hk5 hv5); (obtain ⟨A5, c5, rfl, _⟩ := own_rd ho5)) | go_values | go_skip | go_guarded | go_step | go_upon | go_back)
            go_roundw
            case rel => exact ⟨j + 1, A5, _, c5, by omega, by go_num, rfl, ⟨by unfold Cn; rw [HT3.out, List.length_append, ccells_snoc]; exact ho5⟩, ⟨hu5⟩⟩
            case measure => simp [intOf]; omega
    · obtain rfl : j = s1 := by omega
      have HT := Bx.mk (show l.take j = l from List.take_of_length_le (by rw [HL.out]; exact Nat.le_refl _))
      rw [HT.out] at HO
      have hlen : (turnA lo ST l).length ≤ 1000 := Nat.le_trans (turnA_len _ _ _) hl
      have hji : ¬ (j : Int) < (j : Int) := by omega
      obtain ⟨y0, y1, y2, y3, _⟩ := o4_at (HN.out.blk H3.out (fun q => q))
      have hsrc := (HW.out.new HN.out).rd.src (P := Try.prog) (n := u1) (c := u2) (size := 4) Try.underlying41 HW.out.nil (by rw [ccells_length, HW.out.len]) (ccells_one NW)
      have hu1 : NW.length = u1 := HW.out.len
      have ho1 := HO.out
      unfold Cn at ho1
      dsimp only at ho1
      have hN := HN.out
      go_upto_region 12 with (first
        | (at_builtin; refine wpList_appN _ rfl _ _ 41 41 rfl _ 46 (.agg #[.int .u8 0, .int .i32 0, .int .i32 0, .int .i32 0]) 4 16 Try.underlying41 infoC rfl _ _ _ ho1 rfl _ _ _ hsrc rfl _ hN ?c1 ?c2 ?_; (case c1 => unfold maxLen; omega); (case c2 => omega); intro v5 w5 ho5 hu5 hk5 hv5); (obtain ⟨A5, c5, rfl, _⟩ := own_rd ho5))
      obtain ⟨PRE, hPRE⟩ : ∃ P, turnA lo ST l ++ NW = P := ⟨_, rfl⟩
      have HPRE := Bx.mk hPRE
      have hpl : PRE.length = (turnA lo ST l).length + u1 := by rw [← hPRE, List.length_append, hu1]
      rw [← ccells_append, hPRE] at ho5
      have ho6 : w5.ownsRow w1.heap.size 46 4 (.slice A5 ((turnA lo ST l).length + u1) c5) ((turnA lo ST l).length + u1) (PRE.flatMap encC) := ho5
      have HSO := Bx.mk (sortC_any ho6 hpl (by omega))
      have HO6 := Bx.mk ho6
      generalize (turnA lo ST l).length + u1 = m at *
      clear hPRE ho5 ho1 hsrc hk5 hv5 ho6
      repeat' (first | (go_at_call 50; (with_reducible refine (HSO.out).mono ?_); rintro e7 w7 ⟨rfl, l', ho7, hp7, hs7, hu7⟩; have hN7 : New w1 w7 := hu5.then hu7 (fun b hb => .inr (own_ge HO6.out b hb)); have g0 := hN7.cell c0 (fun q => q); have H47 := Bx.mk (hN7.blk H4.out (fun q => q)); obtain ⟨r0, r1, rf⟩ := o2_at H47.out; dsimp only) | go_values | go_skip | go_guarded | go_step | go_upon | go_back)
      refine bodyPost_ret (results_cell_row Try.results28 _ _ B4 _ _ (0, 0) _ rfl (o2_set H47.out _ _) Try.underlying43 rfl (by kernel_rfl)) rfl ?_
      have hm : l'.length = m := by rw [← hpl]; exact hp7.length_eq.symm
      have hB2 : B2 ≤ w1.heap.size := by have := HU.out.size; rw [HB0.out] at this; exact this
      refine ⟨⟨(A5, m, c5), l', rfl, ?_, ?_, hs7⟩, ((HU.out.trans hN7).setCell (p := ⟨B4, 0, none⟩) (.inr (by rw [HB0.out]; exact HBB.out)) _).setCell (p := ⟨B4, 1, none⟩) (.inr (by rw [HB0.out]; exact HBB.out)) _⟩
      · rw [HB0.out]
        refine (Only.of_obj H47.out (upd_set2 _ _ _ _)).cn (Cn.lower ?_ hB2) (by decide)
        unfold Cn; dsimp only; rw [hm]; exact ho7
      · show (turnA lo ST l ++ NW).Perm l'
        rw [HPRE.out]; exact hp7
end Go.Proofs.Ytdnkdmdmekdfkaa
