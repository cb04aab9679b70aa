/- Few, Twins, Clone: walks. -/
import Derived.Test.YtdnkdmdmekdfkaaDf1
import Derived.Deep.RegionLaw
import Derived.Lib.SliceRun
namespace Go.Proofs.Ytdnkdmdmekdfkaa
open Go.RowKit
def sumL (L : List Et) : Nat := (L.map fun x => x.2.length).sum
theorem sumL_take (L : List Et) (j : Nat) (h : j < L.length) : sumL (L.take (j + 1)) = sumL (L.take j) + L[j].2.length := by
  unfold sumL
  rw [List.take_succ_eq_append_getElem h, List.map_append, List.sum_append]
  simp
theorem sumL_le (L : List Et) (j : Nat) : sumL (L.take j) ≤ sumL L := by
  conv => rhs; rw [← List.take_append_drop j L]
  unfold sumL
  rw [List.map_append, List.sum_append]; omega
def few (L : List Et) : Bool := decide (L.length + sumL L ≤ 400)
set_option maxHeartbeats 4000000 in
theorem Few_any (A : Option Addr) (n c : Nat) (L : List Et) (w : World) (h : EnL w A n L) (hn : n + sumL L ≤ 1000000000) : Calls Try.prog 9 #[.slice A n c] w fun e w' => e = .returned (.bool (few L)) ∧ New w w' := by
  have HL := Bx.mk h.len
  go_enter Try.func9, Try.ntmps9
  repeat' (first | fail | go_values | go_skip | go_guarded | go_step | go_upon | go_back)
  go_loopw [3, 10] (fun s i wr => ∃ (j t : Nat), j ≤ n ∧ i = .int .i64 j ∧ s = .int .i64 t ∧ Bx (t = n + sumL (L.take j)) ∧ New w wr) (fun _ i _ => n - (intOf i).toNat)
  case atStart => exact ⟨0, n, by omega, rfl, rfl, ⟨rfl⟩, Upd.refl _ _⟩
  case round =>
    obtain ⟨j, t, hj, rfl, rfl, HJ, hN⟩ := hrel
    by_cases hlt : j < n
    · have hjL : j < L.length := by rw [HL.out]; exact hlt
      obtain ⟨b0, off, s0, s1, s2, rfl, h0, h1, hco⟩ := (h.new hN).el j hjL
      have HS := Bx.mk (sumL_take L j hjL)
      have HB := Bx.mk (sumL_le L (j + 1))
      have HC := Bx.mk hco.len
      generalize L[j] = x at *
      obtain ⟨i, l⟩ := x
      dsimp only at h0 h1 HC HS
      have hc2 := HC.out
      have hs2 := HS.out
      have hb2 := HB.out
      have hj2 := HJ.out
      obtain ⟨t2, ht2⟩ : ∃ t2, t + s1 = t2 := ⟨_, rfl⟩
      have wt : IntKind.i64.wrap ((t : Int) + (s1 : Int)) = (t2 : Int) := by rw [IntKind.wrap_i64]; omega
      have HT2 := Bx.mk (show t2 = n + sumL (L.take (j + 1)) by omega)
      clear hc2 hs2 hb2 hj2 ht2 hco
      obtain ⟨n0, n1⟩ := e2_new wr i s0 s1 s2
      have hNa := hN.alloc (.cells #[.int .u32 i, .slice s0 s1 s2] 43)
      repeat' (first | fail | go_values | go_skip | go_guarded | go_step | go_upon | go_back)
      go_roundw
      case rel => exact ⟨j + 1, t2, by omega, by go_num, rfl, HT2, hNa⟩
      case measure => simp [intOf]; omega
    · obtain rfl : j = n := by omega
      have HE := Bx.mk (show few L = decide (t ≤ 400) by rw [few, HJ.out, List.take_of_length_le (by rw [HL.out]; exact Nat.le_refl _), HL.out])
      repeat' (first | fail | go_values | go_skip | go_guarded | go_step | go_upon | go_back)
      go_returns
      refine ⟨?_, hN⟩
      rw [HE.out]
      exact congrArg (fun z => Ending.returned (Value.bool z)) (Bool.eq_iff_iff.2 (by simp only [decide_eq_true_eq]; omega))
/-- components in a row of the call's own -/
def Cn (base : Nat) (w : World) (s : Sl) (l : List C4) : Prop := w.ownsRow base 46 4 (.slice s.1 s.2.1 s.2.2) l.length (ccells l)
theorem Cn.new {base : Nat} {w w' : World} {s : Sl} {l : List C4} (h : Cn base w s l) (k : New w w') : Cn base w' s l := own_new h k
theorem Cn.lower {base base' : Nat} {w : World} {s : Sl} {l : List C4} (h : Cn base w s l) (k : base' ≤ base) : Cn base' w s l := own_lower h k
theorem Cn.co {base : Nat} {w : World} {s : Sl} {l : List C4} (h : Cn base w s l) : Co w s l := by
  obtain ⟨A, n, c⟩ := s
  obtain ⟨A', c', e, h1, h2, h3, h4⟩ := own_rd h
  simp only [Value.slice.injEq] at e
  obtain ⟨rfl, rfl, rfl⟩ := e
  refine ⟨rfl, fun hA => ?_, h3⟩
  dsimp only at hA ⊢
  have h' := h
  unfold Cn at h'
  dsimp only at h'
  by_cases hz : 0 < l.length
  · exact own_none h' hz hA
  · omega
theorem own_apart {w : World} {base base' e e' size size' n n' : Nat} {v v' : Value} {xs xs' : List Value} (h : w.ownsRow base e size v n xs) (h' : w.ownsRow base' e' size' v' n' xs') (hne : e ≠ e') (b : Nat) (hb : v.ownBlock = some b) : ¬ v'.ownBlock = some b := by
  intro hb'
  obtain ⟨_, ⟨rfl, _⟩ | ⟨g1, c1, cur1, rfl, _, hh1, _⟩⟩ := h
  · cases hb
  obtain ⟨_, ⟨rfl, _⟩ | ⟨g2, c2, cur2, rfl, _, hh2, _⟩⟩ := h'
  · cases hb'
  simp only [Value.ownBlock, Option.some.injEq] at hb hb'
  subst hb
  subst hb'
  rw [hh1] at hh2
  injection hh2 with hh2
  injection hh2 with _ q
  exact hne q
/-- what is in a row of components stays where a row of another type is written -/
theorem Cn.other {base base' e size n : Nat} {w w' : World} {s : Sl} {l : List C4} {v : Value} {xs : List Value} (h : Cn base w s l) (ho : w.ownsRow base' e size v n xs) (hne : e ≠ 46) (k : Upd (fun b => v.ownBlock = some b) w w') : Cn base w' s l :=
  own_upd h k fun b hb q => own_apart ho h hne b q hb
theorem infoE : (Try.prog.info? 43).map (fun i => (i.zero, i.size, i.bytes)) = some (some (.agg #[.int .u32 0, .slice none 0 0]), 2, 32) := by kernel_rfl
theorem src_one {P : Program} {w : World} {t e : TypeId} (ht : P.underlying t = some (.slice e)) (cs : List Value) (size : Nat) (hs : cs.length = size) (h1 : ∀ u ∈ cs, u.oneCell' = true) : Src P size t (.slice (some ⟨w.heap.size, 0, none⟩) 1 1) 1 cs (w.alloc (.cells cs.toArray e)) :=
  (rd_new w cs e).src ht (by simp) (by rw [hs, Nat.one_mul]) h1
/-- entities of the call's own -/
structure EnN (base : Nat) (w : World) (v : Value) (L : List Et) : Prop where
  ex : ∃ es, w.ownsRow base 43 2 v L.length (ec es) ∧ Al (Cn base w) es L
theorem EnN.grow {base : Nat} {w2 w5 : World} {v v5 : Value} {L : List Et} {es : List E4} (ho : w2.ownsRow base 43 2 v L.length (ec es)) (hal : Al (Cn base w2) es L) (i : Nat) (l : List C4) (A : Option Addr) (n c : Nat) (hx : Cn base w2 (A, n, c) l) (ho5 : w5.ownsRow base 43 2 v5 (L.length + 1) (ec es ++ [.int .u32 i, .slice A n c])) (hk : Upd (fun k => v.ownBlock = some k) w2 w5) : EnN base w5 v5 (L ++ [(i, l)]) := by
  refine ⟨es ++ [(i, A, n, c)], ?_, ?_⟩
  · rw [List.length_append, ec_append]; exact ho5
  · exact (hal.map fun _ _ q => q.other ho (by decide) hk).append (Al.one rfl (hx.other ho (by decide) hk))
theorem EnN.enl {base : Nat} {w : World} {v : Value} {L : List Et} (h : EnN base w v L) : ∃ A c, v = .slice A L.length c ∧ EnL w A L.length L := by
  obtain ⟨es, ho, hal⟩ := h.ex
  obtain ⟨A, c, rfl, h1, h2, h3, h4⟩ := own_rd ho
  refine ⟨A, c, rfl, rfl, fun hA => ?_, es, h3, hal.map fun _ _ q => q.co⟩
  by_cases hz : 0 < L.length
  · exact own_none ho hz hA
  · omega
theorem EnN.new {base : Nat} {w w' : World} {v : Value} {L : List Et} (h : EnN base w v L) (k : New w w') : EnN base w' v L := by
  obtain ⟨es, ho, hal⟩ := h.ex
  exact ⟨es, own_new ho k, hal.map fun _ _ q => q.new k⟩
theorem EnN.lower {base base' : Nat} {w : World} {v : Value} {L : List Et} (h : EnN base w v L) (k : base' ≤ base) : EnN base' w v L := by
  obtain ⟨es, ho, hal⟩ := h.ex
  exact ⟨es, own_lower ho k, hal.map fun _ _ q => q.lower k⟩
set_option maxHeartbeats 4000000 in
theorem Twins_any (A : Option Addr) (n c : Nat) (L : List Et) (w : World) (h : EnL w A n L) (hn : n ≤ 100000) (hs : ∀ x ∈ L, x.2.length ≤ 1000) : Calls Try.prog 11 #[.slice A n c] w fun e w' => ∃ v, e = .returned v ∧ EnN w.heap.size w' v L ∧ New w w' := by
  have HL := Bx.mk h.len
  go_enter Try.func11, Try.ntmps11
  repeat' (first | fail | go_values | go_skip | go_guarded | go_step | go_upon | go_back)
  go_loopw [3, 8] (fun o i wr => ∃ (j : Nat), j ≤ n ∧ i = .int .i64 j ∧ EnN w.heap.size wr o (L.take j) ∧ New w wr) (fun _ i _ => n - (intOf i).toNat)
  case atStart => exact ⟨0, by omega, rfl, ⟨[], World.ownsRow_nil _ _ _ _, trivial⟩, Upd.refl _ _⟩
  case round =>
    obtain ⟨j, hj, rfl, ⟨es, ho, hal⟩, hN⟩ := hrel
    by_cases hlt : j < n
    · have hjL : j < L.length := by rw [HL.out]; exact hlt
      obtain ⟨b0, off, s0, s1, s2, rfl, h0, h1, hco⟩ := (h.new hN).el j hjL
      have HT := Bx.mk (List.take_succ_eq_append_getElem hjL)
      have hq := hs L[j] (List.getElem_mem hjL)
      generalize L[j] = x at *
      obtain ⟨i, l⟩ := x
      dsimp only at h0 h1 hco hq
      obtain ⟨n0, n1⟩ := e2_new wr i s0 s1 s2
      have hA := (Upd.refl Nowhere wr).alloc (.cells #[.int .u32 i, .slice s0 s1 s2] 43)
      have hNa := hN.alloc (.cells #[.int .u32 i, .slice s0 s1 s2] 43)
      have HO := Bx.mk (own_new ho hA)
      have HAL := Bx.mk (hal.map (fun _ _ q => Cn.new q hA))
      have HLE := Bx.mk (show (L.take j).length = j by rw [List.length_take, HL.out]; omega)
      have HCO := Bx.mk (hco.new hA)
      clear ho hal hco
      repeat' (first | fail | go_values | go_skip | go_guarded | go_step | go_upon | go_back)
      have hlj : (L.take j).length ≤ 100000 := by have := HLE.out; omega
      have hls : l.length = s1 := HCO.out.len
      have hsz : w.heap.size ≤ (wr.alloc (.cells #[.int .u32 i, .slice s0 s1 s2] 43)).heap.size := hNa.size
      clear hA
      generalize wr.alloc (.cells #[.int .u32 i, .slice s0 s1 s2] 43) = w1 at *
      generalize wr.heap.size = B at *
      have hd : New w1 w1.drew := (Upd.refl Nowhere w1).drew
      have n0d := hd.cell n0 (fun q => q)
      have n1d := hd.cell n1 (fun q => q)
      have HCO2 := Bx.mk (HCO.out.new hd)
      have HLS := Bx.mk hls
      have hs1 : s1 ≤ 1000 := by omega
      clear hls
      go_region_law (first
        | ((refine step_appN _ rfl _ _ 22 22 rfl _ 43 (.agg #[.int .u32 0, .slice none 0 0]) 2 32 Try.underlying22 infoE rfl _ _ _ ho2 rfl _ _ _ hs2 rfl _ hu3 ?c1 ?c2 ?_; (case c1 => unfold maxLen; omega); (case c2 => omega); intro v5 w5 ho5 hu5 hk5 hv5))
        | (go_simp; (go_at_call 23; (with_reducible refine (Twin_any s0 s1 s2 l _ HLS.out hs1 HCO2.out.nil HCO2.out.rd).mono ?_); rintro e2 w2 ⟨v2, rfl, hv2, hu2⟩; dsimp only); have m0 := hu2.cell n0d (fun q => q); obtain ⟨A2, c2, rfl, _, _, _, _⟩ := own_rd hv2; have hg2 : New w1 (w2.alloc (.cells #[.int .u32 i, .slice A2 s1 c2] 43)) := (hd.trans hu2).alloc _; have hu3 := hNa.trans hg2; have ho2 := own_new HO.out hg2; have hs2 := src_one (P := Try.prog) (w := w2) Try.underlying22 [.int .u32 i, .slice A2 s1 c2] 2 rfl (by intro u hu; simp at hu; rcases hu with rfl | rfl <;> rfl)))
      all_goals (
        have hx5 : Cn w.heap.size w2 (A2, s1, c2) l := by unfold Cn; dsimp only; rw [HLS.out]; exact own_lower hv2 hsz
        have HG := Bx.mk (EnN.grow ho2 (HAL.out.map fun _ _ q => q.new hg2) i l A2 s1 c2 (hx5.new ((Upd.refl _ _).alloc _)) ho5 hk5)
        rw [← HT.out] at HG
        clear ho5 hk5 hv5 ho2 hs2 hv2 hx5
        repeat' (first | fail | go_values | go_skip | go_guarded | go_step | go_upon | go_back)
        go_roundw)
      all_goals first
        | exact ⟨j + 1, by omega, by go_num, HG.out, hu5⟩
        | (simp [intOf]; omega)
    · obtain rfl : j = n := by omega
      have HE := Bx.mk (show L.take j = L from List.take_of_length_le (by rw [HL.out]; exact Nat.le_refl _))
      rw [HE.out] at ho hal
      have HO := Bx.mk ho
      have HAL := Bx.mk hal
      clear ho hal
      repeat' (first | fail | go_values | go_skip | go_guarded | go_step | go_upon | go_back)
      go_returns
      exact ⟨_, rfl, ⟨es, HO.out, HAL.out⟩, hN⟩
set_option maxRecDepth 20000 in
/-- slices.Clone of components -/
theorem CloneC_any (A : Option Addr) (n c : Nat) (l : List C4) (w : World) (h : Co w (A, n, c) l) (hn : l.length ≤ 100000) : Calls Try.prog 42 #[.slice A n c] w fun e w' => ∃ s : Sl, e = .returned (.slice s.1 s.2.1 s.2.2) ∧ Cn w.heap.size w' s l ∧ New w w' := by
  obtain ⟨h1, h2, h3⟩ := h
  dsimp only at h1 h2 h3
  cases A with
  | none =>
    obtain rfl : n = 0 := h2 rfl
    obtain rfl : l = [] := List.eq_nil_of_length_eq_zero h1
    have hq := fun w => Go.Lib.run_eql_slice_nil (P := Try.prog) w 41 46 none 0 c 0 0 Try.underlying41
    go_enter Try.func42, Try.ntmps42
    repeat' (first | fail | go_values | go_skip | go_guarded | go_step | go_upon | go_back)
    go_returns
    exact ⟨(none, 0, 0), rfl, World.ownsRow_nil _ _ _ _, Upd.refl _ _⟩
  | some a =>
    have hl0 := own_lit0 w w.heap.size 46 4 (Nat.le_refl _)
    have hs := (h3.new ((Upd.refl _ w).alloc (.cells #[] 46))).src (P := Try.prog) (n := n) (c := c) (size := 4) Try.underlying41 (fun q => by cases q) (by rw [ccells_length, h1]) (ccells_one l)
    have hq := fun w => Go.Lib.run_eql_slice_nil (P := Try.prog) w 41 46 (some a) n c 0 0 Try.underlying41
    go_enter Try.func42, Try.ntmps42
    repeat' (first | (at_builtin; refine wpList_appN _ rfl _ _ 41 41 rfl _ 46 (.agg #[.int .u8 0, .int .i32 0, .int .i32 0, .int .i32 0]) 4 16 Try.underlying41 infoC rfl _ _ _ hl0 rfl _ _ _ hs rfl _ ((Upd.refl Nowhere w).alloc _) ?c1 ?c2 ?_; (case c1 => unfold maxLen; omega); (case c2 => omega); intro v' w1 ho hu hk hv) | go_values | go_skip | go_guarded | go_step | go_upon | go_back)
    go_returns
    simp only [Nat.zero_add, List.nil_append] at ho
    obtain ⟨A2, c2, rfl, _⟩ := own_rd ho
    exact ⟨(A2, n, c2), rfl, by unfold Cn; dsimp only; rw [h1]; exact ho, hu⟩
end Go.Proofs.Ytdnkdmdmekdfkaa
