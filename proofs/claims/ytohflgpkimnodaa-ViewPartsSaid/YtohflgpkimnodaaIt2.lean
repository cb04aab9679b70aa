/- slices.AppendSeq of IDs: walked. -/
import Derived.Test.YtohflgpkimnodaaIt1
import Derived.Test.YtohflgpkimnodaaSo16
namespace Go.Proofs.Ytohflgpkimnodaa
open Go.RowKit Go.Maps Go.Shelf
attribute [local go_sem] Oper.semAt_some
theorem infoID : (Try.prog.info? 38).map (fun i => (i.zero, i.size, i.bytes)) = some (some (.int .u32 0), 1, 4) := by kernel_rfl
set_option maxRecDepth 100000 in
set_option maxHeartbeats 2000000 in
theorem appendSeq_in (F : Fence) (n : Nat) (h11 : F.fn 36) (hro : F.round = none) (hn : 2 ≤ n) (g : Nat) (lb : Array Value) (hFg : F.fn g) (eg : ∀ args w, (callFunc g args).run Try.prog w = .ok (.enter g args) w)
    (S Sp : List Nat → Prop) (N n0 k : Nat) (sv : Value) (cs : List Nat) (hN : k + N ≤ maxLen) (hNb : (k + N) * 4 ≤ 140737488355328) (w : World) (hrow : w.ownsRow n0 38 1 sv k (idv cs)) (hn0 : n0 ≤ w.heap.size) (hseq : SeqStops F (n - 1) Try.prog g lb encU S Sp N w) :
    CallsIn F n Try.prog 36 #[sv, .func (.func g) #[] lb] w fun e w' => ∃ (v : Value) (xs : List Nat), e = .returned v ∧ S xs ∧ w'.ownsRow n0 38 1 v (k + xs.length) (idv (cs ++ xs)) ∧ Below n0 w w' := by
  have h1 : 1 ≤ n := by omega
  obtain ⟨i0, hi, hz0, hz1, hz2⟩ := info_parts infoID
  obtain ⟨A, c, rfl, _⟩ := own_rd hrow
  refine callsIn_of_wp_marks Try.func36 rfl h11 ?_ hro
  simp only [Try.ntmps36, List.size_toArray, List.length_cons, List.length_nil, Nat.reduceAdd, Nat.reduceSub, Array.replicate_succ, Array.replicate_zero, List.push_toArray, List.append_toArray, List.nil_append, List.cons_append]
  gi_wp2
  have bO := Boxed.new w 45 (.slice A k c)
  have hB0 : Below n0 w (w.alloc (.cells #[.slice A k c] 45)) := (Below.refl _ w).alloc hn0 _
  refine wpIn_rangeFunc_ownG hro h1 (gf := g) (lb := lb) rfl hFg eg
    hseq walksK_t walksK_b ((Below.refl _ w).alloc (Nat.le_refl _) _) (fun _ => rfl)
    (fun pre W => (∃ v, Boxed W w.heap.size 45 v ∧ W.ownsRow n0 38 1 v (k + pre.length) (idv (cs ++ pre)) ∧ True) ∧ Below n0 w W)
    (fun _ _ _ => False)
    (OwnFrom.and (Own.from (holdsRow_own n0 w.heap.size 45 38 1 (fun pre : List Nat => k + pre.length) (fun pre => idv (cs ++ pre)) (fun _ _ => True)) _) (ownFrom_below hn0 (by simp; omega)))
    (fun _ _ _ _ _ hs _ _ => hs)
    ⟨⟨_, bO, by simpa using hrow.alloc _, trivial⟩, hB0⟩
    (fun x => { tmps := #[.slice A k c, .func (.func g) #[] lb, .pointer (some ⟨w.heap.size, 0, none⟩), undef, .slice none 0 0, encU x, .func (.func g) #[] lb, encU x, undef, undef, undef, undef, undef], defers := [] }) ?assign ?body ?done ?stop
  case assign =>
    intro l x W K hK
    gi_wp2
    exact hK
  case body =>
    rintro l pre x W ⟨⟨v, hv, hrow, _⟩, hB⟩ hlt
    have hc := hv.cell
    gi_wp2_with (gi_at_builtin; refine wpListIn_append_own _ rfl _ _ 45 rfl n0 38 i0 (.int .u32 0) 1 4 Try.underlying45 hi hz0 hz1 hz2 rfl (by decide) _ _ _ rfl (hrow.alloc _) ⟨W.heap.size, 0, none⟩ 1 1 [encU x] rfl rfl (cell_one_new _ _ _) (by simp [Value.oneCell']) (by omega) (by omega) (by have := hB.size; simp; omega) ?_; intro v' w1 hown' hgrow _; obtain ⟨g', cap', rfl⟩ := ownsRow_succ hown'; obtain ⟨hv1, hv2, hr2, hk2, hb2⟩ := hv.appended (by decide) hrow (Nat.le_trans hn0 hB.size) hn0 hown' hgrow; have hc1 := hv1.cell; have hf1 := hv1.frozen)
    exact ⟨hk2.from _, hk2.walks, ⟨_, hv2, by simpa [idv, Nat.add_assoc] using hr2, trivial⟩, hB.trans hb2⟩
  case done =>
    rintro D ys W hD hS ⟨⟨v, hv, hrow, _⟩, hB⟩ hK
    have hc := hv.cell
    obtain ⟨A2, c2, rfl, _⟩ := own_rd hrow
    gi_wp2
    refine ⟨by simp, .inl ⟨_, _, rfl, run_takeDeferred hK, ?_⟩⟩
    exact ⟨_, results_tmp rfl _ _ _, _, ys, rfl, hS, ownsRow_putObj hrow _ hK rfl, hB.trans (belowK_b (w := w) hn0 W D _ _ (by simp at hD; omega) hK rfl rfl)⟩
  case stop =>
    rintro D c pre W _ _ h _
    exact h.elim
end Go.Proofs.Ytohflgpkimnodaa
