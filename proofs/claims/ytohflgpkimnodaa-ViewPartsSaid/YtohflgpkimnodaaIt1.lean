/- maps.Keys of a set of IDs, and its iterator: walked. -/
import Derived.Test.YtohflgpkimnodaaCe2
import Derived.RangeFuncStops
import Derived.RangeFuncBox
import Derived.RangeFuncLeaves
import Derived.RangeFuncKeeps
import Derived.Sort.MapsRangeIn
import Derived.Sort.KeysCollected
import Derived.Maps.AppendAt
import Derived.Maps.OwnIn
import Derived.WalkKit
import Derived.OwnWalkIn
import Derived.TacticsInMore
import Derived.RegionIn
import Derived.LoopNIn
import Derived.LoopIn
import Derived.Shelf.Abstract
namespace Go.Proofs.Ytohflgpkimnodaa
open Go.RowKit Go.Maps Go.Shelf
abbrev encU : Nat → Value := fun x => .int .u32 (x : Nat)
theorem encU_inj {x y : Nat} (h : encU x = encU y) : x = y := by simp [encU] at h; omega
theorem keyOf_u32 {key : Value} {kl : Lit} (h : keyOf Try.prog 38 key = some kl) : ∃ x : Nat, key = encU x ∧ kl = idKey x ∧ x < 4294967296 := by
  have hk := Try.underlying38
  cases key <;> simp [keyOf, hk, mapKey] at h
  rename_i q a
  obtain ⟨⟨rfl, hw⟩, rfl⟩ := h
  obtain ⟨n, rfl, hn⟩ := nat_of_wf hw (by decide)
  refine ⟨n, rfl, rfl, ?_⟩
  have : IntKind.u32.max = 4294967295 := by decide
  omega
/-- no key twice; a key is on the list just where the map has it and it is no longer to come -/
def CollectedU {H : Type} (D0 : DataW H) (left : Lit → Bool) (ss : List Nat) : Prop := ss.Nodup ∧ ∀ x, x ∈ ss ↔ (has D0 (idKey x) = true ∧ left (idKey x) = false)
theorem CollectedU.start {H : Type} (D0 : DataW H) : CollectedU D0 (has D0) [] := ⟨List.nodup_nil, fun x => by cases has D0 (idKey x) <;> simp⟩
theorem CollectedU.step {H : Type} {D0 : DataW H} {left : Lit → Bool} {ss : List Nat} (h : CollectedU D0 left ss) {x : Nat} {y : DataW H} (hlk : left (idKey x) = true) (hat : ∀ zd, D0.atKey (idKey x) zd = y) : CollectedU D0 (fun z => left z && !z.sameKey (idKey x)) (ss ++ [x]) := by
  have hhas : has D0 (idKey x) = true := has_true_of_atKey hat
  have hnew : x ∉ ss := fun hx => by have := ((h.2 x).1 hx).2; rw [hlk] at this; cases this
  refine ⟨List.nodup_append.2 ⟨h.1, by simp, fun a ha b hb => by simp at hb; subst hb; exact fun e => hnew (e ▸ ha)⟩, fun y => ?_⟩
  by_cases hy : y = x
  · subst hy; simp [hhas, Lit.sameKey, idKey]; exact hhas
  · have : ¬ (y : Int) = (x : Int) := by omega
    simp [h.2 y, hy, Lit.sameKey, idKey, this]
set_option maxRecDepth 100000 in
set_option maxHeartbeats 1000000 in
theorem keys1_in {H : Type} (F : Fence) (n : Nat) (h10 : F.fn 40) (hro : F.round = none) (hn : 1 ≤ n) (l Bm b nn : Nat) (D0 : DataW H) {R : Value → Option (DataW H × List MemPlace)} (J Jx : List Nat → World → Prop)
    (hY : ∀ pre x W, J pre W → pre.length < Maps.size D0 → YieldAt F (n - 1) Try.prog l #[encU x] W fun e W' =>
      (e = .returned (.bool true) ∧ J (pre ++ [x]) W' ∧ KeepsWalks W W') ∨ (e = .returned (.bool false) ∧ Jx (pre ++ [x]) W'))
    (W : World) (hJ : AbidesFrom W.heap.size J) (hm : W.cell? ⟨Bm, 0, none⟩ = some (.map (some b))) (hown : W.ownsMap Try.prog 38 R b nn D0) (h0 : J [] W) :
    CallsIn F n Try.prog 40 #[.func (.yield l) #[] #[], .pointer (some ⟨Bm, 0, none⟩)] W fun e W' => (∃ v, e = .returned v) ∧
      ((∃ ss : List Nat, (ss.Nodup ∧ ∀ x, x ∈ ss ↔ has D0 (idKey x) = true) ∧ J ss W') ∨ (∃ pre : List Nat, True ∧ Jx pre W')) := by
  refine callsIn_of_wp Try.func40 rfl h10 ?_ hro
  simp only [Try.ntmps40, List.size_toArray, List.length_cons, List.length_nil, Nat.reduceAdd, Nat.reduceSub, Array.replicate_succ, Array.replicate_zero, List.push_toArray, List.append_toArray, List.nil_append, List.cons_append]
  gi_wp2_with (first
    | (gi_at_range; refine wpListIn_range_own _ rfl _ 72 rfl 38 73 idLaw Try.underlying72 _ b nn _ rfl hown ?_; intro w0 hrg0 hg0 hs0)
    | gi_in)
  go_frame
  gi_loopw [3] (fun _ wr => ∃ (left : Lit → Bool) (cnt : Nat) (ss : List Nat), wr.ranges Try.prog 38 R b W.heap.size nn D0 left cnt ∧ ss.length + cnt ≤ Maps.size D0 ∧ CollectedU D0 left ss ∧ J ss wr)
    (fun _ wr => wr.rangeLeft b W.heap.size)
  case atStart =>
    exact ⟨_, _, [], hrg0, by simp, CollectedU.start D0, hJ [] W w0 none h0 hg0 (fun r e => by cases e)⟩
  case round =>
    obtain ⟨left, cnt, ss, hrg, hcs, hC, hJs⟩ := hrel
    gi_wp2_with (first
      | (gi_at_next; refine wpListIn_next_ranges _ rfl _ rfl 38 idLaw R encU id (fun key kl hk => by obtain ⟨x, hx, _⟩ := keyOf_u32 hk; exact ⟨x, hx⟩) (fun v _ _ => ⟨v, rfl⟩) b W.heap.size nn _ _ _ rfl hrg ?_ ?_)
      | gi_in)
    · intro hc0 hl0
      gi_wp2
      go_end0
      exact ⟨⟨_, rfl⟩, .inl ⟨ss, ⟨hC.1, fun x => by rw [hC.2 x, hl0]; simp⟩, hJs⟩⟩
    · intro x c kl yd yp w2 cnt2 hkey hlk hv hat hrg2 hlt hg2 hs2 hen
      obtain ⟨x', ex, rfl, _⟩ := keyOf_u32 hkey
      obtain rfl : x = x' := encU_inj ex
      have hJ2 : J ss w2 := hJ ss wr w2 (some W.heap.size) hJs hg2 (fun r e => by cases e; exact ⟨Nat.le_refl _, hrg.iter_walk⟩)
      obtain ⟨fn, tmps, assign, body, hy, hR⟩ := hY ss x w2 hJ2 (by omega)
      clear hs2
      gi_wp2
      refine hR.mono ?_
      have hC2 := hC.step hlk hat
      rintro e W3 (⟨rfl, hJ3, hk3⟩ | ⟨rfl, hJx3⟩)
      · gi_wp2
        have hrg3 := hrg2.of_walks hk3
        go_roundw
        case rel => exact ⟨_, cnt2, ss ++ [x], hrg3, by simp; omega, hC2, hJ3⟩
        case measure => rw [hrg3.left_eq, hrg.left_eq]; exact hlt
      · gi_wp2
        refine bodyPost_ret (results_none rfl _ _ _) rfl ?_
        exact ⟨⟨_, rfl⟩, .inr ⟨ss ++ [x], trivial, hJx3⟩⟩
theorem keys_stops {H : Type} (F : Fence) (n : Nat) (h10 : F.fn 40) (hro : F.round = none) (hn : 1 ≤ n) (Bm b nn : Nat) (D0 : DataW H) {R : Value → Option (DataW H × List MemPlace)} (w : World) (hBm : Bm < w.heap.size)
    (hm : w.cell? ⟨Bm, 0, none⟩ = some (.map (some b))) (hown : w.ownsMap Try.prog 38 R b nn D0) :
    SeqStops F n Try.prog 40 #[.pointer (some ⟨Bm, 0, none⟩)] encU (fun ss => ss.Nodup ∧ ∀ x, x ∈ ss ↔ has D0 (idKey x) = true) (fun _ => True) (Maps.size D0) w := fun l J Jx W hW hJ _ hY h0 => by
  have hown' : W.ownsMap Try.prog 38 R b nn D0 := by
    have hbl := hown.lt
    obtain ⟨es, clock, hb, Ft, hs, hD⟩ := hown
    exact ⟨es, clock, (hW.block b hbl).trans hb, Ft, hs, hD⟩
  exact keys1_in F n h10 hro hn l Bm b nn D0 J Jx hY W hJ ((hW.cell (p := ⟨Bm, 0, none⟩) hBm).trans hm) hown' h0
set_option maxRecDepth 100000 in
set_option maxHeartbeats 1000000 in
theorem keys1_nil_in (F : Fence) (n : Nat) (h10 : F.fn 40) (hro : F.round = none) (l Bm : Nat) (J : List Nat → World → Prop) (W : World) (hJ : AbidesFrom W.heap.size J)
    (hm : W.cell? ⟨Bm, 0, none⟩ = some (.map none)) (h0 : J [] W) :
    CallsIn F n Try.prog 40 #[.func (.yield l) #[] #[], .pointer (some ⟨Bm, 0, none⟩)] W fun e W' => (∃ v, e = .returned v) ∧ J [] W' := by
  refine callsIn_of_wp Try.func40 rfl h10 ?_ hro
  simp only [Try.ntmps40, List.size_toArray, List.length_cons, List.length_nil, Nat.reduceAdd, Nat.reduceSub, Array.replicate_succ, Array.replicate_zero, List.push_toArray, List.append_toArray, List.nil_append, List.cons_append]
  have hrg := run_range_nilMap (P := Try.prog) W 72 38 73 Try.underlying72
  have hnx : ∀ ty, (Instr.next (.pointer (some ⟨W.heap.size, 0, none⟩)) false ty).run Try.prog (W.alloc (.mapIter none 0 #[] 0)) = _ := fun ty => run_next_nilMap _ ty 0 0 #[]
  gi_wp2
  refine wpIn_loop_rounds 1 ?_
  rw [roundsIn_succ]
  gi_wp2
  go_end0
  exact ⟨⟨_, rfl⟩, hJ [] W _ none h0 (World.grownBy_alloc W _ none) (fun r e => by cases e)⟩
theorem keys_stops_nil (F : Fence) (n : Nat) (h10 : F.fn 40) (hro : F.round = none) (Bm : Nat) (w : World) (hBm : Bm < w.heap.size) (hm : w.cell? ⟨Bm, 0, none⟩ = some (.map none)) :
    SeqStops F n Try.prog 40 #[.pointer (some ⟨Bm, 0, none⟩)] encU (fun ss => ss.Nodup ∧ ∀ x : Nat, x ∈ ss ↔ False) (fun _ => True) 0 w := fun l J Jx W hW hJ _ _ h0 =>
  (keys1_nil_in F n h10 hro l Bm J W hJ ((hW.cell (p := ⟨Bm, 0, none⟩) hBm).trans hm) h0).mono (fun _ _ h => ⟨h.1, .inl ⟨[], ⟨List.nodup_nil, fun x => by simp⟩, h.2⟩⟩)
set_option maxHeartbeats 1000000 in
theorem keys_in (F : Fence) (n : Nat) (h7 : F.fn 37) (hro : F.round = none) (mb : Option Nat) (w : World) :
    CallsIn F n Try.prog 37 #[.map mb] w fun e w' => e = .returned (.func (.func 40) #[] #[.pointer (some ⟨w.heap.size, 0, none⟩)]) ∧ w' = w.alloc (.cells #[.map mb] 72) := by
  refine callsIn_of_wp Try.func37 rfl h7 ?_ hro
  simp only [Try.ntmps37, List.size_toArray, List.length_cons, List.length_nil, Nat.reduceAdd, Nat.reduceSub, Array.replicate_succ, Array.replicate_zero, List.push_toArray, List.append_toArray, List.nil_append, List.cons_append]
  gi_wp2
  go_ret
  exact ⟨rfl, rfl⟩
end Go.Proofs.Ytohflgpkimnodaa
