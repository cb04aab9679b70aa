/- A ring of int64: what lies in memory; New; slices.Delete. -/
import Derived.Test.YtkcepmalahmkiaaRgPure
import Derived.Test.YtkcepmalahmkiaaDel
import Derived.Deep.QuietTactic
import Derived.BigQuiet
import Derived.StillTail
import Derived.StillTailTactics
import Derived.Handy
import Derived.Deep.RegionHeld3
namespace Go.Proofs.Ytkcepmalahmkiaa
open Go.RowKit
/-- the cells of a thing -/
def csL (x : Int) : List Value := [.int .i64 x]
theorem csL_len (x : Int) : (csL x).length = 2 - 1 := rfl
theorem csL_one (x : Int) : ∀ u ∈ csL x, u.oneCell' = true := by
  intro u hu
  simp only [csL, List.mem_cons, List.not_mem_nil, or_false] at hu
  rcases hu with rfl <;> rfl
theorem infoL : (Try.prog.info? 108).map (fun i => (i.zero, i.size, i.bytes)) = some (some (Value.agg #[.int .u32 0, .int .i64 0]), 2, 16) := by kernel_rfl
/-- a ring at block g with room for most; its list lies in v -/
structure LRing (w : World) (g : Nat) (v : Value) (most : Nat) (xs : List (Rit Int)) : Prop where
  obj : w.heap[g]? = some (.cells #[.int .i64 most, v] 106 (0, 0))
  row : w.ownsRow 0 108 2 v xs.length (rcells csL xs)
  up : Rising xs
  lt : ∀ x ∈ xs, x.tick < 4294967296
set_option maxRecDepth 20000 in
set_option maxHeartbeats 1000000 in
theorem LDelete_any (g n cap i j m : Nat) (cs : List Value) (w : World) (ho : w.ownsRow 0 108 2 (.slice (some ⟨g, 0, none⟩) n cap) n cs) (hij : i < j) (hj : j + m = n) (hcap : n ≤ cap) (hm : cap ≤ maxLen) (h1 : ∀ u ∈ cs, u.oneCell' = true) :
    Calls Try.prog 42 #[.slice (some ⟨g, 0, none⟩) n cap, .int .i64 i, .int .i64 j] w fun e w' => e = .returned (.slice (some ⟨g, 0, none⟩) (i + m) cap) ∧
      w'.ownsRow 0 108 2 (.slice (some ⟨g, 0, none⟩) (i + m) cap) (i + m) (cs.take (i * 2) ++ cs.drop (j * 2)) ∧ Upd (fun b => b = g) w w' := by
  unfold maxLen at hm
  have q5 : (j : Int) + (m : Int) = (n : Int) := by omega
  have HJ := Bx.mk hj
  have q6 : n - j = m := by omega
  have hne : ¬ (i : Int) = (j : Int) := by omega
  have q1 : (j : Int) ≤ (n : Int) := by omega
  have q2 : (n : Int) ≤ (cap : Int) := by omega
  have q3 : (i : Int) ≤ (j : Int) := by omega
  go_enter Try.func42, Try.ntmps42
  go_wp2
  have q4 : (i : Int) ≤ (cap : Int) := by omega
  have hfront := own_front ho (show i ≤ n by omega)
  clear q5
  obtain ⟨_, _, hv, _, _, hr, _⟩ := own_rd ho
  simp only [Value.slice.injEq, true_and] at hv
  obtain ⟨rfl, rfl⟩ := hv
  have hd := hr.drop_lit (j * 2)
  rw [Nat.zero_add] at hd
  have hl := ho.1
  obtain ⟨i0, hi0, hz0, hs0, hb0⟩ := info_parts infoL
  have hone : ∀ m, ∀ u ∈ (Builtin.zeroCells (Value.agg #[.int .u32 0, .int .i64 0]).cells m).toList, u.oneCell' = true := fun m => zeroCells_one _ (by decide) (by decide) m
  have CLR := Bx.mk (fun (w2 : World) (ho2 : w2.ownsRow 0 108 2 (.slice (some ⟨g, 0, none⟩) (i + m) cap) (i + m) (cs.take (i * 2) ++ cs.drop (j * 2))) (ty : TypeId) (c : Nat) =>
    run_clear_own (P := Try.prog) (ty := ty) (k := n - (i + m)) (c := c) Try.underlying104 hi0 hz0 (by rw [hs0]; rfl) hone (hs0.symm ▸ ho2) (by omega))
  rw [hs0] at CLR
  clear hi0 hz0 hs0 hb0 hone
  by_cases hcj : cap = j
  · obtain rfl : n = j := by omega
    subst hcj
    have hsrc : Src Try.prog 2 104 (.slice (some ⟨g, 0, none⟩) 0 0) 0 (cs.drop (cap * 2)) w.drew := by
      have : cs.drop (cap * 2) = [] := List.drop_eq_nil_of_le (by omega)
      rw [this]
      exact Rd.src (.inl rfl) Try.underlying104 (fun h => by cases h) rfl (fun u hu => by cases hu)
    have hfr := own_new hfront (Upd.refl Nowhere w).drew
    obtain rfl : m = 0 := by omega
    go_still_tail 6, (by kernel_rfl)
    change wpList _ _ _ _ _ w.drew
    go_wp2_with (first | (at_builtin; refine wpList_room rfl _ _ 104 104 rfl 0 108 (Value.agg #[.int .u32 0, .int .i64 0]) 2 16 Try.underlying104 infoL g i cap _ hfr rfl _ 0 _ hsrc rfl (by omega) ?_; intro w2 ho2 hu2) | ((with_reducible refine at_wpList ?_); (refine wpList_clear rfl _ _ rfl ?_; obtain ⟨w3, hr3, ho3, hu3⟩ := CLR.out w2 ho2 _ _; refine ⟨w3, hr3, ?_⟩; clear hr3)))
    go_ret
    exact ⟨rfl, ho3, ((Upd.refl _ w).drew.trans hu2).trans hu3⟩
  · have hsrc : Src Try.prog 2 104 (.slice (some ⟨g, j * 2, none⟩) m (cap - j)) m (cs.drop (j * 2)) w.drew :=
      (hd.new (Upd.refl _ _).drew).src Try.underlying104 (fun h => by cases h) (by rw [List.length_drop, hl, ← Nat.sub_mul, q6]) (fun u hu => h1 u (List.mem_of_mem_drop hu))
    have hfr := own_new hfront (Upd.refl Nowhere w).drew
    go_still_tail 6, (by kernel_rfl)
    change wpList _ _ _ _ _ w.drew
    go_wp2_with (first | (at_builtin; refine wpList_room rfl _ _ 104 104 rfl 0 108 (Value.agg #[.int .u32 0, .int .i64 0]) 2 16 Try.underlying104 infoL g i cap _ hfr rfl _ m _ hsrc rfl (by omega) ?_; intro w2 ho2 hu2) | ((with_reducible refine at_wpList ?_); (refine wpList_clear rfl _ _ rfl ?_; obtain ⟨w3, hr3, ho3, hu3⟩ := CLR.out w2 ho2 _ _; refine ⟨w3, hr3, ?_⟩; clear hr3)))
    go_ret
    exact ⟨rfl, ho3, ((Upd.refl _ w).drew.trans hu2).trans hu3⟩
end Go.Proofs.Ytkcepmalahmkiaa
