/- A map that says who has been seen (plain law and look-ups). -/
import Derived.Test.YtohflgpkimnodaaVzL1
import Derived.Test.YtohflgpkimnodaaGr3
namespace Go.Proofs.Ytohflgpkimnodaa
open Go.RowKit Go.Maps
def boolElem : Value → Option (DataW Unit × List MemPlace)
  | .bool b => some (.lit (.bool b), [])
  | _ => none
theorem boolElem_inv {v : Value} {b : Bool} {ps : List MemPlace} (h : boolElem v = some (.lit (.bool b), ps)) : v = .bool b := by
  cases v <;> simp only [boolElem] at h <;> try (cases h)
  rfl
theorem zeroBool (w : World) : (zeroValue 4).run Try.prog w = .ok (.bool false) w := by kernel_rfl
/-- who has been seen -/
structure SM (w : World) (b n : Nat) (D : DataW Unit) (S : List Nat) : Prop where
  own : w.ownsMap Try.prog 38 boolElem b n D
  has : ∀ i, has D (idKey i) = true ↔ i ∈ S
  val : ∀ i ∈ S, ∀ z, D.atKey (idKey i) z = .lit (.bool true)
  fin : IsMap D
theorem SM.new {w w' : World} {b n : Nat} {D : DataW Unit} {S : List Nat} (h : SM w b n D S) (u : New w w') : SM w' b n D S := ⟨ownsMap_upd h.own u (fun q => q), h.has, h.val, h.fin⟩
theorem SM.made (w : World) : SM (w.alloc (.map #[] 0)) w.heap.size 0 (.map []) [] := ⟨World.ownsMap_made w _ _ _, fun i => by rw [show Maps.has (DataW.map [] : DataW Unit) (idKey i) = false from rfl]; simp, fun i h => (by cases h), isMap_empty⟩
theorem SM.add {w w' : World} {b n : Nat} {D : DataW Unit} {S : List Nat} (h : SM w b n D S) (i : Nat) (h' : w'.ownsMap Try.prog 38 boolElem b (n + 1) (D.put (idKey i) (.lit (.bool true)))) : SM w' b (n + 1) (D.put (idKey i) (.lit (.bool true))) (S ++ [i]) := by
  refine ⟨h', fun j => ?_, fun j hj z => ?_, h.fin.put _ _⟩
  · rw [has_put_iff h.fin (idLit i), h.has, List.mem_append, List.mem_singleton]
    constructor
    · rintro (q | q)
      · exact .inr (idKey_inj _ _ q)
      · exact .inl q
    · rintro (q | q)
      · exact .inr q
      · exact .inl (q ▸ rfl)
  · by_cases q : j = i
    · subst q; exact atKey_put_same h.fin (idLit j) _ _
    · rw [atKey_put_other (idKey_ne q)]
      rcases List.mem_append.1 hj with r | r
      · exact h.val j r z
      · exact absurd (List.mem_singleton.1 r) q
theorem SM.look {w : World} {b n : Nat} {D : DataW Unit} {S : List Nat} (h : SM w b n D S) {i : Nat} (hi : i < 4294967296) (p : Bool) (hp : decide (i ∈ S) = p) :
    (Instr.lookup 50 (.map (some b)) (.int .u32 i) false).run Try.prog w = .ok (.bool p) w := by
  obtain ⟨v, ps, hr, hv⟩ := h.own.lookup idLaw Try.underlying50 (zeroBool w) (zd := .lit (.bool false)) (zp := []) rfl (keyId hi)
  rw [hr]
  by_cases q : i ∈ S
  · rw [h.val i q] at hv
    rw [boolElem_inv hv, ← hp, decide_eq_true q]
  · rw [atKey_of_not_has (by have := h.has i; cases e : Maps.has D (idKey i) with | false => rfl | true => exact absurd (this.1 e) q)] at hv
    rw [boolElem_inv hv, ← hp, decide_eq_false q]
/-- the one before -/
def prev (xs : List Nat) (i : Nat) : Nat := if i = 0 then 0 else xs.getD (i - 1) 0
theorem prev_lt (xs : List Nat) (hs : xs.Pairwise (· < ·)) (hz : ∀ x ∈ xs, x ≠ 0) (i : Nat) (hi : i < xs.length) : prev xs i < xs.getD i 0 ∧ prev xs (i + 1) = xs.getD i 0 := by
  have e1 : xs.getD i 0 = xs[i] := by rw [List.getD_eq_getElem?_getD, List.getElem?_eq_getElem hi, Option.getD_some]
  refine ⟨?_, by unfold prev; rw [if_neg (by omega), Nat.add_sub_cancel]⟩
  unfold prev
  split
  · rw [e1]
    have := hz xs[i] (List.getElem_mem hi)
    omega
  · have hi2 : i - 1 < xs.length := by omega
    have e2 : xs.getD (i - 1) 0 = xs[i - 1] := by rw [List.getD_eq_getElem?_getD, List.getElem?_eq_getElem hi2, Option.getD_some]
    rw [e1, e2]
    exact List.pairwise_iff_getElem.1 hs (i - 1) i hi2 hi (by omega)
theorem sel_nz {M : Nat → Option (Int × Int)} {L : List SpQ} (R : Rel M L) (p : Int × Int → Bool) : ∀ x ∈ selL p L, x ≠ 0 := fun x hx => by
  unfold selL at hx
  obtain ⟨q, hq, rfl⟩ := List.mem_map.1 hx
  exact R.nz q (List.mem_filter.1 hq).1
theorem sel_lt {M : Nat → Option (Int × Int)} {L : List SpQ} (R : Rel M L) (p : Int × Int → Bool) : ∀ x ∈ selL p L, x < 4294967296 := fun x hx => by
  unfold selL at hx
  obtain ⟨q, hq, rfl⟩ := List.mem_map.1 hx
  exact (R.ok q (List.mem_filter.1 hq).1).1.1
theorem sel_iff {M : Nat → Option (Int × Int)} {L : List SpQ} (R : Rel M L) (p : Int × Int → Bool) {q : SpQ} (hq : q ∈ L) : decide (q.1 ∈ selL p L) = p (cellsOf q) := by
  rw [Bool.eq_iff_iff, decide_eq_true_iff, R.mem_sel]
  have hm := (R.mem q.1 (cellsOf q)).2 ⟨q, hq, rfl, rfl⟩
  constructor
  · rintro ⟨s, hs, hp⟩
    rw [hm] at hs; cases hs
    exact hp
  · exact fun h => ⟨_, hm, h⟩
end Go.Proofs.Ytohflgpkimnodaa
