/- A grid: what leaving and coming do to it (plain law). -/
import Derived.Test.YtohflgpkimnodaaGr1
namespace Go.Proofs.Ytohflgpkimnodaa
open Go.RowKit Go.Maps
def spotD (s : Int × Int) : DataW Unit := .agg [.lit (.int .i64 s.1), .lit (.int .i64 s.2)]
def unitD : DataW Unit := .agg []
theorem spotElem_mk (s : Int × Int) : spotElem (spotV s) = some (spotD s, []) := rfl
theorem spotElem_inv {v : Value} {s : Int × Int} {ps : List MemPlace} (h : spotElem v = some (spotD s, ps)) : v = spotV s := by
  cases v <;> simp only [spotElem] at h <;> try (cases h)
  rename_i cs
  split at h
  · rename_i x y hc
    simp only [spotD, Option.some.injEq, Prod.mk.injEq, DataW.agg.injEq, List.cons.injEq, DataW.lit.injEq, Lit.int.injEq, true_and, and_true] at h
    obtain ⟨⟨rfl, rfl⟩, _⟩ := h
    exact congrArg Value.agg (by rw [← Array.toList_inj, hc])
  · cases h
theorem setElem_some {v : Value} {b : Nat} {ps : List MemPlace} (h : setElem v = some (.lit (.int .u64 b), ps)) : v = .map (some b) := by
  unfold setElem at h
  split at h
  · rename_i b'
    simp only [Option.some.injEq, Prod.mk.injEq, DataW.lit.injEq, Lit.int.injEq, true_and] at h
    obtain rfl : b' = b := by have := h.1; omega
    rfl
  · simp at h
  · cases h
theorem setElem_nil {v : Value} {ps : List MemPlace} (h : setElem v = some (.nil, ps)) : v = .map none := by
  unfold setElem at h
  split at h
  · simp at h
  · rfl
  · cases h
def inS (s : Int × Int) : Prop := inI64 s.1 ∧ inI64 s.2
theorem spotInj {s t : Int × Int} (h1 : inS s) (h2 : inS t) (h : spotKey s = spotKey t) : s = t := spotKey_inj s t h1.1 h1.2 h2.1 h2.2 h
theorem spotLit {s : Int × Int} (h : inS s) : WideAt.IsKeyLit (spotKey s) := by
  have h1 := spotKey_of s h.1 h.2
  exact spotLaw.key h1
theorem idLit (i : Nat) : WideAt.IsKeyLit (idKey i) := trivial
/-- where everybody is, but for one -/
def mset (M : Nat → Option (Int × Int)) (i : Nat) (x : Option (Int × Int)) : Nat → Option (Int × Int) := fun j => if j = i then x else M j
theorem mset_same (M : Nat → Option (Int × Int)) (i : Nat) (x : Option (Int × Int)) : mset M i x i = x := by simp [mset]
theorem mset_other {M : Nat → Option (Int × Int)} {i j : Nat} (x : Option (Int × Int)) (h : j ≠ i) : mset M i x j = M j := by simp [mset, h]
theorem mset_none {M : Nat → Option (Int × Int)} {i j : Nat} {s : Int × Int} : mset M i none j = some s ↔ j ≠ i ∧ M j = some s := by
  unfold mset
  split <;> simp_all
structure GA (n0 : Nat) (w : World) (g cb hb : Nat) (DC DH : DataW Unit) (B : Int × Int → Nat) (M : Nat → Option (Int × Int)) : Prop where
  obj : w.heap[g]? = some (.cells #[.map (some cb), .map (some hb)] 62 (0, 0))
  home : w.ownsMap Try.prog 38 spotElem hb (Maps.size DH) DH
  cells : w.ownsMap Try.prog 68 setElem cb (Maps.size DC) DC
  ne : cb ≠ hb
  low : n0 ≤ cb ∧ n0 ≤ hb ∧ ∀ i s, M i = some s → n0 ≤ B s
  dom : ∀ i s, M i = some s → i < 4294967296 ∧ inS s
  hhas : ∀ l, has DH l = true ↔ ∃ i s, M i = some s ∧ l = idKey i
  hat : ∀ i s, M i = some s → ∀ z, DH.atKey (idKey i) z = spotD s
  chas : ∀ l, has DC l = true ↔ ∃ i s, M i = some s ∧ l = spotKey s
  cat : ∀ i s, M i = some s → ∀ z, DC.atKey (spotKey s) z = .lit (.int .u64 (B s))
  sets : ∀ i s, M i = some s → ∃ D : DataW Unit, w.ownsMap Try.prog 38 unitElem (B s) (Maps.size D) D ∧ ∀ l, has D l = true ↔ ∃ j, M j = some s ∧ l = idKey j
  bne : ∀ i s, M i = some s → B s ≠ cb ∧ B s ≠ hb
  inj : ∀ i j s t, M i = some s → M j = some t → B s = B t → s = t
section
variable {n0 : Nat} {w w' w1 w2 w3 : World} {g cb hb : Nat} {DC DH D0 : DataW Unit} {B : Int × Int → Nat} {M : Nat → Option (Int × Int)} {i n n' : Nat} {s : Int × Int}
theorem GA.new (h : GA n0 w g cb hb DC DH B M) (u : New w w') : GA n0 w' g cb hb DC DH B M :=
  ⟨u.blk h.obj (fun q => q), ownsMap_upd h.home u (fun q => q), ownsMap_upd h.cells u (fun q => q), h.ne, h.low, h.dom, h.hhas, h.hat, h.chas, h.cat, fun i s hi => by
    obtain ⟨D, h1, h2⟩ := h.sets i s hi
    exact ⟨D, ownsMap_upd h1 u (fun q => q), h2⟩, h.bne, h.inj⟩
theorem GA.gne (h : GA n0 w g cb hb DC DH B M) : g ≠ cb ∧ g ≠ hb := by
  obtain ⟨e1, c1, h1⟩ := ownsMap_obj h.home
  obtain ⟨e2, c2, h2⟩ := ownsMap_obj h.cells
  constructor
  · intro q; rw [← q, h.obj] at h2; cases h2
  · intro q; rw [← q, h.obj] at h1; cases h1
theorem GA.sne (h : GA n0 w g cb hb DC DH B M) {i : Nat} {s : Int × Int} (hi : M i = some s) : g ≠ B s := by
  obtain ⟨D, h1, _⟩ := h.sets i s hi
  obtain ⟨e1, c1, h1⟩ := ownsMap_obj h1
  intro q; rw [← q, h.obj] at h1; cases h1
theorem idKey_ne {i j : Nat} (h : i ≠ j) : idKey i ≠ idKey j := fun q => h (idKey_inj _ _ q)
theorem has_del_iff {D : DataW Unit} {k l : Lit} : has (D.del k) l = true ↔ l ≠ k ∧ has D l = true := by
  by_cases q : l = k
  · subst q; rw [has_del_same]; simp
  · rw [has_del_other q]; simp [q]
theorem has_put_iff {D : DataW Unit} (hD : IsMap D) {k l : Lit} (hk : WideAt.IsKeyLit k) (d : DataW Unit) : has (D.put k d) l = true ↔ l = k ∨ has D l = true := by
  by_cases q : l = k
  · subst q; rw [has_put_same hD hk]; simp
  · rw [has_put_other q]; simp [q]
/-- behind a leaving: the home map, and the sets of those who stay -/
theorem leave_home (h : GA n0 w g cb hb DC DH B M) : (∀ l, has (DH.del (idKey i)) l = true ↔ ∃ j s, mset M i none j = some s ∧ l = idKey j) ∧ (∀ j s, mset M i none j = some s → ∀ z, (DH.del (idKey i)).atKey (idKey j) z = spotD s) := by
  constructor
  · intro l
    rw [has_del_iff, h.hhas l]
    constructor
    · rintro ⟨q, j, s, hj, rfl⟩
      exact ⟨j, s, mset_none.2 ⟨fun e => q (by rw [e]), hj⟩, rfl⟩
    · rintro ⟨j, s, hj, rfl⟩
      obtain ⟨q, hj⟩ := mset_none.1 hj
      exact ⟨idKey_ne q, j, s, hj, rfl⟩
  · intro j s hj z
    obtain ⟨q, hj⟩ := mset_none.1 hj
    rw [atKey_del_other (idKey_ne q)]
    exact h.hat j s hj z
theorem leave_set (hD : ∀ l, has D0 l = true ↔ ∃ j, M j = some s ∧ l = idKey j) : ∀ l, has (D0.del (idKey i)) l = true ↔ ∃ j, mset M i none j = some s ∧ l = idKey j := by
  intro l
  rw [has_del_iff, hD l]
  constructor
  · rintro ⟨q, j, hj, rfl⟩
    exact ⟨j, mset_none.2 ⟨fun e => q (by rw [e]), hj⟩, rfl⟩
  · rintro ⟨j, hj, rfl⟩
    obtain ⟨q, hj⟩ := mset_none.1 hj
    exact ⟨idKey_ne q, j, hj, rfl⟩
/-- somebody leaves a cell in which somebody else is -/
theorem GA.leave1 (h : GA n0 w g cb hb DC DH B M) (hM : M i = some s) (hD : ∀ l, has D0 l = true ↔ ∃ j, M j = some s ∧ l = idKey j)
    (o1 : w1.ownsMap Try.prog 38 spotElem hb n (DH.del (idKey i))) (u1 : Upd (fun x => x = hb) w w1)
    (o2 : w2.ownsMap Try.prog 38 unitElem (B s) n' (D0.del (idKey i))) (u2 : Upd (fun x => x = B s) w1 w2) (he : Maps.size (D0.del (idKey i)) ≠ 0) :
    GA n0 w2 g cb hb DC (DH.del (idKey i)) B (mset M i none) ∧ GUpd n0 w w2 := by
  obtain ⟨b1, b2⟩ := h.bne i s hM
  obtain ⟨D, m1, m2⟩ := h.sets i s hM
  have hs := h.sne hM
  have other : ∃ j, mset M i none j = some s := by
    refine Classical.byContradiction fun q => he (size_of_keys idLaw o2 idKey [] (by simp) fun l => ?_)
    rw [leave_set hD l]
    constructor
    · rintro ⟨j, hj, _⟩; exact absurd ⟨j, hj⟩ q
    · rintro ⟨a, ha, _⟩; cases ha
  obtain ⟨lh1, lh2⟩ := leave_home (i := i) h
  refine ⟨⟨u2.blk (u1.blk h.obj h.gne.2) hs, ownsMap_tight (ownsMap_upd o1 u2 (fun q => b2 q.symm)), ownsMap_upd (ownsMap_upd h.cells u1 h.ne) u2 (fun q => b1 q.symm), h.ne, ⟨h.low.1, h.low.2.1, fun j t hj => h.low.2.2 j t (mset_none.1 hj).2⟩,
    fun j t hj => h.dom j t (mset_none.1 hj).2, lh1, lh2, fun l => ?_, fun j t hj => h.cat j t (mset_none.1 hj).2, fun j t hj => ?_, fun j t hj => h.bne j t (mset_none.1 hj).2, fun j k t u hj hk => h.inj j k t u (mset_none.1 hj).2 (mset_none.1 hk).2⟩, ?_⟩
  · rw [h.chas l]
    constructor
    · rintro ⟨j, t, hj, rfl⟩
      by_cases q : j = i
      · subst q
        rw [hM] at hj; cases hj
        obtain ⟨k, hk⟩ := other
        exact ⟨k, s, hk, rfl⟩
      · exact ⟨j, t, mset_none.2 ⟨q, hj⟩, rfl⟩
    · rintro ⟨j, t, hj, rfl⟩
      exact ⟨j, t, (mset_none.1 hj).2, rfl⟩
  · by_cases q : t = s
    · subst q
      exact ⟨_, ownsMap_tight o2, leave_set hD⟩
    · obtain ⟨D, m1, m2⟩ := h.sets j t (mset_none.1 hj).2
      refine ⟨D, ownsMap_upd (ownsMap_upd m1 u1 (h.bne j t (mset_none.1 hj).2).2) u2 (fun e => q (h.inj j i t s (mset_none.1 hj).2 hM e)), fun l => ?_⟩
      rw [m2 l]
      constructor
      · rintro ⟨k, hk, rfl⟩
        exact ⟨k, mset_none.2 ⟨fun e => q (by rw [e, hM] at hk; cases hk; rfl), hk⟩, rfl⟩
      · rintro ⟨k, hk, rfl⟩
        exact ⟨k, (mset_none.1 hk).2, rfl⟩
  · have s1 := ownsMap_Sm h.home h.low.2.1
    have s2 := ownsMap_Sm m1 (h.low.2.2 _ _ hM)
    exact (u1.mono (S' := Sm n0 w) fun b q => q ▸ s1).trans (u2.mono (S' := Sm n0 w) fun b q => q ▸ s2)
/-- the last one leaves a cell -/
theorem GA.leave2 (h : GA n0 w g cb hb DC DH B M) (hM : M i = some s) (hD : ∀ l, has D0 l = true ↔ ∃ j, M j = some s ∧ l = idKey j)
    (o1 : w1.ownsMap Try.prog 38 spotElem hb n (DH.del (idKey i))) (u1 : Upd (fun x => x = hb) w w1)
    (o2 : w2.ownsMap Try.prog 38 unitElem (B s) n' (D0.del (idKey i))) (u2 : Upd (fun x => x = B s) w1 w2) (he : Maps.size (D0.del (idKey i)) = 0)
    {n3 : Nat} (o3 : w3.ownsMap Try.prog 68 setElem cb n3 (DC.del (spotKey s))) (u3 : Upd (fun x => x = cb) w2 w3) :
    GA n0 w3 g cb hb (DC.del (spotKey s)) (DH.del (idKey i)) B (mset M i none) ∧ GUpd n0 w w3 := by
  obtain ⟨b1, b2⟩ := h.bne i s hM
  obtain ⟨D, m1, m2⟩ := h.sets i s hM
  have hs := h.sne hM
  have alone : ∀ j, mset M i none j ≠ some s := by
    intro j hj
    have := (leave_set (i := i) hD (idKey j)).2 ⟨j, hj, rfl⟩
    rw [size_zero o2 he] at this; cases this
  obtain ⟨lh1, lh2⟩ := leave_home (i := i) h
  have apart : ∀ j t, mset M i none j = some t → t ≠ s := fun j t hj q => alone j (q ▸ hj)
  have apartK : ∀ j t, mset M i none j = some t → spotKey t ≠ spotKey s := fun j t hj q => apart j t hj (spotInj (h.dom j t (mset_none.1 hj).2).2 (h.dom i s hM).2 q)
  refine ⟨⟨u3.blk (u2.blk (u1.blk h.obj h.gne.2) hs) h.gne.1, ownsMap_tight (ownsMap_upd (ownsMap_upd o1 u2 (fun q => b2 q.symm)) u3 h.ne.symm), ownsMap_tight o3, h.ne, ⟨h.low.1, h.low.2.1, fun j t hj => h.low.2.2 j t (mset_none.1 hj).2⟩,
    fun j t hj => h.dom j t (mset_none.1 hj).2, lh1, lh2, fun l => ?_, fun j t hj z => ?_, fun j t hj => ?_, fun j t hj => h.bne j t (mset_none.1 hj).2, fun j k t u hj hk => h.inj j k t u (mset_none.1 hj).2 (mset_none.1 hk).2⟩, ?_⟩
  · rw [has_del_iff, h.chas l]
    constructor
    · rintro ⟨q, j, t, hj, rfl⟩
      exact ⟨j, t, mset_none.2 ⟨fun e => q (by rw [e, hM] at hj; cases hj; rfl), hj⟩, rfl⟩
    · rintro ⟨j, t, hj, rfl⟩
      exact ⟨apartK j t hj, j, t, (mset_none.1 hj).2, rfl⟩
  · rw [atKey_del_other (apartK j t hj)]
    exact h.cat j t (mset_none.1 hj).2 z
  · obtain ⟨D, m1, m2⟩ := h.sets j t (mset_none.1 hj).2
    have q := apart j t hj
    refine ⟨D, ownsMap_upd (ownsMap_upd (ownsMap_upd m1 u1 (h.bne j t (mset_none.1 hj).2).2) u2 (fun e => q (h.inj j i t s (mset_none.1 hj).2 hM e))) u3 (h.bne j t (mset_none.1 hj).2).1, fun l => ?_⟩
    rw [m2 l]
    constructor
    · rintro ⟨k, hk, rfl⟩
      exact ⟨k, mset_none.2 ⟨fun e => q (by rw [e, hM] at hk; cases hk; rfl), hk⟩, rfl⟩
    · rintro ⟨k, hk, rfl⟩
      exact ⟨k, (mset_none.1 hk).2, rfl⟩
  · have s1 := ownsMap_Sm h.home h.low.2.1
    have s2 := ownsMap_Sm m1 (h.low.2.2 _ _ hM)
    have s3 := ownsMap_Sm h.cells h.low.1
    exact ((u1.mono (S' := Sm n0 w) fun b q => q ▸ s1).trans (u2.mono (S' := Sm n0 w) fun b q => q ▸ s2)).trans (u3.mono (S' := Sm n0 w) fun b q => q ▸ s3)
theorem mset_some {M : Nat → Option (Int × Int)} {i j : Nat} {s t : Int × Int} (hn : M i = none) : mset M i (some s) j = some t ↔ (j = i ∧ t = s) ∨ M j = some t := by
  unfold mset
  split
  · rename_i q; subst q; rw [hn]; simp [eq_comm]
  · rename_i q; simp [q]
theorem come_home (h : GA n0 w g cb hb DC DH B M) (hn : M i = none) : (∀ l, has (DH.put (idKey i) (spotD s)) l = true ↔ ∃ j t, mset M i (some s) j = some t ∧ l = idKey j) ∧ (∀ j t, mset M i (some s) j = some t → ∀ z, (DH.put (idKey i) (spotD s)).atKey (idKey j) z = spotD t) := by
  constructor
  · intro l
    rw [has_put_iff h.home.isMap (idLit i), h.hhas l]
    constructor
    · rintro (rfl | ⟨j, t, hj, rfl⟩)
      · exact ⟨i, s, (mset_some hn).2 (.inl ⟨rfl, rfl⟩), rfl⟩
      · exact ⟨j, t, (mset_some hn).2 (.inr hj), rfl⟩
    · rintro ⟨j, t, hj, rfl⟩
      rcases (mset_some hn).1 hj with ⟨rfl, rfl⟩ | hj
      · exact .inl rfl
      · exact .inr ⟨j, t, hj, rfl⟩
  · intro j t hj z
    rcases (mset_some hn).1 hj with ⟨rfl, rfl⟩ | hj
    · exact atKey_put_same h.home.isMap (idLit j) _ _
    · have q : j ≠ i := fun q => by rw [q, hn] at hj; cases hj
      rw [atKey_put_other (idKey_ne q)]
      exact h.hat j t hj z
/-- somebody comes into a cell in which somebody is -/
theorem GA.come1 (h : GA n0 w g cb hb DC DH B M) (hn : M i = none) (hi : i < 4294967296) {k : Nat} (hk : M k = some s) (hD : ∀ l, has D0 l = true ↔ ∃ j, M j = some s ∧ l = idKey j) (hD0 : IsMap D0)
    (o1 : w1.ownsMap Try.prog 38 unitElem (B s) n (D0.put (idKey i) unitD)) (u1 : Upd (fun x => x = B s) w w1)
    (o2 : w2.ownsMap Try.prog 38 spotElem hb n' (DH.put (idKey i) (spotD s))) (u2 : Upd (fun x => x = hb) w1 w2) :
    GA n0 w2 g cb hb DC (DH.put (idKey i) (spotD s)) B (mset M i (some s)) ∧ GUpd n0 w w2 := by
  obtain ⟨b1, b2⟩ := h.bne k s hk
  obtain ⟨D, m1, m2⟩ := h.sets k s hk
  obtain ⟨lh1, lh2⟩ := come_home (s := s) h hn
  have hdom := (h.dom k s hk).2
  have back : ∀ {j t}, mset M i (some s) j = some t → ∃ j', M j' = some t := fun hj => by
    rcases (mset_some hn).1 hj with ⟨rfl, rfl⟩ | hj
    · exact ⟨k, hk⟩
    · exact ⟨_, hj⟩
  refine ⟨⟨u2.blk (u1.blk h.obj (h.sne hk)) h.gne.2, ownsMap_tight o2, ownsMap_upd (ownsMap_upd h.cells u1 b1.symm) u2 h.ne, h.ne, ⟨h.low.1, h.low.2.1, fun j t hj => by obtain ⟨j', hj'⟩ := back hj; exact h.low.2.2 j' t hj'⟩, fun j t hj => ?_, lh1, lh2, fun l => ?_, fun j t hj => ?_, fun j t hj => ?_, fun j t hj => ?_, fun j j' t t' hj hj' => ?_⟩, ?_⟩
  · rcases (mset_some hn).1 hj with ⟨rfl, rfl⟩ | hj
    · exact ⟨hi, hdom⟩
    · exact h.dom j t hj
  · rw [h.chas l]
    constructor
    · rintro ⟨j, t, hj, rfl⟩; exact ⟨j, t, (mset_some hn).2 (.inr hj), rfl⟩
    · rintro ⟨j, t, hj, rfl⟩
      obtain ⟨j', hj'⟩ := back hj
      exact ⟨j', t, hj', rfl⟩
  · obtain ⟨j', hj'⟩ := back hj
    exact h.cat j' t hj'
  · by_cases q : t = s
    · subst q
      refine ⟨_, ownsMap_tight (ownsMap_upd o1 u2 b2), fun l => ?_⟩
      rw [has_put_iff hD0 (idLit i), hD l]
      constructor
      · rintro (rfl | ⟨j, hj, rfl⟩)
        · exact ⟨i, (mset_some hn).2 (.inl ⟨rfl, rfl⟩), rfl⟩
        · exact ⟨j, (mset_some hn).2 (.inr hj), rfl⟩
      · rintro ⟨j, hj, rfl⟩
        rcases (mset_some hn).1 hj with ⟨rfl, _⟩ | hj
        · exact .inl rfl
        · exact .inr ⟨j, hj, rfl⟩
    · have hj2 : M j = some t := by
        rcases (mset_some hn).1 hj with ⟨_, e⟩ | hj
        · exact absurd e q
        · exact hj
      obtain ⟨D, m1, m2⟩ := h.sets j t hj2
      refine ⟨D, ownsMap_upd (ownsMap_upd m1 u1 (fun e => q (h.inj j k t s hj2 hk e))) u2 (h.bne j t hj2).2, fun l => ?_⟩
      rw [m2 l]
      constructor
      · rintro ⟨j', hj', rfl⟩; exact ⟨j', (mset_some hn).2 (.inr hj'), rfl⟩
      · rintro ⟨j', hj', rfl⟩
        rcases (mset_some hn).1 hj' with ⟨_, e⟩ | hj'
        · exact absurd e q
        · exact ⟨j', hj', rfl⟩
  · obtain ⟨j', hj'⟩ := back hj
    exact h.bne j' t hj'
  · obtain ⟨x, hx⟩ := back hj
    obtain ⟨y, hy⟩ := back hj'
    exact h.inj x y t t' hx hy
  · have s1 := ownsMap_Sm h.home h.low.2.1
    have s2 := ownsMap_Sm m1 (h.low.2.2 _ _ hk)
    exact (u1.mono (S' := Sm n0 w) fun b q => q ▸ s2).trans (u2.mono (S' := Sm n0 w) fun b q => q ▸ s1)
/-- somebody comes into a cell in which nobody is -/
theorem GA.come2 (h : GA n0 w g cb hb DC DH B M) (hn : M i = none) (hi : i < 4294967296) (hs : inS s) (hk : ∀ k, M k ≠ some s) {nb : Nat} (hnb : w.heap.size ≤ nb)
    (o1 : w1.ownsMap Try.prog 68 setElem cb n (DC.put (spotKey s) (.lit (.int .u64 nb)))) (u1 : Upd (fun x => x = cb) w w1)
    (o2 : w2.ownsMap Try.prog 38 unitElem nb n' ((DataW.map []).put (idKey i) unitD)) (u2 : Upd (fun x => x = nb) w1 w2)
    {n3 : Nat} (o3 : w3.ownsMap Try.prog 38 spotElem hb n3 (DH.put (idKey i) (spotD s))) (u3 : Upd (fun x => x = hb) w2 w3) :
    GA n0 w3 g cb hb (DC.put (spotKey s) (.lit (.int .u64 nb))) (DH.put (idKey i) (spotD s)) (fun t => if t = s then nb else B t) (mset M i (some s)) ∧ GUpd n0 w w3 := by
  obtain ⟨lh1, lh2⟩ := come_home (s := s) h hn
  have cl := h.cells.lt
  have hl := h.home.lt
  have gl : g < w.heap.size := (Array.getElem?_eq_some_iff.1 h.obj).1
  have bl : ∀ j t, M j = some t → B t < w.heap.size := fun j t hj => by
    obtain ⟨D, m1, _⟩ := h.sets j t hj
    exact m1.lt
  have apart : ∀ j t, M j = some t → t ≠ s := fun j t hj q => hk j (q ▸ hj)
  have apartK : ∀ j t, M j = some t → spotKey t ≠ spotKey s := fun j t hj q => apart j t hj (spotInj (h.dom j t hj).2 hs q)
  have lowB : ∀ j t, mset M i (some s) j = some t → n0 ≤ (if t = s then nb else B t) := fun j t hj => by
    have := h.low.1
    split
    · omega
    · rename_i q
      rcases (mset_some hn).1 hj with ⟨_, e⟩ | hj
      · exact absurd e q
      · exact h.low.2.2 j t hj
  refine ⟨⟨u3.blk (u2.blk (u1.blk h.obj h.gne.1) (by omega)) h.gne.2, ownsMap_tight o3, ownsMap_tight (ownsMap_upd (ownsMap_upd o1 u2 (by omega)) u3 h.ne), h.ne, ⟨h.low.1, h.low.2.1, lowB⟩, fun j t hj => ?_, lh1, lh2, fun l => ?_, fun j t hj z => ?_, fun j t hj => ?_, fun j t hj => ?_, fun j j' t t' hj hj' => ?_⟩, ?_⟩
  · rcases (mset_some hn).1 hj with ⟨rfl, rfl⟩ | hj
    · exact ⟨hi, hs⟩
    · exact h.dom j t hj
  · rw [has_put_iff h.cells.isMap (spotLit hs), h.chas l]
    constructor
    · rintro (rfl | ⟨j, t, hj, rfl⟩)
      · exact ⟨i, s, (mset_some hn).2 (.inl ⟨rfl, rfl⟩), rfl⟩
      · exact ⟨j, t, (mset_some hn).2 (.inr hj), rfl⟩
    · rintro ⟨j, t, hj, rfl⟩
      rcases (mset_some hn).1 hj with ⟨rfl, rfl⟩ | hj
      · exact .inl rfl
      · exact .inr ⟨j, t, hj, rfl⟩
  · rcases (mset_some hn).1 hj with ⟨rfl, rfl⟩ | hj
    · rw [if_pos rfl]; exact atKey_put_same h.cells.isMap (spotLit hs) _ _
    · rw [atKey_put_other (apartK j t hj), if_neg (apart j t hj)]
      exact h.cat j t hj z
  · rcases (mset_some hn).1 hj with ⟨rfl, rfl⟩ | hj
    · rw [if_pos rfl]
      refine ⟨_, ownsMap_tight (ownsMap_upd o2 u3 (by omega)), fun l => ?_⟩
      rw [has_put_iff ⟨_, rfl⟩ (idLit j)]
      constructor
      · rintro (rfl | q)
        · exact ⟨j, (mset_some hn).2 (.inl ⟨rfl, rfl⟩), rfl⟩
        · cases q
      · rintro ⟨j', hj', rfl⟩
        rcases (mset_some hn).1 hj' with ⟨rfl, _⟩ | hj'
        · exact .inl rfl
        · exact absurd hj' (hk j')
    · rw [if_neg (apart j t hj)]
      obtain ⟨D, m1, m2⟩ := h.sets j t hj
      have := bl j t hj
      refine ⟨D, ownsMap_upd (ownsMap_upd (ownsMap_upd m1 u1 (h.bne j t hj).1) u2 (by omega)) u3 (h.bne j t hj).2, fun l => ?_⟩
      rw [m2 l]
      constructor
      · rintro ⟨j', hj', rfl⟩; exact ⟨j', (mset_some hn).2 (.inr hj'), rfl⟩
      · rintro ⟨j', hj', rfl⟩
        rcases (mset_some hn).1 hj' with ⟨_, e⟩ | hj'
        · exact absurd e (apart j t hj)
        · exact ⟨j', hj', rfl⟩
  · rcases (mset_some hn).1 hj with ⟨rfl, rfl⟩ | hj
    · rw [if_pos rfl]; omega
    · rw [if_neg (apart j t hj)]; exact h.bne j t hj
  · rcases (mset_some hn).1 hj with ⟨e1, e2⟩ | h2 <;> rcases (mset_some hn).1 hj' with ⟨e3, e4⟩ | h3
    · exact fun _ => e2.trans e4.symm
    · rw [if_pos e2, if_neg (apart j' t' h3)]; have := bl j' t' h3; omega
    · rw [if_pos e4, if_neg (apart j t h2)]; have := bl j t h2; omega
    · rw [if_neg (apart j t h2), if_neg (apart j' t' h3)]; exact h.inj j j' t t' h2 h3
  · have s1 := ownsMap_Sm h.home h.low.2.1
    have s3 := ownsMap_Sm h.cells h.low.1
    exact ((u1.mono (S' := Sm n0 w) fun b q => q ▸ s3).then u2 (fun b q => .inr (q ▸ hnb))).trans (u3.mono (S' := Sm n0 w) fun b q => q ▸ s1)
end
end Go.Proofs.Ytohflgpkimnodaa
