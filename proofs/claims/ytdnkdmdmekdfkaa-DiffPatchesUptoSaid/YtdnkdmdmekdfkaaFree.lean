/- Regions that draw their order, whose operations only make memory, and that end in a tail: each operation is shown once, in whatever world and order. -/
import Derived.Test.YtdnkdmdmekdfkaaKit
import Derived.StillTail
namespace Go.Proofs.Ytdnkdmdmekdfkaa
open Go.RowKit
section
variable {P : Program} {ops : Array Oper} {n : Nat}

def dstAt (ops : Array Oper) (j : Nat) : Option Tmp := (ops[j]?).bind (·.dst)
/-- what is asked of the head's operations: no guard, a slot of its own, and they wait for earlier ones alone -/
def headB (l0 : Array Bool) (ops : Array Oper) (n N : Nat) : Bool :=
  (List.range n).all fun i => l0.getD i false || match ops[i]? with
    | some o => o.guard.isNone && (match o.dst with | some t => decide (t < N) | none => false) && (o.after.all fun e => !Region.binds .any e || decide (e.on < i)) &&
      ((List.range i).all fun j => l0.getD j false || dstAt ops j != dstAt ops i)
    | none => false
def headDone (ops : Array Oper) (n : Nat) : Array Bool := (Array.range ops.size).map fun i => decide (i < n)
def sink0 (l0 : Array Bool) (ops : Array Oper) (n : Nat) : Bool :=
  (List.range n).all fun i => l0.getD i false || (List.range (n + 1)).any fun j => decide (i < j) && Region.waitsFor .any ops j i
def freeB (l0 : Array Bool) (ops : Array Oper) (n N : Nat) : Bool :=
  decide (n < ops.size) && sink0 l0 ops n && Region.chainB .any ops n && headB l0 ops n N && Region.seqB .any ops (ops.size - n) n (headDone ops n)
theorem tail_waits0 {l0 listed : Array Bool} (hs : sink0 l0 ops n = true) (hc : Region.chainB .any ops n = true) (hn : n < ops.size) (inv : HeadInv .any ops n listed) (hl0 : ∀ j, l0.getD j false = true → listed.getD j false = true) :
    ∀ (d i : Nat), n - i = d → i < n → listed.getD i true = false → ∀ t, n ≤ t → t ∉ Region.ready .any ops listed := by
  intro d
  induction d using Nat.strongRecOn with
  | _ d ih =>
    intro i hd hi hun t ht hr
    obtain ⟨_, ot, hot, hall⟩ := mem_ready.1 hr
    have htlt : t < ops.size := (Array.getElem?_eq_some_iff.1 hot).1
    by_cases htn : t = n
    · subst htn
      have h1 := List.all_eq_true.1 hs i (List.mem_range.2 hi)
      have hi0 : l0.getD i false = false := by
        cases hq : l0.getD i false with
        | false => rfl
        | true => have := hl0 i hq; rw [getD_both hun] at this; cases this
      rw [hi0, Bool.false_or] at h1
      obtain ⟨j, hj, hj2⟩ := List.any_eq_true.1 h1
      simp only [Bool.and_eq_true, decide_eq_true_eq] at hj2
      obtain ⟨oj, hoj, e, he, hb, hon⟩ := Region.waitsFor_spec hj2.2
      have hjle : j ≤ t := by have := List.mem_range.1 hj; omega
      by_cases hjt : j = t
      · subst hjt
        have : oj = ot := Option.some.inj (hoj.symm.trans hot)
        subst this
        have h2 := hall e he hb
        rw [hon, getD_both hun] at h2
        cases h2
      · cases hl : listed.getD j false with
        | true =>
          have h2 := inv.closed j oj hoj hl e he hb
          rw [hon, getD_both hun] at h2
          cases h2
        | false =>
          have hjs : j < listed.size := by rw [inv.size]; omega
          exact ih (t - j) (by omega) j rfl (by omega) (getD_in hjs hl) t (Nat.le_refl _) hr
    · have h1 := List.all_eq_true.1 hc t (List.mem_range.2 htlt)
      simp only [Bool.or_eq_true, decide_eq_true_eq] at h1
      rcases h1 with h1 | h1
      · omega
      · obtain ⟨o', ho', e, he, hb, hon⟩ := Region.waitsFor_spec h1
        have : o' = ot := Option.some.inj (ho'.symm.trans hot)
        subst this
        have h2 := hall e he hb
        rw [hon, getD_both (inv.tail (t - 1) (by omega) (by omega))] at h2
        cases h2

/-- the frame, while the head is under way -/
structure FreeOk (l0 : Array Bool) (ops : Array Oper) (n : Nat) (base a : Act) (listed : Array Bool) : Prop where
  size : a.tmps.size = base.tmps.size
  defers : a.defers = base.defers
  other : ∀ t, (∀ j, j < n → l0.getD j false = false → listed.getD j false = true → dstAt ops j ≠ some t) → a.tmps.getD t undef = base.tmps.getD t undef

theorem headB_at {l0 : Array Bool} {N i : Nat} (h : headB l0 ops n N = true) (hi : i < n) (hi0 : l0.getD i false = false) : ∃ o t, ops[i]? = some o ∧ o.guard = none ∧ o.dst = some t ∧ t < N ∧ (∀ e ∈ o.after, Region.binds .any e = true → e.on < i) ∧ ∀ j, j < i → l0.getD j false = false → dstAt ops j ≠ some t := by
  have h1 := List.all_eq_true.1 h i (List.mem_range.2 hi)
  rw [hi0, Bool.false_or] at h1
  split at h1
  · rename_i o ho
    simp only [Bool.and_eq_true, Option.isNone_iff_eq_none] at h1
    obtain ⟨⟨⟨hg, ht⟩, ha⟩, hd⟩ := h1
    split at ht
    · rename_i t hdst
      refine ⟨o, t, ho, hg, hdst, by simpa using ht, fun e he hb => ?_, fun j hj hj0 => ?_⟩
      · have := Array.all_eq_true'.1 ha e he
        simpa [hb] using this
      · have := List.all_eq_true.1 hd j (List.mem_range.2 hj)
        have e2 : dstAt ops i = some t := by simp [dstAt, ho, hdst]
        rw [e2, hj0, Bool.false_or] at this
        simpa using this
    · cases ht
  · cases h1
def unlisted (n : Nat) (listed : Array Bool) : Nat := ((List.range n).filter fun j => !listed.getD j false).length
theorem unlisted_zero {listed : Array Bool} (h : unlisted n listed = 0) (j : Nat) (hj : j < n) : listed.getD j false = true := by
  have := List.eq_nil_of_length_eq_zero h
  rw [List.filter_eq_nil_iff] at this
  simpa using this j (List.mem_range.2 hj)
theorem unlisted_set {listed : Array Bool} {i : Nat} (hi : i < n) (hs : i < listed.size) (hu : listed.getD i false = false) : unlisted n (listed.setIfInBounds i true) + 1 = unlisted n listed := by
  unfold unlisted
  have hr : List.range n = List.range i ++ i :: (List.range (n - i - 1)).map (i + 1 + ·) := by
    rw [show n = i + (1 + (n - i - 1)) by omega, List.range_add, show 1 + (n - i - 1) = (n - i - 1) + 1 by omega, List.range_succ_eq_map]
    simp only [List.map_cons, Nat.add_zero, List.map_map, Nat.add_sub_cancel, show i + (n - i - 1 + 1) - i - 1 = n - i - 1 by omega]
    congr 2
    apply List.map_congr_left
    intro x _
    simp; omega
  rw [hr]
  simp only [List.filter_append, List.filter_cons, List.length_append]
  have e1 : (List.range i).filter (fun j => !(listed.setIfInBounds i true).getD j false) = (List.range i).filter fun j => !listed.getD j false := by
    apply List.filter_congr
    intro j hj
    have : i ≠ j := by have := List.mem_range.1 hj; omega
    rw [getD_set_ne false this]
  have e2 : ((List.range (n - i - 1)).map (i + 1 + ·)).filter (fun j => !(listed.setIfInBounds i true).getD j false) = ((List.range (n - i - 1)).map (i + 1 + ·)).filter fun j => !listed.getD j false := by
    apply List.filter_congr
    intro j hj
    obtain ⟨q, _, rfl⟩ := List.mem_map.1 hj
    rw [getD_set_ne false (by omega)]
  have e3 : (listed.setIfInBounds i true).getD i false = true := by simp [hs]
  rw [e1, e2, e3, hu]
  simp; omega

/-- THE LAW: those of l0 are done already. -/
theorem wpAny_free {Q : Exit → Act → World → Prop} {base : Act} {w : World} {l : List Oper} (l0 : Array Bool) (n N : Nat) (Φ : Nat → Value → World → Prop) (stable : ∀ j v w1 w2, New w1 w2 → Φ j v w1 → Φ j v w2)
    (hN : base.tmps.size = N) (hB : freeB l0 l.toArray n N = true) (inv0 : HeadInv .any l.toArray n l0)
    (ob : ∀ i, i < n → l0.getD i false = false → ∀ o, l.toArray[i]? = some o → ∀ (a : Act) (w' : World) (K : Act → World → Prop), New w w' →
      (∀ t, (∀ j, j < n → l0.getD j false = false → dstAt l.toArray j ≠ some t) → a.tmps.getD t undef = base.tmps.getD t undef) →
      (∀ j, j < n → l0.getD j false = false → ∀ t, Region.waitsFor .any l.toArray i j = true → dstAt l.toArray j = some t → Φ j (a.tmps.getD t undef) w') →
      (∀ v w'', New w' w'' → Φ i v w'' → K (a.put o.dst v) w'') → Oper.wp P o a w' K Q)
    (tail : ∀ (a : Act) (w' : World), New w w' → a.tmps.size = N → a.defers = base.defers →
      (∀ t, (∀ j, j < n → l0.getD j false = false → dstAt l.toArray j ≠ some t) → a.tmps.getD t undef = base.tmps.getD t undef) →
      (∀ j, j < n → l0.getD j false = false → ∀ t, dstAt l.toArray j = some t → Φ j (a.tmps.getD t undef) w') → wpList P l.toArray Q (l.drop n) a w') : wpAny P .any l.toArray Q (unlisted n l0 + (l.toArray.size - n)) l0 base w := by
  simp only [freeB, Bool.and_eq_true, decide_eq_true_eq] at hB
  obtain ⟨⟨⟨⟨hn, hs⟩, hc⟩, hh⟩, hq⟩ := hB
  have main : ∀ (f : Nat) (listed : Array Bool) (a : Act) (w' : World), HeadInv .any l.toArray n listed → (∀ j, l0.getD j false = true → listed.getD j false = true) → FreeOk l0 l.toArray n base a listed → New w w' →
      (∀ j, j < n → l0.getD j false = false → listed.getD j false = true → ∀ t, dstAt l.toArray j = some t → Φ j (a.tmps.getD t undef) w') → unlisted n listed = f → wpAny P .any l.toArray Q (f + (l.toArray.size - n)) listed a w' := by
    intro f
    induction f with
    | zero =>
      intro listed a w' inv hl0 ok hw hΦ hf
      have hall := unlisted_zero hf
      have he : listed = headDone l.toArray n := by
        apply Array.ext
        · rw [inv.size]; simp [headDone]
        · intro i h1 h2
          have h3 : i < l.toArray.size := by rw [← inv.size]; exact h1
          simp only [headDone, Array.getElem_map, Array.getElem_range]
          by_cases hi : i < n
          · have := hall i hi
            simpa [h1, hi] using this
          · have := inv.tail i (by omega) h3
            simp only [hi, decide_false]
            simpa [h1] using this
      rw [he, Nat.zero_add]
      have hl : (l.drop n).length = l.toArray.size - n := by simp
      have := wpAny_of_seq (md := .any) (Q' := Q) (P := P) (ops := l.toArray) (l.drop n) n (headDone l.toArray n) a w' (fun j => by simp [List.getElem?_drop]) (by rw [hl]; exact hq)
        (tail a w' hw (by rw [ok.size, hN]) ok.defers (fun t ht => ok.other t (fun j hj hj0 _ => ht j hj hj0)) (fun j hj hj0 t ht => hΦ j hj hj0 (hall j hj) t ht))
      rwa [hl] at this
    | succ f ih =>
      intro listed a w' inv hl0 ok hw hΦ hf
      have hex : ∃ i0, i0 < n ∧ listed.getD i0 false = false := by
        rcases Classical.em (∃ i0, i0 < n ∧ listed.getD i0 false = false) with h | h
        · exact h
        · exfalso
          have : unlisted n listed = 0 := by
            unfold unlisted
            rw [List.length_eq_zero_iff, List.filter_eq_nil_iff]
            intro j hj
            have hj' := List.mem_range.1 hj
            cases hl : listed.getD j false with
            | true => simp
            | false => exact absurd ⟨j, hj', hl⟩ h
          omega
      have hnot0 : ∀ i, listed.getD i false = false → l0.getD i false = false := fun i hi => by
        cases hq : l0.getD i false with
        | false => rfl
        | true => rw [hl0 i hq] at hi; cases hi
      rw [show f + 1 + (l.toArray.size - n) = (f + (l.toArray.size - n)) + 1 by omega]
      refine ⟨fun h0 => ?_, fun i hi => ?_⟩
      · -- the least one that is not listed is ready
        exfalso
        obtain ⟨i0, hi0, hu0⟩ := hex
        have hleast : ∀ d i, i < n → listed.getD i false = false → i = d → False := by
          intro d
          induction d using Nat.strongRecOn with
          | ind d ihd =>
            intro i hin hun hid
            obtain ⟨o, t, ho, _, _, _, haft, _⟩ := headB_at hh hin (hnot0 i hun)
            have his : i < listed.size := by rw [inv.size]; omega
            have hr : i ∈ Region.ready .any l.toArray listed := by
              refine mem_ready.2 ⟨getD_in his hun, o, ho, fun e he hb => ?_⟩
              cases hl : listed.getD e.on false with
              | true => rfl
              | false => exact (ihd e.on (by have := haft e he hb; omega) e.on (by have := haft e he hb; omega) hl rfl).elim
            rw [h0] at hr
            cases hr
        exact hleast i0 i0 hi0 hu0 rfl
      · have hin : i < n := by
          obtain ⟨i0, hi0, hu0⟩ := hex
          rcases Nat.lt_or_ge i n with h | h
          · exact h
          · exact absurd hi (tail_waits0 hs hc hn inv hl0 _ i0 rfl hi0 (getD_in (by rw [inv.size]; omega) hu0) i h)
        obtain ⟨hiu, oi, hoi, hall⟩ := mem_ready.1 hi
        have hu : listed.getD i false = false := getD_both hiu
        have hi00 := hnot0 i hu
        obtain ⟨o, t, ho, hg, hdst, htN, _, hnd⟩ := headB_at hh hin hi00
        obtain rfl : oi = o := Option.some.inj (hoi.symm.trans ho)
        have hdi : dstAt l.toArray i = some t := by simp only [dstAt, ho]; exact hdst
        have hapart : ∀ j, j < n → l0.getD j false = false → j ≠ i → dstAt l.toArray j ≠ some t := by
          intro j hj hj0 hji e
          rcases Nat.lt_or_ge j i with q | q
          · exact hnd j q hj0 e
          · obtain ⟨oj, tj, hoj, _, hdj, _, _, hndj⟩ := headB_at hh hj hj0
            have : dstAt l.toArray j = some tj := by simp only [dstAt, hoj]; exact hdj
            rw [this] at e
            obtain rfl := Option.some.inj e
            exact hndj i (by omega) hi00 hdi
        unfold wpOp
        rw [ho]
        simp only
        rw [if_pos (by simp [Region.wanted, hg])]
        refine .inl (ob i hin hi00 oi ho a w' _ hw (fun t' ht' => ok.other t' (fun j hj hj0 _ => ht' j hj hj0)) (fun j hj hj0 t' hwf ht' => ?_) (fun v w'' hnew hΦv => ?_))
        · obtain ⟨o', ho', e, he, hb, hon⟩ := Region.waitsFor_spec hwf
          obtain rfl : oi = o' := Option.some.inj (ho.symm.trans ho')
          have := hall e he hb
          rw [hon] at this
          exact hΦ j hj hj0 this t' ht'
        · have his : i < listed.size := by rw [inv.size]; omega
          have hput : a.put oi.dst v = { a with tmps := a.tmps.setIfInBounds t v } := by rw [hdst]; rfl
          have htl : t < a.tmps.size := by rw [ok.size, hN]; exact htN
          have hget : ∀ t', (a.put oi.dst v).tmps.getD t' undef = if t' = t then v else a.tmps.getD t' undef := by
            intro t'
            rw [hput]
            by_cases e : t' = t
            · subst e; simp [htl]
            · rw [if_neg e]
              simp only [Array.getD_eq_getD_getElem?, Array.getElem?_setIfInBounds, if_neg (fun q => e (Eq.symm q) : ¬ t = t')]
          have hset : ∀ j, (listed.setIfInBounds i true).getD j false = true → j = i ∨ listed.getD j false = true := by
            intro j hj
            by_cases e : i = j
            · exact .inl e.symm
            · rw [getD_set_ne false e] at hj; exact .inr hj
          refine ih _ _ _ (inv.set hi hin) (fun j hj => getD_set_true (hl0 j hj)) ⟨by rw [hput]; simp [ok.size], by rw [hput]; exact ok.defers, fun t' ht' => ?_⟩ (hw.trans hnew) (fun j hj hj0 hl t' ht' => ?_) ?_
          · rw [hget, if_neg]
            · exact ok.other t' (fun j hj hj0 hl => ht' j hj hj0 (getD_set_true hl))
            · intro e
              subst e
              exact ht' i hin hi00 (by simp [his]) hdi
          · rw [hget]
            by_cases hji : j = i
            · subst hji
              rw [hdi] at ht'
              obtain rfl := Option.some.inj ht'
              rw [if_pos rfl]; exact hΦv
            · rw [if_neg (fun e => hapart j hj hj0 hji (by rw [ht', e]))]
              refine stable _ _ _ _ hnew (hΦ j hj hj0 ((hset j hl).resolve_left hji) t' ht')
          · have := unlisted_set hin his hu
            omega
  exact main (unlisted n l0) l0 base w inv0 (fun j h => h) ⟨rfl, rfl, fun _ _ => rfl⟩ (Upd.refl _ _) (fun j _ h hl => by rw [h] at hl; cases hl) rfl

/-- the slots of the head, written one by one -/
def putAll (base : Act) : List (Option Tmp × Value) → Act
  | [] => base
  | p :: ps => putAll (base.put p.1 p.2) ps
theorem putAll_size (ps : List (Option Tmp × Value)) : ∀ base : Act, (putAll base ps).tmps.size = base.tmps.size ∧ (putAll base ps).defers = base.defers := by
  induction ps with
  | nil => intro base; exact ⟨rfl, rfl⟩
  | cons p ps ih =>
    intro base
    have h := ih (base.put p.1 p.2)
    rw [putAll]
    cases hp : p.1 with
    | none => rw [hp] at h; exact h
    | some t => rw [hp] at h; simpa [Act.put] using h
theorem putAll_other (t : Tmp) (ps : List (Option Tmp × Value)) : ∀ base : Act, (∀ p ∈ ps, p.1 ≠ some t) → (putAll base ps).tmps.getD t undef = base.tmps.getD t undef := by
  induction ps with
  | nil => intro base _; rfl
  | cons p ps ih =>
    intro base h
    rw [putAll, ih _ (fun q hq => h q (List.mem_cons_of_mem _ hq))]
    cases hp : p.1 with
    | none => rfl
    | some t' =>
      have : t' ≠ t := fun e => h p (List.mem_cons_self ..) (by rw [hp, e])
      simp only [Act.put, Array.getD_eq_getD_getElem?, Array.getElem?_setIfInBounds, if_neg this]
theorem putAll_at (t : Tmp) (v : Value) (ps : List (Option Tmp × Value)) : ∀ base : Act, t < base.tmps.size → (ps.map (·.1)).Pairwise (· ≠ ·) → (some t, v) ∈ ps → (putAll base ps).tmps.getD t undef = v := by
  induction ps with
  | nil => intro base _ _ h; cases h
  | cons p ps ih =>
    intro base hs hd hm
    rw [List.map_cons, List.pairwise_cons] at hd
    rw [putAll]
    rcases List.mem_cons.1 hm with rfl | hm
    · rw [putAll_other t ps _ (fun q hq e => hd.1 q.1 (List.mem_map.2 ⟨q, hq, rfl⟩) e.symm)]
      simp [Act.put, hs]
    · refine ih _ ?_ hd.2 hm
      cases p.1 with
      | none => exact hs
      | some t' => simpa [Act.put] using hs
/-- the head's indexes and slots -/
def heads (l0 : Array Bool) (n : Nat) : List Nat := (List.range n).filter fun i => !l0.getD i false
theorem mem_heads {l0 : Array Bool} {n i : Nat} : i ∈ heads l0 n ↔ i < n ∧ l0.getD i false = false := by simp [heads]
/-- THE LAW, the frame written out: what the head's slots hold has the names vs. -/
theorem wpAny_free' {Q : Exit → Act → World → Prop} {base : Act} {w : World} {l : List Oper} (l0 : Array Bool) (n N : Nat) (Φ : Nat → Value → World → Prop) (stable : ∀ j v w1 w2, New w1 w2 → Φ j v w1 → Φ j v w2)
    (hN : base.tmps.size = N) (hB : freeB l0 l.toArray n N = true) (inv0 : HeadInv .any l.toArray n l0)
    (ob : ∀ i, i < n → l0.getD i false = false → ∀ o, l.toArray[i]? = some o → ∀ (a : Act) (w' : World) (K : Act → World → Prop), New w w' →
      (∀ t, (∀ j, j < n → l0.getD j false = false → dstAt l.toArray j ≠ some t) → a.tmps.getD t undef = base.tmps.getD t undef) →
      (∀ j, j < n → l0.getD j false = false → ∀ t, Region.waitsFor .any l.toArray i j = true → dstAt l.toArray j = some t → Φ j (a.tmps.getD t undef) w') →
      (∀ v w'', New w' w'' → Φ i v w'' → K (a.put o.dst v) w'') → Oper.wp P o a w' K Q)
    (tail : ∀ (val : Nat → Value) (w' : World), New w w' → (∀ j, j < n → l0.getD j false = false → Φ j (val j) w') → wpList P l.toArray Q (l.drop n) (putAll base ((heads l0 n).map fun j => (dstAt l.toArray j, val j))) w') : wpAny P .any l.toArray Q (unlisted n l0 + (l.toArray.size - n)) l0 base w := by
  refine wpAny_free l0 n N Φ stable hN hB inv0 ob ?_
  intro a w' hw hsize hdef hother hΦ
  simp only [freeB, Bool.and_eq_true, decide_eq_true_eq] at hB
  obtain ⟨⟨⟨⟨hn, _⟩, _⟩, hh⟩, _⟩ := hB
  have hd : ∀ j, j < n → l0.getD j false = false → ∃ t, dstAt l.toArray j = some t ∧ t < N := fun j hj hj0 => by
    obtain ⟨o, t, ho, _, hdst, ht, _⟩ := headB_at hh hj hj0
    exact ⟨t, by simp only [dstAt, ho]; exact hdst, ht⟩
  have hvs := tail (fun j => a.tmps.getD ((dstAt l.toArray j).getD 0) undef) w' hw (fun j hj hj0 => by
    obtain ⟨t, ht, _⟩ := hd j hj hj0
    have := hΦ j hj hj0 t ht
    simpa [ht] using this)
  generalize hps : ((heads l0 n).map fun j => (dstAt l.toArray j, a.tmps.getD ((dstAt l.toArray j).getD 0) undef)) = ps at hvs
  have hpw : (ps.map (·.1)).Pairwise (· ≠ ·) := by
    rw [← hps, List.map_map, List.pairwise_map]
    refine List.Pairwise.imp_of_mem ?_ ((List.pairwise_lt_range (n := n)).filter _)
    intro i j hi hj hij e
    obtain ⟨hj', hj0⟩ := mem_heads.1 hj
    obtain ⟨hi', hi0⟩ := mem_heads.1 hi
    obtain ⟨o, t, ho, _, hdst, _, _, hnd⟩ := headB_at hh hj' hj0
    have e2 : dstAt l.toArray j = some t := by simp only [dstAt, ho]; exact hdst
    exact hnd i hij hi0 (by rw [← e2]; exact e)
  have he : a = putAll base ps := by
    obtain ⟨h1, h2⟩ := putAll_size ps base
    have htm : a.tmps = (putAll base ps).tmps := by
      apply Array.ext
      · rw [h1, hN, hsize]
      · intro t ht1 ht2
        have key : a.tmps.getD t undef = (putAll base ps).tmps.getD t undef := by
          rcases Classical.em (∃ j, j < n ∧ l0.getD j false = false ∧ dstAt l.toArray j = some t) with ⟨j, hj, hj0, ht⟩ | hno
          · rw [putAll_at t (a.tmps.getD t undef) _ base (by rw [hN, ← hsize]; exact ht1) hpw (by rw [← hps]; exact List.mem_map.2 ⟨j, mem_heads.2 ⟨hj, hj0⟩, by rw [ht]; rfl⟩)]
          · rw [hother t (fun j hj hj0 e => hno ⟨j, hj, hj0, e⟩), putAll_other t _ base (fun p hp e => by
              rw [← hps] at hp
              obtain ⟨j, hj, rfl⟩ := List.mem_map.1 hp
              exact hno ⟨j, (mem_heads.1 hj).1, (mem_heads.1 hj).2, e⟩)]
        rw [Array.getD_eq_getD_getElem?, Array.getD_eq_getD_getElem?, Array.getElem?_eq_getElem ht1, Array.getElem?_eq_getElem ht2] at key
        exact key
    have h3 := hdef.trans h2.symm
    have ext : ∀ x y : Act, x.tmps = y.tmps → x.defers = y.defers → x = y := by
      intro x y e1 e2
      cases x; cases y
      simp only at e1 e2
      rw [e1, e2]
    exact ext _ _ htm h3
  rw [he]
  exact hvs
/-- an operation of the head, met in whatever world: its slots by name -/
structure Met1 (P : Program) (l0 : Array Bool) (ops : Array Oper) (n : Nat) (Φ : Nat → Value → World → Prop) (base : Act) (w0 : World) (i : Nat) (a : Act) (w' : World) : Prop where
  new : New w0 w'
  base_ : ∀ t v, base.tmps.getD t undef = v → ((List.range n).all fun j => l0.getD j false || dstAt ops j != some t) = true → a.tmps.getD t undef = v
  dep : ∀ j t, (decide (j < n) && !l0.getD j false && Region.waitsFor .any ops i j && dstAt ops j == some t) = true → Φ j (a.tmps.getD t undef) w'
/-- closed: what those that are done wait for is done -/
def closedB (l0 : Array Bool) (ops : Array Oper) (n : Nat) : Bool :=
  decide (l0.size = ops.size) && ((List.range ops.size).all fun j => (!l0.getD j false || match ops[j]? with | some o => o.after.all fun e => !Region.binds .any e || l0.getD e.on false | none => true)) &&
    ((List.range ops.size).all fun t => decide (t < n) || !l0.getD t true)
theorem closed_inv {l0 : Array Bool} {n : Nat} {ops : Array Oper} (h : closedB l0 ops n = true) : HeadInv .any ops n l0 := by
  simp only [closedB, Bool.and_eq_true, decide_eq_true_eq] at h
  obtain ⟨⟨h1, h2⟩, h3⟩ := h
  refine ⟨h1, fun j oj ho hl e he hb => ?_, fun t ht ht' => ?_⟩
  · have hj : j < ops.size := (Array.getElem?_eq_some_iff.1 ho).1
    have := List.all_eq_true.1 h2 j (List.mem_range.2 hj)
    rw [hl, ho] at this
    simp only [Bool.not_true, Bool.false_or] at this
    have := Array.all_eq_true'.1 this e he
    simpa [hb] using this
  · have := List.all_eq_true.1 h3 t (List.mem_range.2 ht')
    simp only [Bool.or_eq_true, decide_eq_true_eq] at this
    rcases this with q | q
    · omega
    · simpa using q
/-- THE LAW, for use: the operations one by one; those of l0 are done. -/
theorem wp_free {Q : Exit → Act → World → Prop} {base : Act} {w : World} {l : List Oper} {l0 : Array Bool} {fuel : Nat} (n N : Nat) (Φ : Nat → Value → World → Prop) (stable : ∀ j v w1 w2, New w1 w2 → Φ j v w1 → Φ j v w2)
    (hN : base.tmps.size = N) (hB : freeB l0 l.toArray n N = true) (hC : closedB l0 l.toArray n = true) (hf : fuel = unlisted n l0 + (l.toArray.size - n))
    (ob : ∀ (a : Act) (w' : World) (K : Act → World → Prop) (i : Nat) (o : Oper), i ∈ heads l0 n → l.toArray[i]? = some o → Met1 P l0 l.toArray n Φ base w i a w' →
      (∀ v w'', New w' w'' → Φ i v w'' → K (a.put o.dst v) w'') → Oper.wp P o a w' K Q)
    (tail : ∀ (val : Nat → Value) (w' : World), New w w' → (∀ j, j ∈ heads l0 n → Φ j (val j) w') → wpList P l.toArray Q (l.drop n) (putAll base ((heads l0 n).map fun j => (dstAt l.toArray j, val j))) w') : wpAny P .any l.toArray Q fuel l0 base w := by
  subst hf
  refine wpAny_free' l0 n N Φ stable hN hB (closed_inv hC) ?_ (fun val w' hw h => tail val w' hw (fun j hj => h j (mem_heads.1 hj).1 (mem_heads.1 hj).2))
  intro i hi hi0 o ho a w' K hw hbase hdep hK
  refine ob a w' K i o (mem_heads.2 ⟨hi, hi0⟩) ho ⟨hw, fun t v hv h => ?_, fun j t h => ?_⟩ hK
  · rw [← hv]
    refine hbase t fun j hj hj0 => ?_
    have := List.all_eq_true.1 h j (List.mem_range.2 hj)
    rw [hj0, Bool.false_or] at this
    simpa using this
  · simp only [Bool.and_eq_true, decide_eq_true_eq, beq_iff_eq, Bool.not_eq_true'] at h
    exact hdep j h.1.1.1 h.1.1.2 t h.1.2 h.2
theorem free_run {o : Oper} {a : Act} {w' : World} {K : Act → World → Prop} {Q : Exit → Act → World → Prop} (v : Value) (w'' : World) (h : (execOp a.eval o).run P w' = .ok (.value v) w'') (k : K (a.put o.dst v) w'') : Oper.wp P o a w' K Q := by
  unfold Oper.wp
  rw [h]
  exact k
end
end Go.Proofs.Ytdnkdmdmekdfkaa
