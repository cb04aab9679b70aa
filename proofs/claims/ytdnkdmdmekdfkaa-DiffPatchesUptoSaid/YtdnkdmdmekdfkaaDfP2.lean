/- The plain law of deltas: over its own delta a snapshot becomes the other one, and no other. -/
import Derived.Test.YtdnkdmdmekdfkaaDf15
namespace Go.Proofs.Ytdnkdmdmekdfkaa
open Go.RowKit
section keyed
variable {α : Type} (κ : α → Nat)
def hasK (M : List α) (i : Nat) : Bool := M.any fun y => κ y == i
def Srt (L : List α) : Prop := L.Pairwise fun a b => κ a < κ b
def Fa (R : α → α → Prop) : List α → List α → Prop
  | [], [] => True
  | x :: F, y :: Y => R x y ∧ Fa R F Y
  | _, _ => False
variable {κ}
theorem hasK_cons (y : α) (M : List α) (i : Nat) : hasK κ (y :: M) i = (κ y == i || hasK κ M i) := rfl
theorem hasK_mem {M : List α} {i : Nat} : hasK κ M i = true ↔ ∃ y ∈ M, κ y = i := by
  unfold hasK; rw [List.any_eq_true]
  exact ⟨fun ⟨y, h1, h2⟩ => ⟨y, h1, by simpa using h2⟩, fun ⟨y, h1, h2⟩ => ⟨y, h1, by simpa using h2⟩⟩
theorem hasK_below {M : List α} {i : Nat} (h : ∀ z ∈ M, i < κ z) : hasK κ M i = false := by
  cases hh : hasK κ M i with
  | false => rfl
  | true => obtain ⟨y, h1, h2⟩ := hasK_mem.1 hh; have := h y h1; omega
theorem Srt.head {x : α} {L : List α} (h : Srt κ (x :: L)) : ∀ z ∈ L, κ x < κ z := (List.pairwise_cons.1 h).1
theorem Srt.tail {x : α} {L : List α} (h : Srt κ (x :: L)) : Srt κ L := (List.pairwise_cons.1 h).2
theorem filter_same {p q : α → Bool} {L : List α} (h : ∀ z ∈ L, p z = q z) : L.filter p = L.filter q := List.filter_congr h
theorem inter {R : α → α → Prop} : ∀ (L M Y : List α), Srt κ L → Srt κ M → Fa R (L.filter fun x => hasK κ M (κ x)) Y → (∀ x ∈ L, ∀ y ∈ M, κ x = κ y → ∀ y', R x y' → y' = y) → Y = M.filter fun y => hasK κ L (κ y)
  | [], M, Y, _, _, h, _ => by
    have e : (M.filter fun y => hasK κ ([] : List α) (κ y)) = [] := by rw [List.filter_eq_nil_iff]; intro a _; simp [hasK]
    rw [e]
    cases Y with
    | nil => rfl
    | cons _ _ => exact h.elim
  | x :: L, [], Y, _, _, h, _ => by
    have e : ((x :: L).filter fun x => hasK κ ([] : List α) (κ x)) = [] := by rw [List.filter_eq_nil_iff]; intro a _; simp [hasK]
    rw [e] at h
    cases Y with
    | nil => rfl
    | cons _ _ => exact h.elim
  | x :: L, y :: M, Y, hL, hM, h, hR => by
    rcases Nat.lt_trichotomy (κ x) (κ y) with c | c | c
    · have hb : ∀ z ∈ y :: M, κ x < κ z := fun z hz => by
        rcases List.mem_cons.1 hz with rfl | hz
        · exact c
        · exact Nat.lt_trans c (hM.head z hz)
      rw [List.filter_cons, if_neg (by rw [hasK_below hb]; exact Bool.false_ne_true)] at h
      have := inter L (y :: M) Y hL.tail hM h (fun a ha b hb' => hR a (List.mem_cons_of_mem _ ha) b hb')
      rw [this]
      refine filter_same fun z hz => ?_
      rw [hasK_cons, show (κ x == κ z) = false by rw [beq_eq_false_iff_ne]; have := hb z hz; omega, Bool.false_or]
    · have h1 : hasK κ (y :: M) (κ x) = true := by rw [hasK_cons, show (κ y == κ x) = true by rw [beq_iff_eq]; omega, Bool.true_or]
      have h2 : hasK κ (x :: L) (κ y) = true := by rw [hasK_cons, show (κ x == κ y) = true by rw [beq_iff_eq]; omega, Bool.true_or]
      rw [List.filter_cons, if_pos h1] at h
      rw [List.filter_cons, if_pos h2]
      cases Y with
      | nil => exact h.elim
      | cons y' Y =>
        obtain ⟨r, h⟩ := h
        obtain rfl := hR x (List.mem_cons_self ..) y (List.mem_cons_self ..) c y' r
        have e1 : (L.filter fun x => hasK κ (y' :: M) (κ x)) = L.filter fun x => hasK κ M (κ x) := filter_same fun z hz => by
          rw [hasK_cons, show (κ y' == κ z) = false by rw [beq_eq_false_iff_ne]; have := hL.head z hz; omega, Bool.false_or]
        have e2 : (M.filter fun y => hasK κ (x :: L) (κ y)) = M.filter fun y => hasK κ L (κ y) := filter_same fun z hz => by
          rw [hasK_cons, show (κ x == κ z) = false by rw [beq_eq_false_iff_ne]; have := hM.head z hz; omega, Bool.false_or]
        rw [e1] at h
        rw [e2, ← inter L M Y hL.tail hM.tail h (fun a ha b hb => hR a (List.mem_cons_of_mem _ ha) b (List.mem_cons_of_mem _ hb))]
    · have hb : ∀ z ∈ x :: L, κ y < κ z := fun z hz => by
        rcases List.mem_cons.1 hz with rfl | hz
        · exact c
        · exact Nat.lt_trans c (hL.head z hz)
      have e1 : ((x :: L).filter fun x => hasK κ (y :: M) (κ x)) = (x :: L).filter fun x => hasK κ M (κ x) := filter_same fun z hz => by
        rw [hasK_cons, show (κ y == κ z) = false by rw [beq_eq_false_iff_ne]; have := hb z hz; omega, Bool.false_or]
      rw [e1] at h
      rw [List.filter_cons, if_neg (by rw [hasK_below hb]; exact Bool.false_ne_true)]
      exact inter (x :: L) M Y hL hM.tail h (fun a ha b hb' => hR a ha b (List.mem_cons_of_mem _ hb'))
  termination_by L M _ => L.length + M.length
theorem uniq : ∀ {N M : List α}, N.Perm M → N.Pairwise (fun a b => κ a ≤ κ b) → Srt κ M → N = M
  | [], M, p, _, _ => (List.Perm.nil_eq p)
  | n :: N, [], p, _, _ => absurd p.length_eq (by simp)
  | n :: N, m :: M, p, hN, hM => by
    have hn : n ∈ m :: M := p.mem_iff.1 (List.mem_cons_self ..)
    have hm : m ∈ n :: N := p.mem_iff.2 (List.mem_cons_self ..)
    have e : n = m := by
      rcases List.mem_cons.1 hn with h | h
      · exact h
      · have h1 := hM.head n h
        rcases List.mem_cons.1 hm with h' | h'
        · exact h'.symm
        · have := (List.pairwise_cons.1 hN).1 m h'; omega
    subst e
    rw [uniq (List.Perm.cons_inv p) (List.pairwise_cons.1 hN).2 hM.tail]
theorem split_perm (p : α → Bool) (M : List α) : (M.filter p ++ M.filter fun x => !p x).Perm M := List.filter_append_perm p M
end keyed
/-- components of an entity that may be told -/
structure WfC (l : List C4) : Prop where
  s : Srt C4.k l
  k : ∀ q ∈ l, q.k < 5
  e : ∀ q ∈ l, q.e = 0
structure WfL (L : List Et) : Prop where
  s : Srt (fun x : Et => x.1) L
  c : ∀ x ∈ L, WfC x.2
  id : ∀ x ∈ L, 0 < x.1 ∧ 1 ≤ x.1 / 1024 ∧ x.1 / 1024 ≤ 4194303
theorem lsE_wf : ∀ (l : List C4) (last : Int), lsE last l = 0 → Srt C4.k l ∧ (∀ q ∈ l, q.e = 0 ∧ last < (q.k : Int))
  | [], _, _ => ⟨List.Pairwise.nil, (fun q h => by cases h)⟩
  | q :: l, last, h => by
    simp only [lsE] at h
    split at h
    · rename_i h'; exact absurd h h'
    · rename_i he
      split at h
      · cases h
      · rename_i hk
        obtain ⟨h1, h2⟩ := lsE_wf l q.k h
        refine ⟨List.pairwise_cons.2 ⟨fun z hz => by have := (h2 z hz).2; omega, h1⟩, fun z hz => ?_⟩
        rcases List.mem_cons.1 hz with rfl | hz
        · exact ⟨by simpa using he, by omega⟩
        · exact ⟨(h2 z hz).1, by have := (h2 z hz).2; omega⟩
theorem frm_wf : ∀ (L : List Et) (last : Nat), frm last L = 0 → WfL L ∧ ∀ x ∈ L, last < x.1
  | [], _, _ => ⟨⟨List.Pairwise.nil, (fun q h => by cases h), (fun q h => by cases h)⟩, (fun q h => by cases h)⟩
  | x :: L, last, h => by
    simp only [frm] at h
    split at h
    · cases h
    · rename_i h1
      split at h
      · rename_i h2; exact absurd h h2
      · rename_i h2
        split at h
        · cases h
        · rename_i h3
          obtain ⟨k1, k2⟩ := frm_wf L x.1 h
          have h2' : oneE x = 0 := by simpa using h2
          unfold oneE at h2'
          split at h2'
          · cases h2'
          · rename_i h4
            obtain ⟨c1, c2⟩ := lsE_wf x.2 _ h2'
            have hW : WfC x.2 := ⟨c1, fun q hq => by
              have : ¬ secr x.2 = true := h3
              unfold secr at this
              rw [List.any_eq_true] at this
              have h5 : ¬ (!told q.k) = true := fun h6 => this ⟨q, hq, h6⟩
              unfold told at h5
              simp at h5
              exact h5, fun q hq => (c2 q hq).1⟩
            refine ⟨⟨List.pairwise_cons.2 ⟨fun z hz => k2 z hz, k1.s⟩, fun z hz => ?_, fun z hz => ?_⟩, fun z hz => ?_⟩
            · rcases List.mem_cons.1 hz with rfl | hz
              · exact hW
              · exact k1.c z hz
            · rcases List.mem_cons.1 hz with rfl | hz
              · exact ⟨by omega, by omega, by omega⟩
              · exact k1.id z hz
            · rcases List.mem_cons.1 hz with rfl | hz
              · omega
              · have := k2 z hz; omega
/-! ### one entity -/
theorem fnd_mem {l : List C4} {k : Nat} {q : C4} (h : fnd l k = some q) : q ∈ l ∧ q.k = k := ⟨List.mem_of_find?_eq_some h, by have := List.find?_some h; simpa using this⟩
theorem fnd_of {l : List C4} (hs : Srt C4.k l) {q : C4} (h : q ∈ l) : fnd l q.k = some q := by
  cases hf : fnd l q.k with
  | none => have := List.find?_eq_none.1 hf q h; simp at this
  | some r =>
    obtain ⟨h1, h2⟩ := fnd_mem hf
    have : r = q := by
      have hu : ∀ (l : List C4), Srt C4.k l → ∀ a ∈ l, ∀ b ∈ l, a.k = b.k → a = b := by
        intro l
        induction l with
        | nil => intro _ a ha; cases ha
        | cons x l ih =>
          intro hs a ha b hb e
          rcases List.mem_cons.1 ha with ha' | ha'
          · rcases List.mem_cons.1 hb with hb' | hb'
            · rw [ha', hb']
            · have := hs.head b hb'; rw [← ha'] at this; omega
          · rcases List.mem_cons.1 hb with hb' | hb'
            · have := hs.head a ha'; rw [← hb'] at this; omega
            · exact ih hs.tail a ha' b hb' e
      exact hu l hs r h1 q h h2
    rw [this]
theorem fnd_none_iff {l : List C4} {k : Nat} : fnd l k = none ↔ hasK C4.k l k = false := by
  unfold fnd
  rw [List.find?_eq_none]
  constructor
  · intro h
    cases hh : hasK C4.k l k with
    | false => rfl
    | true => obtain ⟨y, h1, h2⟩ := hasK_mem.1 hh; exact absurd h2 (by simpa using h y h1)
  · intro h y hy e
    rw [hasK_mem.2 ⟨y, hy, by simpa using e⟩] at h; cases h
theorem has_hasK (l : List C4) (k : Nat) : has l k = hasK C4.k l k := rfl
theorem mk_bitW (l : List C4) (h : ∀ q ∈ l, q.k < 5) (k : Nat) (hk : k < 8) : (mk l).getLsbD k = hasK C4.k l k := mk_bit l k hk fun q hq => Nat.lt_of_lt_of_le (h q hq) (by omega)
theorem turn_eq {l m : List C4} (hl : WfC l) (hm : WfC m) (i : Nat) : (turnL l ⟨i, lostP l m, newP l m, setP l m⟩).Perm m := by
  have hkeep : ∀ q ∈ l, keepQ (lostP l m) q = hasK C4.k m q.k := fun q hq => by
    have hk5 := hl.k q hq
    have hb : (lostP l m).getLsbD q.k = !hasK C4.k m q.k := by
      unfold lostP
      rw [BitVec.getLsbD_and, BitVec.getLsbD_not, mk_bitW l hl.k q.k (by omega), mk_bitW m hm.k q.k (by omega), hasK_mem.2 ⟨q, hq, rfl⟩]
      simp; omega
    unfold keepQ
    rw [hb, decide_eq_true (by omega)]
    simp
  have e1 : (l.filter (keepQ (lostP l m))) = l.filter fun x => hasK C4.k m x.k := filter_same hkeep
  have e2 : (l.filter fun x => hasK C4.k m x.k).map (turnF (setP l m)) = m.filter fun y => hasK C4.k l y.k := by
    refine inter (R := fun x y => y = turnF (setP l m) x) l m _ hl.s hm.s ?_ ?_
    · generalize (l.filter fun x => hasK C4.k m x.k) = F
      induction F with
      | nil => exact trivial
      | cons a F ih => exact ⟨rfl, ih⟩
    · intro x hx y hy e y' hr
      rw [hr]
      unfold turnF
      have hfx : fnd l y.k = some x := by rw [← e]; exact fnd_of hl.s hx
      by_cases hxy : x = y
      · subst hxy
        cases hf : fnd (setP l m) x.k with
        | none => rfl
        | some z =>
          obtain ⟨h1, h2⟩ := fnd_mem hf
          have hzm := (List.mem_filter.1 h1).1
          have := fnd_of hm.s hzm
          rw [h2, fnd_of hm.s hy] at this
          exact (Option.some.inj this).symm
      · have hin : y ∈ setP l m := List.mem_filter.2 ⟨hy, by rw [hfx]; simpa using hxy⟩
        have hss : Srt C4.k (setP l m) := List.Pairwise.filter _ hm.s
        rw [e, fnd_of hss hin]; rfl
  have e3 : newP l m = m.filter fun y => !hasK C4.k l y.k := filter_same fun z _ => by
    cases hf : fnd l z.k with
    | none => rw [fnd_none_iff.1 hf]; rfl
    | some x => obtain ⟨h1, h2⟩ := fnd_mem hf; rw [hasK_mem.2 ⟨x, h1, h2⟩]; rfl
  show (turnA (lostP l m) (setP l m) l ++ newP l m).Perm m
  unfold turnA
  rw [e1, e2, e3]
  exact split_perm _ m
theorem le_of_srt {α : Type} {κ : α → Nat} {l : List α} (h : Srt κ l) : l.Pairwise fun a b => κ a ≤ κ b := List.Pairwise.imp (fun h => Nat.le_of_lt h) h
theorem turn_uniq {l m r : List C4} (hl : WfC l) (hm : WfC m) (i : Nat) (hp : (turnL l ⟨i, lostP l m, newP l m, setP l m⟩).Perm r) (ho : r.Pairwise fun p q => p.k ≤ q.k) : r = m :=
  uniq (κ := C4.k) (hp.symm.trans (turn_eq hl hm i)) ho hm.s
theorem none_eq {l m : List C4} (hl : WfC l) (hm : WfC m) (i : Nat) (h : Ch.none ⟨i, lostP l m, newP l m, setP l m⟩ = true) : l = m := by
  unfold Ch.none at h
  simp only [decide_eq_true_eq] at h
  obtain ⟨h1, h2, h3⟩ := h
  have h2' := List.eq_nil_of_length_eq_zero h2
  have h3' := List.eq_nil_of_length_eq_zero h3
  have h1' : lostP l m = 0#8 := BitVec.eq_of_toNat_eq (by simpa using h1)
  have hp := turn_eq hl hm i
  have e : turnL l ⟨i, lostP l m, newP l m, setP l m⟩ = l := by
    show turnA (lostP l m) (setP l m) l ++ newP l m = l
    rw [h1', h2', h3', List.append_nil]
    unfold turnA
    have e1 : l.filter (keepQ 0#8) = l := List.filter_eq_self.2 fun q _ => by simp [keepQ]
    rw [e1]
    have e2 : (turnF []) = id := by funext q; rfl
    rw [e2, List.map_id]
  rw [e] at hp
  exact uniq (κ := C4.k) hp (le_of_srt hl.s) hm.s
end Go.Proofs.Ytdnkdmdmekdfkaa
namespace Go.Proofs.Ytdnkdmdmekdfkaa
open Go.RowKit
abbrev ik (x : Et) : Nat := x.1
theorem WfL.tail {x : Et} {L : List Et} (h : WfL (x :: L)) : WfL L := ⟨h.s.tail, fun z hz => h.c z (List.mem_cons_of_mem _ hz), fun z hz => h.id z (List.mem_cons_of_mem _ hz)⟩
theorem mrg_come : ∀ (L M : List Et), Srt ik L → Srt ik M → (mrg L M).come = M.filter fun y => !hasK ik L y.1 := by
  intro L M
  induction L, M using mrg.induct with
  | case1 => intro _ _; rw [mrg]; rfl
  | case2 x a ih => intro h1 h2; rw [mrg]; exact ih h1.tail h2
  | case3 n b ih => intro h1 h2; rw [mrg]; simp only [ih h1 h2.tail, List.filter_cons]; rfl
  | case4 x a n b hlt ih =>
    intro h1 h2
    rw [mrg, if_pos hlt]
    simp only [ih h1.tail h2]
    refine filter_same fun z hz => ?_
    have : x.1 < z.1 := by
      rcases List.mem_cons.1 hz with rfl | hz
      · exact hlt
      · exact Nat.lt_trans hlt (h2.head z hz)
    rw [hasK_cons, show (ik x == z.1) = false by rw [beq_eq_false_iff_ne]; show x.1 ≠ z.1; omega, Bool.false_or]
  | case5 x a n b h1' h2' ih =>
    intro h1 h2
    rw [mrg, if_neg h1', if_pos h2']
    simp only [ih h1 h2.tail]
    have hb : hasK ik (x :: a) n.1 = false := hasK_below fun z hz => by
      show n.1 < z.1
      rcases List.mem_cons.1 hz with rfl | hz
      · exact h2'
      · exact Nat.lt_trans h2' (h1.head z hz)
    rw [List.filter_cons, hb]; rfl
  | case6 x a n b h1' h2' hz ih =>
    intro h1 h2
    rw [mrg, if_neg h1', if_neg h2']
    simp only [hz, if_true]
    have he : x.1 = n.1 := by omega
    rw [ih h1.tail h2.tail, List.filter_cons, if_neg (by rw [hasK_cons, show (ik x == n.1) = true from beq_iff_eq.2 he]; simp)]
    refine filter_same fun z hz => ?_
    have : n.1 < z.1 := h2.head z hz
    rw [hasK_cons, show (ik x == z.1) = false by rw [beq_eq_false_iff_ne]; show x.1 ≠ z.1; omega, Bool.false_or]
  | case7 x a n b h1' h2' hz ih =>
    intro h1 h2
    rw [mrg, if_neg h1', if_neg h2']
    simp only [hz, if_false]
    have he : x.1 = n.1 := by omega
    simp only [Bool.false_eq_true, if_false]
    rw [ih h1.tail h2.tail, List.filter_cons, if_neg (by rw [hasK_cons, show (ik x == n.1) = true from beq_iff_eq.2 he]; simp)]
    refine filter_same fun z hz => ?_
    have : n.1 < z.1 := h2.head z hz
    rw [hasK_cons, show (ik x == z.1) = false by rw [beq_eq_false_iff_ne]; show x.1 ≠ z.1; omega, Bool.false_or]
theorem mrg_gone : ∀ (L M : List Et), Srt ik L → Srt ik M → (mrg L M).gone = (L.filter fun x => !hasK ik M x.1).map fun x => x.1 := by
  intro L M
  induction L, M using mrg.induct with
  | case1 => intro _ _; rw [mrg]; rfl
  | case2 x a ih => intro h1 h2; rw [mrg]; simp only [ih h1.tail h2]; rfl
  | case3 n b ih => intro h1 h2; rw [mrg]; simp only [ih h1 h2.tail]; rfl
  | case4 x a n b hlt ih =>
    intro h1 h2
    rw [mrg, if_pos hlt]
    simp only [ih h1.tail h2]
    have hb : hasK ik (n :: b) x.1 = false := hasK_below fun z hz => by
      show x.1 < z.1
      rcases List.mem_cons.1 hz with rfl | hz
      · exact hlt
      · exact Nat.lt_trans hlt (h2.head z hz)
    rw [List.filter_cons, hb]; rfl
  | case5 x a n b h1' h2' ih =>
    intro h1 h2
    rw [mrg, if_neg h1', if_pos h2']
    simp only [ih h1 h2.tail]
    congr 1
    refine filter_same fun z hz => ?_
    have : n.1 < z.1 := by
      rcases List.mem_cons.1 hz with rfl | hz
      · exact h2'
      · exact Nat.lt_trans h2' (h1.head z hz)
    rw [hasK_cons, show (ik n == z.1) = false by rw [beq_eq_false_iff_ne]; show n.1 ≠ z.1; omega, Bool.false_or]
  | case6 x a n b h1' h2' hz ih =>
    intro h1 h2
    rw [mrg, if_neg h1', if_neg h2']
    simp only [hz, if_true]
    have he : n.1 = x.1 := by omega
    rw [ih h1.tail h2.tail, List.filter_cons, if_neg (by rw [hasK_cons, show (ik n == x.1) = true from beq_iff_eq.2 he]; simp)]
    congr 1
    refine filter_same fun z hz => ?_
    have : x.1 < z.1 := h1.head z hz
    rw [hasK_cons, show (ik n == z.1) = false by rw [beq_eq_false_iff_ne]; show n.1 ≠ z.1; omega, Bool.false_or]
  | case7 x a n b h1' h2' hz ih =>
    intro h1 h2
    rw [mrg, if_neg h1', if_neg h2']
    have he : n.1 = x.1 := by omega
    simp only [hz, Bool.false_eq_true, if_false]
    rw [ih h1.tail h2.tail, List.filter_cons, if_neg (by rw [hasK_cons, show (ik n == x.1) = true from beq_iff_eq.2 he]; simp)]
    congr 1
    refine filter_same fun z hz => ?_
    have : x.1 < z.1 := h1.head z hz
    rw [hasK_cons, show (ik n == z.1) = false by rw [beq_eq_false_iff_ne]; show n.1 ≠ z.1; omega, Bool.false_or]
theorem srt_ne {κ : Et → Nat} {L : List Et} {x : Et} (h : Srt κ (x :: L)) {z : Et} (hz : z ∈ L) : κ z ≠ κ x := by have := h.head z hz; omega
theorem mrg_chg_ids (L M : List Et) : ∀ c ∈ (mrg L M).chg, ∃ n ∈ M, c.id = n.1 := fun c hc => by
  obtain ⟨x, _, n, hn, rfl⟩ := (mrg_small L M).2.2.2.2 c hc
  exact ⟨n, hn, rfl⟩
theorem mrg_find : ∀ (L M : List Et), Srt ik L → Srt ik M → ∀ x ∈ L, ∀ y ∈ M, x.1 = y.1 → (mrg L M).chg.find? (fun c => c.id == x.1) = if (chgP x y).none = true then none else some (chgP x y) := by
  intro L M
  induction L, M using mrg.induct with
  | case1 => intro _ _ x hx; cases hx
  | case2 x a ih => intro h1 h2 z hz y hy; cases hy
  | case3 n b ih => intro h1 h2 z hz; cases hz
  | case4 x a n b hlt ih =>
    intro h1 h2 z hz y hy e
    rw [mrg, if_pos hlt]
    rcases List.mem_cons.1 hz with rfl | hz
    · rcases List.mem_cons.1 hy with rfl | hy
      · omega
      · have : n.1 < y.1 := h2.head y hy; omega
    · exact ih h1.tail h2 z hz y hy e
  | case5 x a n b h1' h2' ih =>
    intro h1 h2 z hz y hy e
    rw [mrg, if_neg h1', if_pos h2']
    rcases List.mem_cons.1 hy with rfl | hy
    · rcases List.mem_cons.1 hz with rfl | hz
      · omega
      · have : x.1 < z.1 := h1.head z hz; omega
    · exact ih h1 h2.tail z hz y hy e
  | case6 x a n b h1' h2' hz' ih =>
    intro h1 h2 z hz y hy e
    rw [mrg, if_neg h1', if_neg h2']
    simp only [hz', if_true]
    have he : x.1 = n.1 := by omega
    rcases List.mem_cons.1 hz with hz | hz
    · rcases List.mem_cons.1 hy with hy | hy
      · rw [hz, hy, if_pos hz', List.find?_eq_none]
        intro c hc
        obtain ⟨n', hn', ec⟩ := mrg_chg_ids a b c hc
        have : n.1 < n'.1 := h2.head n' hn'
        simp; omega
      · have : n.1 < y.1 := h2.head y hy
        rw [hz] at e; omega
    · rcases List.mem_cons.1 hy with hy | hy
      · have : x.1 < z.1 := h1.head z hz
        rw [hy] at e; omega
      · exact ih h1.tail h2.tail z hz y hy e
  | case7 x a n b h1' h2' hz' ih =>
    intro h1 h2 z hz y hy e
    rw [mrg, if_neg h1', if_neg h2']
    have he : x.1 = n.1 := by omega
    simp only [hz', Bool.false_eq_true, if_false]
    rcases List.mem_cons.1 hz with hz | hz
    · rcases List.mem_cons.1 hy with hy | hy
      · rw [hz, hy, if_neg hz', List.find?_cons, show ((chgP x n).id == x.1) = true from beq_iff_eq.2 he.symm]
      · have : n.1 < y.1 := h2.head y hy
        rw [hz] at e; omega
    · rcases List.mem_cons.1 hy with hy | hy
      · have : x.1 < z.1 := h1.head z hz
        rw [hy] at e; omega
      · have : x.1 < z.1 := h1.head z hz
        rw [List.find?_cons, show ((chgP x n).id == z.1) = false by rw [beq_eq_false_iff_ne]; show n.1 ≠ z.1; omega]
        exact ih h1.tail h2.tail z hz y hy e
theorem PR_Fa {D : Dl} : ∀ {F Y : List Et}, PR D F Y → Fa (PRel D) F Y
  | [], [], _ => trivial
  | _ :: _, _ :: _, h => ⟨h.1, PR_Fa h.2⟩
  | [], _ :: _, h => h.elim
  | _ :: _, [], h => h.elim
theorem stays_mrg {L M : List Et} (h1 : Srt ik L) (h2 : Srt ik M) : stays (mrg L M) L = L.filter fun x => hasK ik M x.1 := by
  unfold stays
  refine filter_same fun x hx => ?_
  rw [mrg_gone L M h1 h2]
  cases hh : hasK ik M x.1 with
  | true =>
    rw [decide_eq_false]; rfl
    intro hm
    obtain ⟨z, hz, e⟩ := List.mem_map.1 hm
    have := (List.mem_filter.1 hz).2
    rw [e, hh] at this; cases this
  | false =>
    rw [decide_eq_true]; rfl
    exact List.mem_map.2 ⟨x, List.mem_filter.2 ⟨hx, by rw [hh]; rfl⟩, rfl⟩
/-- over its own delta a snapshot becomes the other one -/
theorem patch_uniq {L M N : List Et} (hL : WfL L) (hM : WfL M) (h : Cand L (mrg L M) N) : N = M := by
  obtain ⟨Y, h1, h2, h3⟩ := h
  rw [stays_mrg hL.s hM.s] at h1
  have hY : Y = M.filter fun y => hasK ik L y.1 := by
    refine inter (κ := ik) L M Y hL.s hM.s (PR_Fa h1) ?_
    intro x hx y hy e y' hr
    obtain ⟨r1, r2⟩ := hr
    rw [mrg_find L M hL.s hM.s x hx y hy e] at r2
    have hk : chgP x y = ⟨y.1, lostP x.2 y.2, newP x.2 y.2, setP x.2 y.2⟩ := rfl
    by_cases hz : (chgP x y).none = true
    · rw [if_pos hz] at r2
      have := none_eq (hL.c x hx) (hM.c y hy) y.1 (by rw [← hk]; exact hz)
      exact Prod.ext (r1.trans e) (r2.trans this)
    · rw [if_neg hz] at r2
      have := turn_uniq (hL.c x hx) (hM.c y hy) y.1 (by rw [← hk]; exact r2.1) r2.2
      exact Prod.ext (r1.trans e) this
  rw [hY, mrg_come L M hL.s hM.s] at h2
  exact uniq (κ := ik) (h2.symm.trans (split_perm (fun y => hasK ik L y.1) M)) h3 hM.s
theorem chgP_self {x : Et} (h : WfC x.2) : (chgP x x).none = true := by
  have e1 : newP x.2 x.2 = [] := List.filter_eq_nil_iff.2 fun q hq => by rw [fnd_of h.s hq]; simp
  have e2 : setP x.2 x.2 = [] := List.filter_eq_nil_iff.2 fun q hq => by rw [fnd_of h.s hq]; simp
  have e3 : lostP x.2 x.2 = 0#8 := by unfold lostP; ext i; simp
  exact decide_eq_true ⟨congrArg BitVec.toNat e3, congrArg List.length e1, congrArg List.length e2⟩
theorem mrg_self : ∀ {L : List Et}, WfL L → mrg L L = ⟨[], [], []⟩
  | [], _ => by rw [mrg]
  | x :: L, h => by rw [mrg, if_neg (by omega), if_neg (by omega)]; simp only [chgP_self (h.c x (List.mem_cons_self ..)), if_true]; exact mrg_self h.tail
theorem mrg_nil {L M : List Et} (hL : WfL L) (hM : WfL M) (h : mrg L M = ⟨[], [], []⟩) : L = M := by
  have h1 : (M.filter fun y => !hasK ik L y.1) = [] := by rw [← mrg_come L M hL.s hM.s, h]
  have h2 : (L.filter fun x => !hasK ik M x.1) = [] := by have := mrg_gone L M hL.s hM.s; rw [h] at this; exact List.map_eq_nil_iff.1 this.symm
  have e1 : (M.filter fun y => hasK ik L y.1) = M := List.filter_eq_self.2 fun y hy => by have := List.filter_eq_nil_iff.1 h1 y hy; simpa using this
  have e2 : (L.filter fun x => hasK ik M x.1) = L := List.filter_eq_self.2 fun y hy => by have := List.filter_eq_nil_iff.1 h2 y hy; simpa using this
  have := inter (κ := ik) (R := fun x y => y = x) L M L hL.s hM.s (by
    rw [e2]
    have : ∀ F : List Et, Fa (fun x y => y = x) F F := fun F => by induction F with | nil => exact trivial | cons a F ih => exact ⟨rfl, ih⟩
    exact this L) (fun x hx y hy e y' hr => by
      have hf := mrg_find L M hL.s hM.s x hx y hy e
      rw [h] at hf
      by_cases hz : (chgP x y).none = true
      · exact hr.trans (Prod.ext e (none_eq (hL.c x hx) (hM.c y hy) y.1 hz))
      · rw [if_neg hz] at hf; cases hf)
  rw [this, e1]
end Go.Proofs.Ytdnkdmdmekdfkaa
