/- The plain law of deltas: names once; who isn't named is as it was. -/
import Derived.Test.YtdnkdmdmekdfkaaDfP2
import Derived.Test.YtdnkdmdmekdfkaaDf23
namespace Go.Proofs.Ytdnkdmdmekdfkaa
open Go.RowKit
/-- whom a delta names -/
def named (D : Dl) : List Nat := D.gone ++ D.come.map ik ++ D.chg.map fun c => c.id
theorem mrg_chg_both : ∀ (L M : List Et), ∀ c ∈ (mrg L M).chg, (∃ x ∈ L, x.1 = c.id) ∧ ∃ y ∈ M, y.1 = c.id := by
  intro L M
  induction L, M using mrg.induct with
  | case1 => intro c hc; rw [mrg] at hc; cases hc
  | case2 x a ih => intro c hc; rw [mrg] at hc; obtain ⟨_, y, hy, _⟩ := ih c hc; cases hy
  | case3 n b ih => intro c hc; rw [mrg] at hc; obtain ⟨⟨x, hx, _⟩, _⟩ := ih c hc; cases hx
  | case4 x a n b hlt ih =>
    intro c hc
    rw [mrg, if_pos hlt] at hc
    obtain ⟨⟨z, hz, e⟩, h2⟩ := ih c hc
    exact ⟨⟨z, List.mem_cons_of_mem _ hz, e⟩, h2⟩
  | case5 x a n b h1' h2' ih =>
    intro c hc
    rw [mrg, if_neg h1', if_pos h2'] at hc
    obtain ⟨h1, ⟨z, hz, e⟩⟩ := ih c hc
    exact ⟨h1, ⟨z, List.mem_cons_of_mem _ hz, e⟩⟩
  | case6 x a n b h1' h2' hz ih =>
    intro c hc
    rw [mrg, if_neg h1', if_neg h2'] at hc
    simp only [hz, if_true] at hc
    obtain ⟨⟨u, hu, e⟩, ⟨v, hv, e'⟩⟩ := ih c hc
    exact ⟨⟨u, List.mem_cons_of_mem _ hu, e⟩, ⟨v, List.mem_cons_of_mem _ hv, e'⟩⟩
  | case7 x a n b h1' h2' hz ih =>
    intro c hc
    rw [mrg, if_neg h1', if_neg h2'] at hc
    simp only [hz, Bool.false_eq_true, if_false] at hc
    rcases List.mem_cons.1 hc with h | hc
    · rw [h]
      exact ⟨⟨x, List.mem_cons_self .., show x.1 = n.1 by omega⟩, ⟨n, List.mem_cons_self .., rfl⟩⟩
    · obtain ⟨⟨u, hu, e⟩, ⟨v, hv, e'⟩⟩ := ih c hc
      exact ⟨⟨u, List.mem_cons_of_mem _ hu, e⟩, ⟨v, List.mem_cons_of_mem _ hv, e'⟩⟩
theorem mrg_chg_srt : ∀ (L M : List Et), Srt ik L → Srt ik M → (mrg L M).chg.Pairwise fun c d => c.id < d.id := by
  intro L M
  induction L, M using mrg.induct with
  | case1 => intro _ _; rw [mrg]; exact List.Pairwise.nil
  | case2 x a ih => intro h1 h2; rw [mrg]; exact ih h1.tail h2
  | case3 n b ih => intro h1 h2; rw [mrg]; exact ih h1 h2.tail
  | case4 x a n b hlt ih => intro h1 h2; rw [mrg, if_pos hlt]; exact ih h1.tail h2
  | case5 x a n b h1' h2' ih => intro h1 h2; rw [mrg, if_neg h1', if_pos h2']; exact ih h1 h2.tail
  | case6 x a n b h1' h2' hz ih => intro h1 h2; rw [mrg, if_neg h1', if_neg h2']; simp only [hz, if_true]; exact ih h1.tail h2.tail
  | case7 x a n b h1' h2' hz ih =>
    intro h1 h2
    rw [mrg, if_neg h1', if_neg h2']
    simp only [hz, Bool.false_eq_true, if_false]
    refine List.pairwise_cons.2 ⟨fun c hc => ?_, ih h1.tail h2.tail⟩
    obtain ⟨y, hy, e⟩ := (mrg_chg_both a b c hc).2
    show n.1 < c.id
    rw [← e]; exact h2.head y hy
theorem nodup_of_srt {α : Type} {κ : α → Nat} {l : List α} (h : l.Pairwise fun a b => κ a < κ b) : (l.map κ).Nodup := by
  rw [List.nodup_iff_pairwise_ne, List.pairwise_map]
  exact h.imp fun h => Nat.ne_of_lt h
theorem named_nodup {L M : List Et} (hL : Srt ik L) (hM : Srt ik M) : (named (mrg L M)).Nodup := by
  have hg := mrg_gone L M hL hM
  have hc := mrg_come L M hL hM
  have n1 : (mrg L M).gone.Nodup := by rw [hg]; exact nodup_of_srt (κ := ik) (List.Pairwise.filter _ hL)
  have n2 : ((mrg L M).come.map ik).Nodup := by rw [hc]; exact nodup_of_srt (κ := ik) (List.Pairwise.filter _ hM)
  have n3 : ((mrg L M).chg.map fun c => c.id).Nodup := nodup_of_srt (κ := fun c : Ch => c.id) (mrg_chg_srt L M hL hM)
  have mg : ∀ i ∈ (mrg L M).gone, hasK ik M i = false := fun i hi => by
    rw [hg] at hi
    obtain ⟨z, hz, e⟩ := List.mem_map.1 hi
    have := (List.mem_filter.1 hz).2
    rw [e] at this; simpa using this
  have mc : ∀ i ∈ (mrg L M).come.map ik, hasK ik M i = true ∧ hasK ik L i = false := fun i hi => by
    rw [hc] at hi
    obtain ⟨z, hz, e⟩ := List.mem_map.1 hi
    have h2 := (List.mem_filter.1 hz).2
    refine ⟨hasK_mem.2 ⟨z, (List.mem_filter.1 hz).1, e⟩, ?_⟩
    rw [← e]; simpa using h2
  have mh : ∀ i ∈ (mrg L M).chg.map fun c => c.id, hasK ik M i = true ∧ hasK ik L i = true := fun i hi => by
    obtain ⟨c, hc, e⟩ := List.mem_map.1 hi
    obtain ⟨⟨x, hx, e1⟩, ⟨y, hy, e2⟩⟩ := mrg_chg_both L M c hc
    exact ⟨hasK_mem.2 ⟨y, hy, e2.trans e⟩, hasK_mem.2 ⟨x, hx, e1.trans e⟩⟩
  unfold named
  rw [List.nodup_append, List.nodup_append]
  refine ⟨⟨n1, n2, fun a ha b hb e => ?_⟩, n3, fun a ha b hb e => ?_⟩
  · subst e
    have h1 := mg a ha
    rw [(mc a hb).1] at h1; cases h1
  · subst e
    rcases List.mem_append.1 ha with h | h
    · have h1 := mg a h
      rw [(mh a hb).1] at h1; cases h1
    · have h1 := (mc a h).2
      rw [(mh a hb).2] at h1; cases h1
/-- whom a delta doesn't name is there, and as it was -/
theorem unnamed {L M : List Et} (hL : WfL L) (hM : WfL M) {x : Et} (hx : x ∈ L) (h : ¬ x.1 ∈ named (mrg L M)) : M.find? (fun y => y.1 == x.1) = some x := by
  unfold named at h
  have h1 : ¬ x.1 ∈ (mrg L M).gone := fun q => h (List.mem_append_left _ (List.mem_append_left _ q))
  have h3 : ¬ x.1 ∈ (mrg L M).chg.map fun c => c.id := fun q => h (List.mem_append_right _ q)
  have hk : hasK ik M x.1 = true := by
    cases hh : hasK ik M x.1 with
    | true => rfl
    | false =>
      exfalso; apply h1
      rw [mrg_gone L M hL.s hM.s]
      exact List.mem_map.2 ⟨x, List.mem_filter.2 ⟨hx, by rw [hh]; rfl⟩, rfl⟩
  obtain ⟨y, hy, e⟩ := hasK_mem.1 hk
  have hf := mrg_find L M hL.s hM.s x hx y hy e.symm
  have hz : (chgP x y).none = true := by
    by_cases hz : (chgP x y).none = true
    · exact hz
    · rw [if_neg hz] at hf
      exfalso; apply h3
      have := List.find?_some hf
      exact List.mem_map.2 ⟨chgP x y, List.mem_of_find?_eq_some hf, by simpa using this⟩
  have hxy : x = y := Prod.ext e.symm (none_eq (hL.c x hx) (hM.c y hy) y.1 hz)
  cases hfi : M.find? (fun y => y.1 == x.1) with
  | none =>
    have := List.find?_eq_none.1 hfi y hy
    rw [show (y.1 == x.1) = true from beq_iff_eq.2 e] at this
    exact absurd rfl this
  | some z =>
    have hz1 := List.mem_of_find?_eq_some hfi
    have hz2 : z.1 = x.1 := by have := List.find?_some hfi; simpa using this
    have hu : ∀ (l : List Et), Srt ik l → ∀ a ∈ l, ∀ b ∈ l, a.1 = b.1 → a = b := by
      intro l
      induction l with
      | nil => intro _ a ha; cases ha
      | cons w l ih =>
        intro hs a ha b hb e
        rcases List.mem_cons.1 ha with ha' | ha'
        · rcases List.mem_cons.1 hb with hb' | hb'
          · rw [ha', hb']
          · have : w.1 < b.1 := hs.head b hb'; rw [← ha'] at this; omega
        · rcases List.mem_cons.1 hb with hb' | hb'
          · have : w.1 < a.1 := hs.head a ha'; rw [← hb'] at this; omega
          · exact ih hs.tail a ha' b hb' e
    rw [hu M hM.s z hz1 y hy (hz2.trans e.symm), ← hxy]
end Go.Proofs.Ytdnkdmdmekdfkaa
namespace Go.Proofs.Ytdnkdmdmekdfkaa
open Go.RowKit
/-- components with one more, or with another one of its kind -/
def wiG : Bool → List C4 → C4 → List C4
  | d, [], c => if d = true then [] else [c]
  | d, x :: r, c => (if (!d && decide (c.k ≤ x.k)) = true then [c] else []) ++ ((if x.k ≠ c.k then [x] else []) ++ wiG (d || decide (c.k ≤ x.k)) r c)
def rcL (lo : BitVec 8) : List Nat → List C4 → Option (List C4)
  | [], l => some l
  | k :: r, l => if lo.getLsbD k = true then (if (fnd l k).isSome = true then rcL lo r (l.filter fun x => decide (x.k ≠ k)) else none) else rcL lo r l
def rcN (old : List C4) : List C4 → List C4 → Option (List C4)
  | [], l => some l
  | x :: r, l => if (fnd old x.k).isSome = true then none else rcN old r (wiG false l x)
def rcS : List C4 → List C4 → Option (List C4)
  | [], l => some l
  | x :: r, l => if (fnd l x.k).isSome = true then rcS r (wiG false l x) else none
def rcX (c : Ch) (old : List C4) : Option (List C4) := ((rcL c.lost (List.range' 0 8) old).bind (rcN old c.nw)).bind (rcS c.st)
def dropE (i : Nat) : List Et → List Et
  | [] => []
  | x :: r => if x.1 = i then r else x :: dropE i r
def putE (i : Nat) (l : List C4) : List Et → List Et
  | [] => []
  | x :: r => if x.1 = i then (x.1, l) :: r else x :: putE i l r
def fndE (X : List Et) (i : Nat) : Option Et := X.find? fun x => x.1 == i
def rcG : List Nat → List Et → Option (List Et)
  | [], X => some X
  | i :: r, X => if (fndE X i).isSome = true then rcG r (dropE i X) else none
def rcH : List Ch → List Et → Option (List Et)
  | [], X => some X
  | c :: r, X => (fndE X c.id).bind fun x => (rcX c x.2).bind fun l => rcH r (putE c.id l X)
def inG : Bool → List Et → Et → List Et
  | d, [], e => if d = true then [] else [e]
  | d, x :: r, e => (if (!d && decide (e.1 ≤ x.1)) = true then [e] else []) ++ x :: inG (d || decide (e.1 ≤ x.1)) r e
def rcC (L : List Et) : List Et → List Et → Option (List Et)
  | [], X => some X
  | e :: r, X => if (fndE L e.1).isSome = true then none else rcC L r (inG false X e)
def rcAll (L : List Et) (D : Dl) : Option (List Et) := ((rcG D.gone L).bind (rcH D.chg)).bind (rcC L D.come)
theorem srt_ext {α : Type} {κ : α → Nat} {A B : List α} (hA : Srt κ A) (hB : Srt κ B) (h : ∀ q, q ∈ A ↔ q ∈ B) : A = B := by
  have n1 : A.Nodup := by rw [List.nodup_iff_pairwise_ne]; exact hA.imp fun h e => by rw [e] at h; exact Nat.lt_irrefl _ h
  have n2 : B.Nodup := by rw [List.nodup_iff_pairwise_ne]; exact hB.imp fun h e => by rw [e] at h; exact Nat.lt_irrefl _ h
  exact uniq (κ := κ) ((List.perm_ext_iff_of_nodup n1 n2).2 h) (hA.imp Nat.le_of_lt) hB
theorem wiG_true : ∀ (l : List C4) (c : C4), wiG true l c = l.filter fun x => decide (x.k ≠ c.k)
  | [], c => rfl
  | x :: r, c => by
    rw [wiG, List.filter_cons, Bool.true_or, wiG_true r c]
    by_cases h : x.k = c.k
    · simp [h]
    · simp [h]
theorem wiG_mem (l : List C4) (c q : C4) : q ∈ wiG false l c ↔ q = c ∨ (q ∈ l ∧ q.k ≠ c.k) := by
  induction l with
  | nil => simp [wiG]
  | cons x r ih =>
    rw [wiG]
    by_cases h1 : c.k ≤ x.k
    · rw [Bool.false_or, decide_eq_true h1, wiG_true]
      simp only [Bool.not_false, Bool.true_and, if_true, List.mem_append, List.mem_cons, List.mem_filter, decide_eq_true_eq, List.not_mem_nil, or_false]
      by_cases h2 : x.k = c.k
      · rw [if_neg (by simp [h2])]
        simp only [List.not_mem_nil, false_or]
        constructor
        · rintro (h | h)
          · exact .inl h
          · exact .inr ⟨.inr h.1, h.2⟩
        · rintro (h | ⟨h | h, k⟩)
          · exact .inl h
          · subst h; exact absurd h2 k
          · exact .inr ⟨h, k⟩
      · rw [if_pos (by simpa using h2)]
        simp only [List.mem_cons, List.not_mem_nil, or_false]
        constructor
        · rintro (h | h | h)
          · exact .inl h
          · exact .inr ⟨.inl h, by rw [h]; exact h2⟩
          · exact .inr ⟨.inr h.1, h.2⟩
        · rintro (h | ⟨h | h, k⟩)
          · exact .inl h
          · exact .inr (.inl h)
          · exact .inr (.inr ⟨h, k⟩)
    · rw [Bool.false_or, decide_eq_false h1, if_neg (by simp), List.nil_append, if_pos (by omega), List.mem_append, ih, List.mem_singleton]
      constructor
      · rintro (h | h | h)
        · exact .inr ⟨by rw [h]; exact List.mem_cons_self .., by rw [h]; omega⟩
        · exact .inl h
        · exact .inr ⟨List.mem_cons_of_mem _ h.1, h.2⟩
      · rintro (h | ⟨h, k⟩)
        · exact .inr (.inl h)
        · rcases List.mem_cons.1 h with h | h
          · exact .inl h
          · exact .inr (.inr ⟨h, k⟩)
theorem wiG_srt (l : List C4) (c : C4) (h : Srt C4.k l) : Srt C4.k (wiG false l c) := by
  induction l with
  | nil => exact List.pairwise_singleton _ _
  | cons x r ih =>
    rw [wiG]
    by_cases h1 : c.k ≤ x.k
    · rw [Bool.false_or, decide_eq_true h1, wiG_true]
      have hf : Srt C4.k (r.filter fun x => decide (x.k ≠ c.k)) := List.Pairwise.filter _ h.tail
      have hx : ∀ z ∈ r.filter fun x => decide (x.k ≠ c.k), x.k < z.k := fun z hz => h.head z (List.mem_filter.1 hz).1
      simp only [Bool.not_false, Bool.true_and, if_true, List.cons_append, List.nil_append]
      by_cases h2 : x.k = c.k
      · rw [if_neg (by simp [h2]), List.nil_append]
        exact List.pairwise_cons.2 ⟨fun z hz => by have := hx z hz; omega, hf⟩
      · rw [if_pos h2, List.cons_append, List.nil_append]
        refine List.pairwise_cons.2 ⟨fun z hz => ?_, List.pairwise_cons.2 ⟨hx, hf⟩⟩
        rcases List.mem_cons.1 hz with rfl | hz
        · omega
        · have := hx z hz; omega
    · rw [Bool.false_or, decide_eq_false h1, if_neg (by simp), List.nil_append, if_pos (by omega), List.cons_append, List.nil_append]
      refine List.pairwise_cons.2 ⟨fun z hz => ?_, ih h.tail⟩
      rcases (wiG_mem r c z).1 hz with rfl | hz
      · omega
      · exact h.head z hz.1
theorem wiG_len : ∀ (d : Bool) (l : List C4) (c : C4), (wiG d l c).length ≤ l.length + 1
  | d, [], c => by rw [wiG]; split <;> simp
  | true, x :: r, c => by
    rw [wiG_true]; exact Nat.le_trans (List.length_filter_le _ _) (Nat.le_succ _)
  | false, x :: r, c => by
    rw [wiG]
    by_cases h1 : c.k ≤ x.k
    · rw [Bool.false_or, decide_eq_true h1, wiG_true]
      have := List.length_filter_le (fun x : C4 => decide (x.k ≠ c.k)) r
      generalize (r.filter fun x => decide (x.k ≠ c.k)) = F at *
      simp only [Bool.not_false, Bool.true_and, if_true, List.length_append, List.length_cons, List.length_nil]
      split <;> simp <;> omega
    · have := wiG_len false r c
      rw [Bool.false_or, decide_eq_false h1, if_neg (by simp), List.nil_append, if_pos (by omega), List.length_append]
      simp; omega
/-! ### one entity -/
theorem rcL_all (lo : BitVec 8) : ∀ (ks : List Nat) (l : List C4), ks.Nodup → (∀ k ∈ ks, lo.getLsbD k = true → (fnd l k).isSome = true) → rcL lo ks l = some (l.filter fun x => !(decide (x.k ∈ ks) && lo.getLsbD x.k))
  | [], l, _, _ => by rw [rcL]; congr 1; exact (List.filter_eq_self.2 (fun q _ => by simp)).symm
  | k :: r, l, hn, h => by
    obtain ⟨hn1, hn2⟩ := List.nodup_cons.1 hn
    rw [rcL]
    by_cases hb : lo.getLsbD k = true
    · rw [if_pos hb, if_pos (h k (List.mem_cons_self ..) hb), rcL_all lo r _ hn2, List.filter_filter]
      · congr 1
        refine filter_same fun q _ => ?_
        by_cases hq : q.k = k
        · rw [hq, hb]; simp
        · simp [hq]
      · intro k' hk' hb'
        have h1 := h k' (List.mem_cons_of_mem _ hk') hb'
        cases hf : fnd l k' with
        | none => rw [hf] at h1; cases h1
        | some q =>
          obtain ⟨h2, h3⟩ := fnd_mem hf
          have : hasK C4.k (l.filter fun x => decide (x.k ≠ k)) k' = true := hasK_mem.2 ⟨q, List.mem_filter.2 ⟨h2, by rw [decide_eq_true_eq, h3]; rintro rfl; exact hn1 hk'⟩, h3⟩
          cases hf2 : fnd (l.filter fun x => decide (x.k ≠ k)) k' with
          | none => rw [fnd_none_iff.1 hf2] at this; cases this
          | some _ => rfl
    · rw [if_neg hb, rcL_all lo r l hn2 (fun k' hk' => h k' (List.mem_cons_of_mem _ hk'))]
      congr 1
      refine filter_same fun q _ => ?_
      by_cases hq : q.k = k
      · rw [hq]; simp [hb]
      · simp [hq]
theorem rcN_all (old : List C4) : ∀ (xs l : List C4), (∀ x ∈ xs, fnd old x.k = none) → rcN old xs l = some (xs.foldl (wiG false) l)
  | [], l, _ => rfl
  | x :: r, l, h => by
    rw [rcN, h x (List.mem_cons_self ..), if_neg (by simp), rcN_all old r _ (fun y hy => h y (List.mem_cons_of_mem _ hy))]; rfl
theorem fnd_some_iff {l : List C4} {k : Nat} : (fnd l k).isSome = true ↔ hasK C4.k l k = true := by
  cases h : fnd l k with
  | none => rw [fnd_none_iff.1 h]; simp
  | some q => obtain ⟨h1, h2⟩ := fnd_mem h; rw [hasK_mem.2 ⟨q, h1, h2⟩]; simp
theorem rcS_all : ∀ (xs l : List C4), (∀ x ∈ xs, hasK C4.k l x.k = true) → rcS xs l = some (xs.foldl (wiG false) l)
  | [], l, _ => rfl
  | x :: r, l, h => by
    rw [rcS, if_pos (fnd_some_iff.2 (h x (List.mem_cons_self ..))), rcS_all r _ (fun y hy => ?_)]
    · rfl
    · obtain ⟨z, h1, h2⟩ := hasK_mem.1 (h y (List.mem_cons_of_mem _ hy))
      by_cases hz : z.k = x.k
      · exact hasK_mem.2 ⟨x, (wiG_mem _ _ _).2 (.inl rfl), by rw [← hz]; exact h2⟩
      · exact hasK_mem.2 ⟨z, (wiG_mem _ _ _).2 (.inr ⟨h1, hz⟩), h2⟩
theorem foldW_srt : ∀ (xs l : List C4), Srt C4.k l → Srt C4.k (xs.foldl (wiG false) l)
  | [], _, h => h
  | x :: r, l, h => foldW_srt r _ (wiG_srt l x h)
theorem foldW_mem : ∀ (xs l : List C4), Srt C4.k xs → ∀ q, q ∈ xs.foldl (wiG false) l ↔ q ∈ xs ∨ (q ∈ l ∧ ∀ x ∈ xs, x.k ≠ q.k)
  | [], l, _, q => by simp
  | x :: r, l, h, q => by
    rw [List.foldl_cons, foldW_mem r _ h.tail, wiG_mem]
    constructor
    · rintro (h1 | ⟨h1 | h1, h2⟩)
      · exact .inl (List.mem_cons_of_mem _ h1)
      · exact .inl (by rw [h1]; exact List.mem_cons_self ..)
      · refine .inr ⟨h1.1, fun y hy => ?_⟩
        rcases List.mem_cons.1 hy with rfl | hy
        · exact fun e => h1.2 e.symm
        · exact h2 y hy
    · rintro (h1 | ⟨h1, h2⟩)
      · rcases List.mem_cons.1 h1 with h1 | h1
        · exact .inr ⟨.inl h1, fun y hy => by have := h.head y hy; rw [h1]; omega⟩
        · exact .inl h1
      · exact .inr ⟨.inr ⟨h1, fun e => h2 x (List.mem_cons_self ..) e.symm⟩, fun y hy => h2 y (List.mem_cons_of_mem _ hy)⟩
theorem rcX_own {a b : List C4} (ha : WfC a) (hb : WfC b) (i : Nat) : rcX ⟨i, lostP a b, newP a b, setP a b⟩ a = some b := by
  have B := lostP_bit ha hb
  unfold rcX
  dsimp only
  have e1 : rcL (lostP a b) (List.range' 0 8) a = some (a.filter fun x => hasK C4.k b x.k) := by
    rw [rcL_all _ _ _ (List.nodup_range' _)]
    · congr 1
      refine filter_same fun q hq => ?_
      have hk := ha.k q hq
      rw [B q.k (by omega), decide_eq_true (List.mem_range'_1.2 ⟨by omega, by omega⟩), Bool.true_and, fnd_of ha.s hq, fnd_isNone]
      simp
    · intro k hk hb'
      have := List.mem_range'_1.1 hk
      rw [B k (by omega)] at hb'
      exact (Bool.and_eq_true_iff.1 hb').1
  rw [e1, Option.bind_some, rcN_all, Option.bind_some, rcS_all]
  · congr 1
    refine srt_ext (κ := C4.k) (foldW_srt _ _ (foldW_srt _ _ (List.Pairwise.filter _ ha.s))) hb.s fun q => ?_
    have s1 : Srt C4.k (newP a b) := List.Pairwise.filter _ hb.s
    have s2 : Srt C4.k (setP a b) := List.Pairwise.filter _ hb.s
    have ub : ∀ x ∈ b, ∀ y ∈ b, x.k = y.k → x = y := fun x hx y hy e => by
      have h1 := fnd_of hb.s hx
      have h2 := fnd_of hb.s hy
      rw [e, h2] at h1; exact (Option.some.inj h1).symm
    rw [foldW_mem _ _ s2, foldW_mem _ _ s1, List.mem_filter]
    constructor
    · rintro (h | ⟨h | ⟨⟨h1, h2⟩, h3⟩, h4⟩)
      · exact (List.mem_filter.1 h).1
      · exact (List.mem_filter.1 h).1
      · obtain ⟨y, hy, e⟩ := hasK_mem.1 h2
        by_cases hyq : y = q
        · rw [← hyq]; exact hy
        · have hf : fnd a y.k = some q := by rw [e]; exact fnd_of ha.s h1
          refine absurd e (h4 y (List.mem_filter.2 ⟨hy, ?_⟩))
          rw [hf]; simp only [decide_eq_true_eq]; exact fun h => hyq h.symm
    · intro hq
      cases hf : fnd a q.k with
      | none =>
        refine .inr ⟨.inl (List.mem_filter.2 ⟨hq, by rw [hf]; rfl⟩), fun x hx e => ?_⟩
        have hx' := List.mem_filter.1 hx
        obtain rfl := ub x hx'.1 q hq e
        have := hx'.2
        rw [hf] at this; cases this
      | some z =>
        obtain ⟨hz1, hz2⟩ := fnd_mem hf
        by_cases hzq : z = q
        · subst hzq
          refine .inr ⟨.inr ⟨⟨hz1, hasK_mem.2 ⟨z, hq, rfl⟩⟩, fun x hx e => ?_⟩, fun x hx e => ?_⟩
          · have hx' := List.mem_filter.1 hx
            obtain rfl := ub x hx'.1 z hq e
            have := hx'.2
            rw [hf] at this; cases this
          · have hx' := List.mem_filter.1 hx
            obtain rfl := ub x hx'.1 z hq e
            have := hx'.2
            rw [hf] at this; simp at this
        · refine .inl (List.mem_filter.2 ⟨hq, ?_⟩)
          rw [hf]; simpa using hzq
  · intro x hx
    have hx' := List.mem_filter.1 hx
    cases hf : fnd a x.k with
    | none => have := hx'.2; rw [hf] at this; cases this
    | some z =>
      obtain ⟨hz1, hz2⟩ := fnd_mem hf
      refine hasK_mem.2 ⟨z, (foldW_mem _ _ (List.Pairwise.filter _ hb.s) z).2 (.inr ⟨List.mem_filter.2 ⟨hz1, hasK_mem.2 ⟨x, hx'.1, hz2.symm⟩⟩, fun y hy e => ?_⟩), hz2⟩
      have hy' := List.mem_filter.1 hy
      have := hy'.2
      rw [e, hz2, hf] at this; cases this
  · intro x hx
    have := (List.mem_filter.1 hx).2
    cases hf : fnd a x.k with
    | none => rfl
    | some z => rw [hf] at this; cases this
/-! ### all -/
theorem fndE_mem {X : List Et} {i : Nat} {x : Et} (h : fndE X i = some x) : x ∈ X ∧ x.1 = i := ⟨List.mem_of_find?_eq_some h, by have := List.find?_some h; simpa using this⟩
theorem fndE_some_iff {X : List Et} {i : Nat} : (fndE X i).isSome = true ↔ hasK ik X i = true := by
  have := find_hasK X i
  unfold fndE
  cases h : X.find? fun x => x.1 == i with
  | none => rw [h] at this; simp at this; rw [this]; simp
  | some q => rw [h] at this; simp at this; rw [this]; simp
theorem fndE_of {X : List Et} (hs : Srt ik X) {x : Et} (h : x ∈ X) : fndE X x.1 = some x := by
  cases hf : fndE X x.1 with
  | none => have := fndE_some_iff.2 (hasK_mem.2 ⟨x, h, rfl⟩ : hasK ik X x.1 = true); rw [hf] at this; cases this
  | some y =>
    obtain ⟨h1, h2⟩ := fndE_mem hf
    obtain ⟨i, hi, e1⟩ := List.getElem_of_mem h
    obtain ⟨j, hj, e2⟩ := List.getElem_of_mem h1
    have hP := List.pairwise_iff_getElem.1 hs
    rcases Nat.lt_trichotomy i j with q | q | q
    · have := hP i j hi hj q; rw [e1, e2] at this; exact absurd h2 (Nat.ne_of_gt this)
    · subst q; rw [← e1, ← e2]
    · have := hP j i hj hi q; rw [e1, e2] at this; exact absurd h2 (Nat.ne_of_lt this)
theorem dropE_eq : ∀ (X : List Et) (i : Nat), Srt ik X → dropE i X = X.filter fun x => decide (x.1 ≠ i)
  | [], _, _ => rfl
  | x :: r, i, h => by
    rw [dropE, List.filter_cons]
    by_cases hx : x.1 = i
    · rw [if_pos hx, if_neg (by simp [hx])]
      exact (List.filter_eq_self.2 fun z hz => by rw [decide_eq_true_eq]; have : x.1 < z.1 := h.head z hz; omega).symm
    · rw [if_neg hx, if_pos (by simpa using hx), dropE_eq r i h.tail]
theorem rcG_all : ∀ (is : List Nat) (X : List Et), Srt ik X → is.Nodup → (∀ i ∈ is, hasK ik X i = true) → rcG is X = some (X.filter fun x => !decide (x.1 ∈ is))
  | [], X, _, _, _ => by rw [rcG]; congr 1; exact (List.filter_eq_self.2 (fun q _ => by simp)).symm
  | i :: r, X, hs, hn, h => by
    obtain ⟨hn1, hn2⟩ := List.nodup_cons.1 hn
    rw [rcG, if_pos (fndE_some_iff.2 (h i (List.mem_cons_self ..))), dropE_eq X i hs, rcG_all r _ (List.Pairwise.filter _ hs) hn2, List.filter_filter]
    · congr 1
      refine filter_same fun q _ => ?_
      by_cases hq : q.1 = i
      · simp [hq]
      · simp [hq]
    · intro j hj
      obtain ⟨z, h1, h2⟩ := hasK_mem.1 (h j (List.mem_cons_of_mem _ hj))
      have h2' : z.1 = j := h2
      exact hasK_mem.2 ⟨z, List.mem_filter.2 ⟨h1, by rw [decide_eq_true_eq, h2']; rintro rfl; exact hn1 hj⟩, h2⟩
theorem putE_eq : ∀ (X : List Et) (i : Nat) (l : List C4), Srt ik X → putE i l X = X.map fun x => if x.1 = i then (x.1, l) else x
  | [], _, _, _ => rfl
  | x :: r, i, l, h => by
    rw [putE, List.map_cons]
    by_cases hx : x.1 = i
    · rw [if_pos hx, if_pos hx]
      congr 1
      exact (List.map_id'' (fun _ => rfl) r).symm.trans (List.map_congr_left fun z hz => by have : x.1 < z.1 := h.head z hz; rw [if_neg (by omega)])
    · rw [if_neg hx, if_neg hx, putE_eq r i l h.tail]
theorem Fa_map {R : Et → Et → Prop} (f : Et → Et) : ∀ {X Y : List Et}, Fa R (X.map f) Y → Fa (fun x y => R (f x) y) X Y
  | [], [], _ => trivial
  | _ :: _, _ :: _, h => ⟨h.1, Fa_map f h.2⟩
  | [], _ :: _, h => h.elim
  | _ :: _, [], h => h.elim
theorem Fa_imp {R S : Et → Et → Prop} : ∀ {X Y : List Et}, (∀ x ∈ X, ∀ y, R x y → S x y) → Fa R X Y → Fa S X Y
  | [], [], _, _ => trivial
  | x :: _, y :: _, h, k => ⟨h x (List.mem_cons_self ..) y k.1, Fa_imp (fun x hx y r => h x (List.mem_cons_of_mem _ hx) y r) k.2⟩
  | [], _ :: _, _, k => k.elim
  | _ :: _, [], _, k => k.elim
def HRel (cs : List Ch) (x y : Et) : Prop := y.1 = x.1 ∧ match cs.find? (fun c => c.id == x.1) with
  | none => y.2 = x.2
  | some c => rcX c x.2 = some y.2
theorem rcH_all : ∀ (cs : List Ch) (X : List Et), Srt ik X → (cs.map fun c => c.id).Nodup → (∀ c ∈ cs, ∃ x ∈ X, x.1 = c.id ∧ ∃ l, rcX c x.2 = some l) → ∃ Y, rcH cs X = some Y ∧ Fa (HRel cs) X Y
  | [], X, _, _, _ => ⟨X, rfl, by
    have : ∀ X : List Et, Fa (HRel []) X X := fun X => by induction X with | nil => exact trivial | cons a X ih => exact ⟨⟨rfl, rfl⟩, ih⟩
    exact this X⟩
  | c :: r, X, hs, hn, h => by
    obtain ⟨hn1, hn2⟩ := List.nodup_cons.1 (by simpa using hn : (c.id :: r.map fun c => c.id).Nodup)
    obtain ⟨x, hx, hxi, l, hl⟩ := h c (List.mem_cons_self ..)
    have hf : fndE X c.id = some x := by rw [← hxi]; exact fndE_of hs hx
    have e1 : rcH (c :: r) X = rcH r (putE c.id l X) := by rw [rcH, hf, Option.bind_some, hl, Option.bind_some]
    have hs' : Srt ik (putE c.id l X) := by
      rw [putE_eq X _ _ hs]
      refine List.pairwise_map.2 (hs.imp fun {a b} h => ?_)
      have ea : ∀ z : Et, ik (if z.1 = c.id then (z.1, l) else z) = ik z := fun z => by split <;> rfl
      rw [ea, ea]; exact h
    obtain ⟨Y, hY, hFa⟩ := rcH_all r (putE c.id l X) hs' hn2 (fun c' hc' => by
      obtain ⟨x', hx', hi', l', hl'⟩ := h c' (List.mem_cons_of_mem _ hc')
      refine ⟨x', ?_, hi', l', hl'⟩
      rw [putE_eq X _ _ hs]
      refine List.mem_map.2 ⟨x', hx', if_neg fun e => hn1 ?_⟩
      rw [← e, hi']; exact List.mem_map.2 ⟨c', hc', rfl⟩)
    refine ⟨Y, e1.trans hY, ?_⟩
    rw [putE_eq X _ _ hs] at hFa
    refine Fa_imp ?_ (Fa_map _ hFa)
    intro z hz y hr
    by_cases hzc : z.1 = c.id
    · rw [if_pos hzc] at hr
      obtain ⟨r1, r2⟩ := hr
      have hzx : z = x := by
        have := fndE_of hs hz
        rw [hzc, hf] at this; exact (Option.some.inj this).symm
      have hnone : r.find? (fun c => c.id == z.1) = none := List.find?_eq_none.2 fun c' hc' => by
        simp only [beq_iff_eq]; rw [hzc]; intro e; exact hn1 (e ▸ List.mem_map.2 ⟨c', hc', rfl⟩)
      dsimp only at r1 r2
      rw [hnone] at r2
      refine ⟨r1, ?_⟩
      rw [List.find?_cons, show (c.id == z.1) = true from beq_iff_eq.2 hzc.symm]
      dsimp only
      rw [r2, hzx]; exact hl
    · rw [if_neg hzc] at hr
      obtain ⟨r1, r2⟩ := hr
      refine ⟨r1, ?_⟩
      rw [List.find?_cons, show (c.id == z.1) = false from beq_eq_false_iff_ne.2 fun e => hzc e.symm]
      exact r2
theorem inG_true : ∀ (X : List Et) (e : Et), inG true X e = X
  | [], e => rfl
  | x :: r, e => by rw [inG, Bool.true_or, inG_true r e]; simp
theorem inG_mem (X : List Et) (e q : Et) : q ∈ inG false X e ↔ q = e ∨ q ∈ X := by
  induction X with
  | nil => simp [inG]
  | cons x r ih =>
    rw [inG]
    by_cases h1 : e.1 ≤ x.1
    · rw [Bool.false_or, decide_eq_true h1, inG_true]
      simp
    · rw [Bool.false_or, decide_eq_false h1, if_neg (by simp), List.nil_append, List.mem_cons, ih, List.mem_cons]
      constructor
      · rintro (h | h | h)
        · exact .inr (.inl h)
        · exact .inl h
        · exact .inr (.inr h)
      · rintro (h | h | h)
        · exact .inr (.inl h)
        · exact .inl h
        · exact .inr (.inr h)
theorem inG_srt (X : List Et) (e : Et) (h : Srt ik X) (hn : ∀ x ∈ X, x.1 ≠ e.1) : Srt ik (inG false X e) := by
  induction X with
  | nil => exact List.pairwise_singleton _ _
  | cons x r ih =>
    rw [inG]
    have hx := hn x (List.mem_cons_self ..)
    by_cases h1 : e.1 ≤ x.1
    · rw [Bool.false_or, decide_eq_true h1, inG_true]
      simp only [Bool.not_false, Bool.true_and, if_true, List.cons_append, List.nil_append]
      refine List.pairwise_cons.2 ⟨fun z hz => ?_, h⟩
      show e.1 < z.1
      rcases List.mem_cons.1 hz with rfl | hz
      · omega
      · have : x.1 < z.1 := h.head z hz; omega
    · rw [Bool.false_or, decide_eq_false h1, if_neg (by simp), List.nil_append]
      refine List.pairwise_cons.2 ⟨fun z hz => ?_, ih h.tail fun z hz => hn z (List.mem_cons_of_mem _ hz)⟩
      show x.1 < z.1
      rcases (inG_mem r e z).1 hz with rfl | hz
      · omega
      · exact h.head z hz
theorem inG_len : ∀ (d : Bool) (X : List Et) (e : Et), (inG d X e).length ≤ X.length + 1
  | d, [], e => by rw [inG]; split <;> simp
  | true, x :: r, e => by rw [inG_true]; exact Nat.le_succ _
  | false, x :: r, e => by
    rw [inG]
    by_cases h1 : e.1 ≤ x.1
    · rw [Bool.false_or, decide_eq_true h1, inG_true]; simp
    · have := inG_len false r e
      rw [Bool.false_or, decide_eq_false h1, if_neg (by simp), List.nil_append]; simp; omega
theorem rcC_all (L : List Et) : ∀ (es X : List Et), (∀ e ∈ es, hasK ik L e.1 = false) → rcC L es X = some (es.foldl (inG false) X)
  | [], X, _ => rfl
  | e :: r, X, h => by
    rw [rcC, if_neg (by rw [fndE_some_iff, h e (List.mem_cons_self ..)]; exact Bool.false_ne_true), rcC_all L r _ (fun y hy => h y (List.mem_cons_of_mem _ hy))]; rfl
theorem foldI : ∀ (es X : List Et), Srt ik X → Srt ik es → (∀ x ∈ X, ∀ e ∈ es, x.1 ≠ e.1) → Srt ik (es.foldl (inG false) X) ∧ ∀ q, q ∈ es.foldl (inG false) X ↔ q ∈ es ∨ q ∈ X
  | [], X, h, _, _ => ⟨h, fun q => by simp⟩
  | e :: r, X, h, he, hd => by
    obtain ⟨h1, h2⟩ := foldI r (inG false X e) (inG_srt X e h fun x hx => hd x hx e (List.mem_cons_self ..)) he.tail (fun x hx e' he' => by
      rcases (inG_mem X e x).1 hx with rfl | hx
      · have : x.1 < e'.1 := he.head e' he'; omega
      · exact hd x hx e' (List.mem_cons_of_mem _ he'))
    refine ⟨h1, fun q => ?_⟩
    rw [List.foldl_cons, h2, inG_mem, List.mem_cons]
    constructor
    · rintro (h | h | h)
      · exact .inl (.inr h)
      · exact .inl (.inl h)
      · exact .inr h
    · rintro ((h | h) | h)
      · exact .inr (.inl h)
      · exact .inl h
      · exact .inr (.inr h)
/-- over its own delta a snapshot becomes the other one, step by step -/
theorem rc_mrg {L M : List Et} (hL : WfL L) (hM : WfL M) : rcAll L (mrg L M) = some M := by
  unfold rcAll
  have e1 : rcG (mrg L M).gone L = some (L.filter fun x => hasK ik M x.1) := by
    have hn : (mrg L M).gone.Nodup := by
      have := named_nodup hL.s hM.s
      unfold named at this
      exact (List.nodup_append.1 (List.nodup_append.1 this).1).1
    rw [rcG_all _ _ hL.s hn]
    · exact congrArg some (stays_mrg hL.s hM.s)
    · intro i hi
      rw [mrg_gone L M hL.s hM.s] at hi
      obtain ⟨z, hz, e⟩ := List.mem_map.1 hi
      exact hasK_mem.2 ⟨z, (List.mem_filter.1 hz).1, e⟩
  rw [e1, Option.bind_some]
  have hnc : ((mrg L M).chg.map fun c => c.id).Nodup := nodup_of_srt (κ := fun c : Ch => c.id) (mrg_chg_srt L M hL.s hM.s)
  obtain ⟨Y, hY, hFa⟩ := rcH_all (mrg L M).chg (L.filter fun x => hasK ik M x.1) (List.Pairwise.filter _ hL.s) hnc (fun c hc => by
    rw [mrg_chg L M hL.s hM.s] at hc
    obtain ⟨y, hy, e⟩ := List.mem_filterMap.1 hc
    unfold chgO at e
    cases hf : L.find? fun x => x.1 == y.1 with
    | none => rw [hf] at e; cases e
    | some x =>
      rw [hf] at e
      dsimp only at e
      split at e
      · cases e
      · have e := Option.some.inj e
        have hx1 : x ∈ L := List.mem_of_find?_eq_some hf
        have hx2 : x.1 = y.1 := by have := List.find?_some hf; simpa using this
        refine ⟨x, List.mem_filter.2 ⟨hx1, hasK_mem.2 ⟨y, hy, hx2.symm⟩⟩, by rw [← e]; exact hx2, y.2, ?_⟩
        rw [← e]; exact rcX_own (hL.c x hx1) (hM.c y hy) _)
  rw [hY, Option.bind_some, rcC_all]
  · have hYM : Y = M.filter fun y => hasK ik L y.1 := by
      refine inter (κ := ik) L M Y hL.s hM.s hFa ?_
      intro x hx y hy e y' hr
      obtain ⟨r1, r2⟩ := hr
      rw [mrg_find L M hL.s hM.s x hx y hy e] at r2
      by_cases hz : (chgP x y).none = true
      · rw [if_pos hz] at r2
        have := none_eq (hL.c x hx) (hM.c y hy) y.1 hz
        exact Prod.ext (r1.trans e) (r2.trans this)
      · rw [if_neg hz] at r2
        have := rcX_own (hL.c x hx) (hM.c y hy) y.1
        have r2' : rcX (chgP x y) x.2 = some y'.2 := r2
        have h3 : some y'.2 = some y.2 := r2'.symm.trans this
        exact Prod.ext (r1.trans e) (Option.some.inj h3)
    have hc := mrg_come L M hL.s hM.s
    rw [hYM, hc]
    obtain ⟨h1, h2⟩ := foldI (M.filter fun y => !hasK ik L y.1) (M.filter fun y => hasK ik L y.1) (List.Pairwise.filter _ hM.s) (List.Pairwise.filter _ hM.s) (fun x hx e he h => by
      have := (List.mem_filter.1 hx).2
      have k := (List.mem_filter.1 he).2
      rw [← h, this] at k; cases k)
    refine congrArg some (srt_ext (κ := ik) h1 hM.s fun q => ?_)
    rw [h2, List.mem_filter, List.mem_filter]
    constructor
    · rintro (h | h)
      · exact h.1
      · exact h.1
    · intro h
      cases hh : hasK ik L q.1
      · exact .inl ⟨h, rfl⟩
      · exact .inr ⟨h, rfl⟩
  · intro e he
    rw [mrg_come L M hL.s hM.s] at he
    simpa using (List.mem_filter.1 he).2
end Go.Proofs.Ytdnkdmdmekdfkaa
