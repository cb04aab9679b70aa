/- The plain law of deltas: names once; who isn't named is as it was. -/
import Derived.Test.YtdnkdmdmekdfkaaDfP2
namespace Go.Proofs.Ytdnkdmdmekdfkaa
open Go.RowKit
/-- whom a delta names -/
def named (D : Dl) : List Nat := D.gone ++ D.come.map ik ++ D.chg.map fun c => c.id
theorem mrg_chg_both : ∀ (L M : List Et), ∀ c ∈ (mrg L M).chg, (∃ x ∈ L, x.1 = c.id) ∧ ∃ y ∈ M, y.1 = c.id := by
  intro L M
  induction L, M using mrg.induct with
  | case1 => intro c hc; rw [mrg] at hc; cases hc
  | case2 x a ih => intro c hc; rw [mrg] at hc; obtain ⟨_, y, hy, _⟩ := ih c hc; cases hy
  | case3 n b ih => intro c hc; rw [mrg] at hc; obtain ⟨⟨x, hx, _⟩, _⟩ := ih c hc; cases hx
  | case4 x a n b hlt ih =>
    intro c hc
    rw [mrg, if_pos hlt] at hc
    obtain ⟨⟨z, hz, e⟩, h2⟩ := ih c hc
    exact ⟨⟨z, List.mem_cons_of_mem _ hz, e⟩, h2⟩
  | case5 x a n b h1' h2' ih =>
    intro c hc
    rw [mrg, if_neg h1', if_pos h2'] at hc
    obtain ⟨h1, ⟨z, hz, e⟩⟩ := ih c hc
    exact ⟨h1, ⟨z, List.mem_cons_of_mem _ hz, e⟩⟩
  | case6 x a n b h1' h2' hz ih =>
    intro c hc
    rw [mrg, if_neg h1', if_neg h2'] at hc
    simp only [hz, if_true] at hc
    obtain ⟨⟨u, hu, e⟩, ⟨v, hv, e'⟩⟩ := ih c hc
    exact ⟨⟨u, List.mem_cons_of_mem _ hu, e⟩, ⟨v, List.mem_cons_of_mem _ hv, e'⟩⟩
  | case7 x a n b h1' h2' hz ih =>
    intro c hc
    rw [mrg, if_neg h1', if_neg h2'] at hc
    simp only [hz, Bool.false_eq_true, if_false] at hc
    rcases List.mem_cons.1 hc with h | hc
    · rw [h]
      exact ⟨⟨x, List.mem_cons_self .., show x.1 = n.1 by omega⟩, ⟨n, List.mem_cons_self .., rfl⟩⟩
    · obtain ⟨⟨u, hu, e⟩, ⟨v, hv, e'⟩⟩ := ih c hc
      exact ⟨⟨u, List.mem_cons_of_mem _ hu, e⟩, ⟨v, List.mem_cons_of_mem _ hv, e'⟩⟩
theorem mrg_chg_srt : ∀ (L M : List Et), Srt ik L → Srt ik M → (mrg L M).chg.Pairwise fun c d => c.id < d.id := by
  intro L M
  induction L, M using mrg.induct with
  | case1 => intro _ _; rw [mrg]; exact List.Pairwise.nil
  | case2 x a ih => intro h1 h2; rw [mrg]; exact ih h1.tail h2
  | case3 n b ih => intro h1 h2; rw [mrg]; exact ih h1 h2.tail
  | case4 x a n b hlt ih => intro h1 h2; rw [mrg, if_pos hlt]; exact ih h1.tail h2
  | case5 x a n b h1' h2' ih => intro h1 h2; rw [mrg, if_neg h1', if_pos h2']; exact ih h1 h2.tail
  | case6 x a n b h1' h2' hz ih => intro h1 h2; rw [mrg, if_neg h1', if_neg h2']; simp only [hz, if_true]; exact ih h1.tail h2.tail
  | case7 x a n b h1' h2' hz ih =>
    intro h1 h2
    rw [mrg, if_neg h1', if_neg h2']
    simp only [hz, Bool.false_eq_true, if_false]
    refine List.pairwise_cons.2 ⟨fun c hc => ?_, ih h1.tail h2.tail⟩
    obtain ⟨y, hy, e⟩ := (mrg_chg_both a b c hc).2
    show n.1 < c.id
    rw [← e]; exact h2.head y hy
theorem nodup_of_srt {α : Type} {κ : α → Nat} {l : List α} (h : l.Pairwise fun a b => κ a < κ b) : (l.map κ).Nodup := by
  rw [List.nodup_iff_pairwise_ne, List.pairwise_map]
  exact h.imp fun h => Nat.ne_of_lt h
theorem named_nodup {L M : List Et} (hL : Srt ik L) (hM : Srt ik M) : (named (mrg L M)).Nodup := by
  have hg := mrg_gone L M hL hM
  have hc := mrg_come L M hL hM
  have n1 : (mrg L M).gone.Nodup := by rw [hg]; exact nodup_of_srt (κ := ik) (List.Pairwise.filter _ hL)
  have n2 : ((mrg L M).come.map ik).Nodup := by rw [hc]; exact nodup_of_srt (κ := ik) (List.Pairwise.filter _ hM)
  have n3 : ((mrg L M).chg.map fun c => c.id).Nodup := nodup_of_srt (κ := fun c : Ch => c.id) (mrg_chg_srt L M hL hM)
  have mg : ∀ i ∈ (mrg L M).gone, hasK ik M i = false := fun i hi => by
    rw [hg] at hi
    obtain ⟨z, hz, e⟩ := List.mem_map.1 hi
    have := (List.mem_filter.1 hz).2
    rw [e] at this; simpa using this
  have mc : ∀ i ∈ (mrg L M).come.map ik, hasK ik M i = true ∧ hasK ik L i = false := fun i hi => by
    rw [hc] at hi
    obtain ⟨z, hz, e⟩ := List.mem_map.1 hi
    have h2 := (List.mem_filter.1 hz).2
    refine ⟨hasK_mem.2 ⟨z, (List.mem_filter.1 hz).1, e⟩, ?_⟩
    rw [← e]; simpa using h2
  have mh : ∀ i ∈ (mrg L M).chg.map fun c => c.id, hasK ik M i = true ∧ hasK ik L i = true := fun i hi => by
    obtain ⟨c, hc, e⟩ := List.mem_map.1 hi
    obtain ⟨⟨x, hx, e1⟩, ⟨y, hy, e2⟩⟩ := mrg_chg_both L M c hc
    exact ⟨hasK_mem.2 ⟨y, hy, e2.trans e⟩, hasK_mem.2 ⟨x, hx, e1.trans e⟩⟩
  unfold named
  rw [List.nodup_append, List.nodup_append]
  refine ⟨⟨n1, n2, fun a ha b hb e => ?_⟩, n3, fun a ha b hb e => ?_⟩
  · subst e
    have h1 := mg a ha
    rw [(mc a hb).1] at h1; cases h1
  · subst e
    rcases List.mem_append.1 ha with h | h
    · have h1 := mg a h
      rw [(mh a hb).1] at h1; cases h1
    · have h1 := (mc a h).2
      rw [(mh a hb).2] at h1; cases h1
/-- whom a delta doesn't name is there, and as it was -/
theorem unnamed {L M : List Et} (hL : WfL L) (hM : WfL M) {x : Et} (hx : x ∈ L) (h : ¬ x.1 ∈ named (mrg L M)) : M.find? (fun y => y.1 == x.1) = some x := by
  unfold named at h
  have h1 : ¬ x.1 ∈ (mrg L M).gone := fun q => h (List.mem_append_left _ (List.mem_append_left _ q))
  have h3 : ¬ x.1 ∈ (mrg L M).chg.map fun c => c.id := fun q => h (List.mem_append_right _ q)
  have hk : hasK ik M x.1 = true := by
    cases hh : hasK ik M x.1 with
    | true => rfl
    | false =>
      exfalso; apply h1
      rw [mrg_gone L M hL.s hM.s]
      exact List.mem_map.2 ⟨x, List.mem_filter.2 ⟨hx, by rw [hh]; rfl⟩, rfl⟩
  obtain ⟨y, hy, e⟩ := hasK_mem.1 hk
  have hf := mrg_find L M hL.s hM.s x hx y hy e.symm
  have hz : (chgP x y).none = true := by
    by_cases hz : (chgP x y).none = true
    · exact hz
    · rw [if_neg hz] at hf
      exfalso; apply h3
      have := List.find?_some hf
      exact List.mem_map.2 ⟨chgP x y, List.mem_of_find?_eq_some hf, by simpa using this⟩
  have hxy : x = y := Prod.ext e.symm (none_eq (hL.c x hx) (hM.c y hy) y.1 hz)
  cases hfi : M.find? (fun y => y.1 == x.1) with
  | none =>
    have := List.find?_eq_none.1 hfi y hy
    rw [show (y.1 == x.1) = true from beq_iff_eq.2 e] at this
    exact absurd rfl this
  | some z =>
    have hz1 := List.mem_of_find?_eq_some hfi
    have hz2 : z.1 = x.1 := by have := List.find?_some hfi; simpa using this
    have hu : ∀ (l : List Et), Srt ik l → ∀ a ∈ l, ∀ b ∈ l, a.1 = b.1 → a = b := by
      intro l
      induction l with
      | nil => intro _ a ha; cases ha
      | cons w l ih =>
        intro hs a ha b hb e
        rcases List.mem_cons.1 ha with ha' | ha'
        · rcases List.mem_cons.1 hb with hb' | hb'
          · rw [ha', hb']
          · have : w.1 < b.1 := hs.head b hb'; rw [← ha'] at this; omega
        · rcases List.mem_cons.1 hb with hb' | hb'
          · have : w.1 < a.1 := hs.head a ha'; rw [← hb'] at this; omega
          · exact ih hs.tail a ha' b hb' e
    rw [hu M hM.s z hz1 y hy (hz2.trans e.symm), ← hxy]
end Go.Proofs.Ytdnkdmdmekdfkaa
