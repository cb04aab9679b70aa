/- The reference's list and the grid's map speak of the same (plain law). -/
import Derived.Test.YtohflgpkimnodaaRf2
import Derived.Test.YtohflgpkimnodaaCa2
namespace Go.Proofs.Ytohflgpkimnodaa
open Go.RowKit
def cellsOf (q : SpQ) : Int × Int := (cell q.2.1, cell q.2.2)
structure Rel (M : Nat → Option (Int × Int)) (L : List SpQ) : Prop where
  srt : L.Pairwise (fun a b => a.1 < b.1)
  mem : ∀ i s, M i = some s ↔ ∃ q ∈ L, q.1 = i ∧ s = cellsOf q
  ok : ∀ q ∈ L, spOk q ∧ inWorld q.2.1 q.2.2
  nz : ∀ q ∈ L, q.1 ≠ 0
theorem Rel.nil : Rel M0 [] := ⟨List.Pairwise.nil, fun i s => (by simp [M0]), fun q h => (by cases h), fun q h => (by cases h)⟩
theorem mem_dropL {L : List SpQ} {id : Nat} {q : SpQ} : q ∈ dropL L id ↔ q ∈ L ∧ q.1 ≠ id := by unfold dropL; rw [List.mem_filter, decide_eq_true_iff]
theorem mem_insL (q : SpQ) (P : List SpQ) (s : SpQ) : s ∈ insL q P ↔ s = q ∨ s ∈ P := by
  induction P with
  | nil => simp [insL]
  | cons p P ih =>
    rw [insL]
    split
    · simp
    · rw [List.mem_cons, ih, List.mem_cons]
      constructor
      · rintro (h | h | h)
        · exact .inr (.inl h)
        · exact .inl h
        · exact .inr (.inr h)
      · rintro (h | h | h)
        · exact .inr (.inl h)
        · exact .inl h
        · exact .inr (.inr h)
theorem srt_insL (q : SpQ) (P : List SpQ) (h : P.Pairwise (fun a b => a.1 < b.1)) (hn : ∀ s ∈ P, s.1 ≠ q.1) : (insL q P).Pairwise (fun a b => a.1 < b.1) := by
  induction P with
  | nil => simp [insL]
  | cons p P ih =>
    obtain ⟨h1, h2⟩ := List.pairwise_cons.1 h
    rw [insL]
    split
    · rename_i hq
      refine List.pairwise_cons.2 ⟨fun s hs => ?_, h⟩
      rcases List.mem_cons.1 hs with rfl | hs
      · exact hq
      · exact Nat.lt_trans hq (h1 s hs)
    · rename_i hq
      have hp := hn p (List.mem_cons_self ..)
      refine List.pairwise_cons.2 ⟨fun s hs => ?_, ih h2 (fun s hs => hn s (List.mem_cons_of_mem _ hs))⟩
      rcases (mem_insL q P s).1 hs with rfl | hs
      · omega
      · exact h1 s hs
section
variable {M : Nat → Option (Int × Int)} {L : List SpQ}
theorem Rel.uniq (h : Rel M L) {a b : SpQ} (ha : a ∈ L) (hb : b ∈ L) (e : a.1 = b.1) : a = b := by
  have : ∀ (l : List SpQ), l.Pairwise (fun a b => a.1 < b.1) → a ∈ l → b ∈ l → a = b := by
    intro l
    induction l with
    | nil => intro _ h; cases h
    | cons p l ih =>
      intro hp ha hb
      obtain ⟨h1, h2⟩ := List.pairwise_cons.1 hp
      rcases List.mem_cons.1 ha with e1 | ha2
      · rcases List.mem_cons.1 hb with e2 | hb2
        · rw [e1, e2]
        · have := h1 b hb2; rw [← e1] at this; omega
      · rcases List.mem_cons.1 hb with e2 | hb2
        · have := h1 a ha2; rw [← e2] at this; omega
        · exact ih h2 ha2 hb2
  exact this L h.srt ha hb
theorem Rel.drop (h : Rel M L) (i : Nat) : Rel (mset M i none) (dropL L i) := by
  refine ⟨h.srt.filter _, fun j s => ?_, fun q hq => h.ok q (mem_dropL.1 hq).1, fun q hq => h.nz q (mem_dropL.1 hq).1⟩
  rw [mset_none, h.mem]
  constructor
  · rintro ⟨q, a, ha, rfl, e⟩
    exact ⟨a, mem_dropL.2 ⟨ha, q⟩, rfl, e⟩
  · rintro ⟨a, ha, rfl, e⟩
    exact ⟨(mem_dropL.1 ha).2, a, (mem_dropL.1 ha).1, rfl, e⟩
theorem Rel.ins (h : Rel M L) (id : Nat) (x y : Int) (h0 : id ≠ 0) (hid : id < 4294967296) (hw : inWorld x y) : Rel (mset M id (some (cell x, cell y))) (insL (id, x, y) (dropL L id)) := by
  have hd := h.drop id
  refine ⟨srt_insL _ _ hd.srt (fun s hs => (mem_dropL.1 hs).2), fun j s => ?_, fun q hq => ?_, fun q hq => ?_⟩
  · by_cases q : j = id
    · subst q
      rw [mset_same]
      constructor
      · rintro e
        cases e
        exact ⟨_, (mem_insL _ _ _).2 (.inl rfl), rfl, rfl⟩
      · rintro ⟨a, ha, e1, rfl⟩
        rcases (mem_insL _ _ _).1 ha with rfl | ha
        · rfl
        · exact absurd e1 (mem_dropL.1 ha).2
    · rw [mset_other _ q, show M j = mset M id none j from (mset_other _ q).symm, hd.mem]
      constructor
      · rintro ⟨a, ha, e⟩
        exact ⟨a, (mem_insL _ _ _).2 (.inr ha), e⟩
      · rintro ⟨a, ha, e1, e2⟩
        rcases (mem_insL _ _ _).1 ha with rfl | ha
        · exact absurd e1.symm q
        · exact ⟨a, ha, e1, e2⟩
  · rcases (mem_insL _ _ _).1 hq with rfl | hq
    · unfold inWorld at hw
      exact ⟨⟨hid, by simp only; omega, by simp only; omega⟩, hw⟩
    · exact hd.ok q hq
  · rcases (mem_insL _ _ _).1 hq with rfl | hq
    · exact h0
    · exact hd.nz q hq
theorem Rel.put (h : Rel M L) (id : Nat) (x y : Int) (hid : id < 4294967296) : Rel (putM M id x y) (putL L id x y) := by
  unfold putM putL
  by_cases h0 : id = 0
  · rw [if_neg (fun q => q.1 h0), if_pos h0]; exact h
  · rw [if_neg h0]
    by_cases hw : inWorld x y
    · rw [if_pos ⟨h0, hw⟩, if_pos hw]; exact h.ins id x y h0 hid hw
    · rw [if_neg (fun q => hw q.2), if_neg hw]; exact h
theorem putL_len (L : List SpQ) (id : Nat) (x y : Int) : (putL L id x y).length ≤ L.length + 1 := by
  unfold putL
  split
  · omega
  · split
    · rw [insL_len]; have := dropL_le L id; omega
    · omega
theorem Rel.few (h : Rel M L) : Few M L.length := ⟨L.map (·.1), by simp, fun i s hi => by
  obtain ⟨q, hq, rfl, _⟩ := (h.mem i s).1 hi
  exact List.mem_map_of_mem hq⟩
theorem Rel.ids (h : Rel M L) : (L.map (·.1)).Pairwise (· < ·) := List.pairwise_map.2 h.srt
/-- those of a list that fit, by their IDs -/
def selL (p : Int × Int → Bool) (L : List SpQ) : List Nat := (L.filter fun q => p (cellsOf q)).map (·.1)
theorem Rel.sel_srt (h : Rel M L) (p : Int × Int → Bool) : (selL p L).Pairwise (· < ·) := List.pairwise_map.2 (h.srt.filter _)
theorem Rel.mem_sel (h : Rel M L) (p : Int × Int → Bool) (i : Nat) : i ∈ selL p L ↔ ∃ s, M i = some s ∧ p s = true := by
  unfold selL
  rw [List.mem_map]
  constructor
  · rintro ⟨q, hq, rfl⟩
    obtain ⟨h1, h2⟩ := List.mem_filter.1 hq
    exact ⟨_, (h.mem _ _).2 ⟨q, h1, rfl, rfl⟩, h2⟩
  · rintro ⟨s, hs, hp⟩
    obtain ⟨q, h1, h2, rfl⟩ := (h.mem _ _).1 hs
    exact ⟨q, List.mem_filter.2 ⟨h1, hp⟩, h2⟩
theorem Rel.cell_in (h : Rel M L) {i : Nat} {s : Int × Int} (hs : M i = some s) : -32 ≤ s.1 ∧ s.1 ≤ 31 ∧ -32 ≤ s.2 ∧ s.2 ≤ 31 := by
  obtain ⟨q, h1, _, rfl⟩ := (h.mem _ _).1 hs
  have := (h.ok q h1).2
  unfold inWorld at this
  unfold cellsOf cell
  simp only
  omega
theorem sel_len (p : Int × Int → Bool) (L : List SpQ) : (selL p L).length ≤ L.length := by unfold selL; rw [List.length_map]; exact List.length_filter_le _ _
theorem sel_take_go (p : Int × Int → Bool) (L : List SpQ) (j : Nat) (h : j < L.length) (hp : p (cellsOf L[j]) = true) : selL p (L.take (j + 1)) = selL p (L.take j) ++ [L[j].1] := by
  rw [List.take_succ_eq_append_getElem h]
  unfold selL
  rw [List.filter_append, List.map_append]
  simp [hp]
theorem sel_take_skip (p : Int × Int → Bool) (L : List SpQ) (j : Nat) (h : j < L.length) (hp : p (cellsOf L[j]) = false) : selL p (L.take (j + 1)) = selL p (L.take j) := by
  rw [List.take_succ_eq_append_getElem h]
  unfold selL
  rw [List.filter_append, List.map_append]
  simp [hp]
end
theorem take_min_stp {α : Type} (L : List α) (j m : Nat) (h : j < L.length) (hm : j < m) : L.take (min (j + 1) m) = L.take (min j m) ++ [L[j]] := by
  rw [Nat.min_eq_left (by omega), Nat.min_eq_left (by omega), List.take_succ_eq_append_getElem h]
theorem take_min_sam {α : Type} (L : List α) (j m : Nat) (hm : m ≤ j) : L.take (min (j + 1) m) = L.take (min j m) := by
  rw [Nat.min_eq_right (by omega), Nat.min_eq_right (by omega)]
/-- the list behind a script -/
def runL (l L : List SpQ) : List SpQ := l.foldl (fun L q => putL L q.1 q.2.1 q.2.2) L
def runS (l : List SpQ) (M : Nat → Option (Int × Int)) : Nat → Option (Int × Int) := l.foldl (fun M q => putM M q.1 q.2.1 q.2.2) M
theorem runL_snoc (l L : List SpQ) (q : SpQ) : runL (l ++ [q]) L = putL (runL l L) q.1 q.2.1 q.2.2 := by simp [runL]
theorem runS_snoc (l : List SpQ) (M : Nat → Option (Int × Int)) (q : SpQ) : runS (l ++ [q]) M = putM (runS l M) q.1 q.2.1 q.2.2 := by simp [runS]
theorem run_rel (l : List SpQ) (hl : ∀ q ∈ l, q.1 < 4294967296) : ∀ {M : Nat → Option (Int × Int)} {L : List SpQ}, Rel M L → Rel (runS l M) (runL l L) ∧ (runL l L).length ≤ L.length + l.length := by
  induction l with
  | nil => intro M L h; exact ⟨h, by simp [runL]⟩
  | cons q l ih =>
    intro M L h
    obtain ⟨h1, h2⟩ := ih (fun s hs => hl s (List.mem_cons_of_mem _ hs)) (h.put q.1 q.2.1 q.2.2 (hl q (List.mem_cons_self ..)))
    refine ⟨h1, ?_⟩
    have := putL_len L q.1 q.2.1 q.2.2
    show (runL l (putL L q.1 q.2.1 q.2.2)).length ≤ _
    rw [List.length_cons]
    omega
theorem run60 (l : List SpQ) (hl : ∀ q ∈ l, q.1 < 4294967296) (j : Nat) : Rel (runS (l.take (min j 60)) M0) (runL (l.take (min j 60)) []) ∧ (runL (l.take (min j 60)) []).length ≤ 60 := by
  obtain ⟨h1, h2⟩ := run_rel (l.take (min j 60)) (fun q hq => hl q (List.mem_of_mem_take hq)) Rel.nil
  refine ⟨h1, ?_⟩
  rw [List.length_take] at h2
  simp only [List.length_nil] at h2
  omega
end Go.Proofs.Ytohflgpkimnodaa
