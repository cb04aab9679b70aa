/- slices.Collect, slices.Sorted, slices.Clip of sets of IDs: walked. -/
import Derived.Test.YtohflgpkimnodaaIt2
import Derived.Test.YtohflgpkimnodaaGr5
namespace Go.Proofs.Ytohflgpkimnodaa
open Go.RowKit Go.Maps Go.Shelf
/-- a set of IDs, or nil -/
def SetAt (w : World) (mb : Option Nat) (In : Nat → Prop) (K : Nat) : Prop :=
  (mb = none ∧ ∀ x, ¬ In x) ∨ ∃ (b : Nat) (D : DataW Unit), mb = some b ∧ w.ownsMap Try.prog 38 unitElem b (Maps.size D) D ∧ Maps.size D ≤ K ∧ ∀ l, has D l = true ↔ ∃ x, In x ∧ l = idKey x
theorem SetAt.new {w w' : World} {mb : Option Nat} {In : Nat → Prop} {K : Nat} (h : SetAt w mb In K) (u : New w w') : SetAt w' mb In K := by
  rcases h with h | ⟨b, D, h1, h2, h3⟩
  · exact .inl h
  · exact .inr ⟨b, D, h1, ownsMap_upd h2 u (fun q => q), h3⟩
theorem GA.setAt {n0 : Nat} {w : World} {g cb hb : Nat} {DC DH : DataW Unit} {B : Int × Int → Nat} {M : Nat → Option (Int × Int)} {K : Nat} (h : GA n0 w g cb hb DC DH B M) (f : Few M K) (s : Int × Int) (hs : inS s) :
    ∃ mb, SetAt w mb (fun i => M i = some s) K ∧ ∀ w', GA n0 w' g cb hb DC DH B M → (Instr.lookup 59 (.map (some cb)) (.agg #[.int .i64 s.1, .int .i64 s.2]) false).run Try.prog w' = .ok (.map mb) w' := by
  by_cases q : ∃ k, M k = some s
  · obtain ⟨k, hk⟩ := q
    obtain ⟨D, m1, m2⟩ := h.sets k s hk
    exact ⟨some (B s), .inr ⟨B s, D, rfl, m1, few_set m1 m2 f, m2⟩, fun w' h' => look_set h'.cells hs (h'.cat k s hk)⟩
  · exact ⟨none, .inl ⟨rfl, fun x hx => q ⟨x, hx⟩⟩, fun w' h' => look_set0 h'.cells hs (h'.noCell hs fun k hk => q ⟨k, hk⟩)⟩
abbrev seqV (Bm : Nat) : Value := .func (.func 40) #[] #[.pointer (some ⟨Bm, 0, none⟩)]
theorem keys_any (mb : Option Nat) (w : World) : Calls Try.prog 37 #[.map mb] w fun e w' => e = .returned (seqV w.heap.size) ∧ w' = w.alloc (.cells #[.map mb] 72) :=
  callsIn_wide.1 (keys_in Fence.wide 1 trivial rfl mb w)
theorem seq_of {w : World} {mb : Option Nat} {In : Nat → Prop} {K : Nat} (h : SetAt w mb In K) (n : Nat) (hn : 1 ≤ n) {Bm : Nat} (hB : Bm < w.heap.size) (hc : w.cell? ⟨Bm, 0, none⟩ = some (.map mb)) :
    ∃ N, N ≤ K ∧ SeqStops Fence.wide n Try.prog 40 #[.pointer (some ⟨Bm, 0, none⟩)] encU (fun ss => ss.Nodup ∧ ∀ x, x ∈ ss ↔ In x) (fun _ => True) N w := by
  rcases h with ⟨rfl, h⟩ | ⟨b, D, rfl, h2, h3, h4⟩
  · have := keys_stops_nil Fence.wide n trivial rfl Bm w hB hc
    refine ⟨0, Nat.zero_le _, ?_⟩
    rw [show (fun ss : List Nat => ss.Nodup ∧ ∀ x, x ∈ ss ↔ In x) = (fun ss => ss.Nodup ∧ ∀ x : Nat, x ∈ ss ↔ False) from by
      funext ss; simp only [fun x => show In x ↔ False from ⟨h x, False.elim⟩]]
    exact this
  · have := keys_stops Fence.wide n trivial rfl hn Bm b _ D w hB hc h2
    refine ⟨_, h3, ?_⟩
    rw [show (fun ss : List Nat => ss.Nodup ∧ ∀ x, x ∈ ss ↔ In x) = (fun ss => ss.Nodup ∧ ∀ x : Nat, x ∈ ss ↔ has D (idKey x) = true) from by
      have h5 : ∀ x, In x ↔ has D (idKey x) = true := fun x => by
        rw [h4]
        exact ⟨fun hx => ⟨x, hx, rfl⟩, fun ⟨j, hj, e⟩ => by rw [idKey_inj _ _ e]; exact hj⟩
      funext ss; simp only [h5]]
    exact this
theorem SetAt.len {w : World} {mb : Option Nat} {In : Nat → Prop} {K : Nat} (h : SetAt w mb In K) {xs : List Nat} (hn : xs.Nodup) (hx : ∀ x, x ∈ xs ↔ In x) : xs.length ≤ K := by
  rcases h with ⟨rfl, h⟩ | ⟨b, D, rfl, h2, h3, h4⟩
  · cases xs with
    | nil => simp
    | cons a l => exact absurd ((hx a).1 (List.mem_cons_self ..)) (h a)
  · rw [← size_of_keys idLaw h2 idKey xs (List.pairwise_map.2 (hn.imp fun {a b} q => idKey_ne q)) (fun l => by rw [h4]; simp only [hx])]
    exact h3
theorem append_any {w : World} {mb : Option Nat} {In : Nat → Prop} {K : Nat} (h : SetAt w mb In K) {Bm : Nat} (hB : Bm < w.heap.size) (hc : w.cell? ⟨Bm, 0, none⟩ = some (.map mb)) (n0 k : Nat) (sv : Value) (cs : List Nat) (hk : k + K < 1000000000) (hrow : w.ownsRow n0 38 1 sv k (idv cs)) (hn0 : n0 ≤ w.heap.size) :
    Calls Try.prog 36 #[sv, seqV Bm] w fun e w' => ∃ (v : Value) (xs : List Nat), e = .returned v ∧ xs.length ≤ K ∧ xs.Nodup ∧ (∀ x, x ∈ xs ↔ In x) ∧ w'.ownsRow n0 38 1 v (k + xs.length) (idv (cs ++ xs)) ∧ Below n0 w w' := by
  obtain ⟨N, hN, hseq⟩ := seq_of h 2 (by omega) hB hc
  refine (callsIn_wide.1 (appendSeq_in Fence.wide 3 trivial rfl (by omega) _ _ trivial (enters_of Try.func40 (by kernel_rfl) rfl) _ _ N n0 k sv cs (by unfold maxLen; omega) (by omega) w hrow hn0 hseq)).mono ?_
  rintro e w' ⟨v, xs, rfl, ⟨h1, h2⟩, h3, h4⟩
  exact ⟨v, xs, rfl, h.len h1 h2, h1, h2, h3, h4⟩
theorem strict_of {l : List Nat} (h : l.Pairwise (· ≤ ·)) (hn : l.Nodup) : l.Pairwise (· < ·) :=
  (List.pairwise_and_iff.2 ⟨h, hn⟩).imp (fun {a b} q => Nat.lt_of_le_of_ne q.1 q.2)
set_option maxRecDepth 20000 in
theorem clip_any (A : Option Addr) (n c : Nat) (w : World) (hn : n ≤ c) (hA : A = none → n = 0 ∧ c = 0) (hc : c ≤ 9223372036854775807) :
    Calls Try.prog 39 #[.slice A n c] w fun e w' => e = .returned (.slice A n n) ∧ w' = w := by
  have hnI : (n : Int) ≤ (c : Int) := by omega
  cases A with
  | none =>
    obtain ⟨rfl, rfl⟩ := hA rfl
    go_enter Try.func39, Try.ntmps39
    repeat' (first | fail | go_values | go_skip | go_guarded | go_step | go_upon | go_back)
    go_returns
    exact ⟨rfl, rfl⟩
  | some a =>
    go_enter Try.func39, Try.ntmps39
    repeat' (first | fail | go_values | go_skip | go_guarded | go_step | go_upon | go_back)
    go_returns
    exact ⟨rfl, rfl⟩
end Go.Proofs.Ytohflgpkimnodaa
