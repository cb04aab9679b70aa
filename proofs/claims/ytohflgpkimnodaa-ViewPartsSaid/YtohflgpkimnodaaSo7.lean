/- choosePivotOrdered at IDs: where it lies: walked. -/
import Derived.Test.YtohflgpkimnodaaSo6
namespace Go.Proofs.Ytohflgpkimnodaa
open Go.RowKit Go.Sort
theorem SR.new {blk cap : Nat} {d : Array Nat} {w w' : World} (h : SR blk cap d w) (u : New w w') : SR blk cap d w' := h.blk u (fun q => q)
set_option maxRecDepth 20000 in
set_option maxHeartbeats 4000000 in
theorem pivot_any {w : World} {blk cap : Nat} {d : Array Nat} (h : SR blk cap d w) (n c a b : Nat) (hn : d.size = n) (hab : a + 8 ≤ b) (hb : b ≤ n) (hsz : n < 2305843009213693952) :
    Calls Try.prog 46 #[.slice (some ⟨blk, 0, none⟩) n c, .int .i64 a, .int .i64 b] w fun e w' => ∃ p hnt : Nat, e = .returned (.tuple #[.int .i64 p, .int .i64 hnt]) ∧ a ≤ p ∧ p < b ∧ hnt ≤ 2 ∧ SR blk cap d w' ∧ New w w' := by
  obtain ⟨l, hl⟩ : ∃ l, b - a = l := ⟨_, rfl⟩
  obtain ⟨q, hq4⟩ : ∃ q, l / 4 = q := ⟨_, rfl⟩
  obtain ⟨i, hi⟩ : ∃ i, a + q = i := ⟨_, rfl⟩
  obtain ⟨j, hj⟩ : ∃ j, a + q * 2 = j := ⟨_, rfl⟩
  obtain ⟨k, hk⟩ : ∃ k, a + q * 3 = k := ⟨_, rfl⟩
  have w1' : IntKind.i64.wrap ((b : Int) - (a : Int)) = (l : Int) := by rw [IntKind.wrap_i64]; omega
  have w2' : (l : Int) / 4 = (q : Int) := by omega
  have w2'' : (l : Int).tdiv 4 = (q : Int) := by rw [Int.tdiv_eq_ediv_of_nonneg (by omega)]; omega
  have w3' : IntKind.i64.wrap ((q : Int) * 2) = ((q * 2 : Nat) : Int) := by rw [IntKind.wrap_i64]; omega
  have w3'' : IntKind.i64.wrap ((q : Int) * 3) = ((q * 3 : Nat) : Int) := by rw [IntKind.wrap_i64]; omega
  have w4' : IntKind.i64.wrap ((a : Int) + (q : Int)) = (i : Int) := by rw [IntKind.wrap_i64]; omega
  have w5' : IntKind.i64.wrap ((a : Int) + (q : Int) * 2) = (j : Int) := by rw [IntKind.wrap_i64]; omega
  have w6' : IntKind.i64.wrap ((a : Int) + (q : Int) * 3) = (k : Int) := by rw [IntKind.wrap_i64]; omega
  have h8 : (8 : Int) ≤ (l : Int) := by omega
  have hbk := h.lt
  have hAl : New w (w.alloc (.cells #[.int .i64 0] 3)) := (Upd.refl _ w).alloc _
  have hS0 : NB w.heap.size 0 (w.alloc (.cells #[.int .i64 0] 3)) := heap_alloc_new w _
  have hne : w.heap.size ≠ blk := by omega
  have H0 := Bx.mk (h.new hAl)
  have S0 := Bx.mk hS0
  have AL := Bx.mk hAl
  have C1 := Bx.mk (fun {w1 : World} {s : Nat} (h' : SR blk cap d w1) (hs' : NB w.heap.size s w1) (x y z m t : Nat) => median_any h' hs' hne n c x y z m t hn)
  have C2 := Bx.mk (fun {w1 : World} {s : Nat} (h' : SR blk cap d w1) (hs' : NB w.heap.size s w1) (x m t : Nat) => medAdj_any h' hs' hne n c x m t hn)
  have tail : ∀ (i' j' k' s : Nat), a ≤ i' → i' < b → a ≤ j' → j' < b → a ≤ k' → k' < b → s ≤ 9 → ∃ m t, median ltN d i' j' k' s = (m, t) ∧ a ≤ m ∧ m < b ∧ t ≤ 12 := by
    intro i' j' k' s h1 h2 h3 h4 h5 h6 h7
    obtain ⟨m, t, hm⟩ : ∃ m t, median ltN d i' j' k' s = (m, t) := ⟨_, _, rfl⟩
    have := median_lt d i' j' k' s m t b hm h2 h4 h6
    have h9 := median_mem ltN d i' j' k' s
    rw [hm] at h9
    exact ⟨m, t, hm, by omega, by omega, by omega⟩
  have TL := Bx.mk tail
  clear h hS0 hAl tail
  by_cases h50 : 50 ≤ l
  · have adj : ∀ (x s : Nat), a + 1 ≤ x → x + 1 < b → ∃ m t, medianAdjacent ltN d x s = (m, t) ∧ a ≤ m ∧ m < b ∧ t ≤ s + 3 := by
      intro x s h1 h2
      obtain ⟨m, t, hm⟩ : ∃ m t, medianAdjacent ltN d x s = (m, t) := ⟨_, _, rfl⟩
      have h9 := medianAdjacent_mem ltN d x s
      have h8' := median_lt d (x - 1) x (x + 1) s m t b hm (by omega) (by omega) (by omega)
      rw [hm] at h9
      exact ⟨m, t, hm, by omega, by omega, by omega⟩
    obtain ⟨i', t1, hi', bi1, bi2, bi3⟩ := adj i 0 (by omega) (by omega)
    obtain ⟨j', t2, hj', bj1, bj2, bj3⟩ := adj j t1 (by omega) (by omega)
    obtain ⟨k', t3, hk', bk1, bk2, bk3⟩ := adj k t2 (by omega) (by omega)
    obtain ⟨m, t, hm, hm1, hm2, hm3⟩ := TL.out i' j' k' t3 bi1 bi2 bj1 bj2 bk1 bk2 (by omega)
    have D1 := Bx.mk (C2.out H0.out S0.out i i' t1 (by omega) (by omega) (by omega) hsz hi')
    have D2 := Bx.mk (fun {w1 : World} (h' : SR blk cap d w1) (hs' : NB w.heap.size t1 w1) => C2.out h' hs' j j' t2 (by omega) (by omega) (by omega) hsz hj')
    have D3 := Bx.mk (fun {w1 : World} (h' : SR blk cap d w1) (hs' : NB w.heap.size t2 w1) => C2.out h' hs' k k' t3 (by omega) (by omega) (by omega) hsz hk')
    have D4 := Bx.mk (fun {w1 : World} (h' : SR blk cap d w1) (hs' : NB w.heap.size t3 w1) => C1.out h' hs' i' j' k' m t (by omega) (by omega) (by omega) (by omega) hsz hm)
    have h50I : (50 : Int) ≤ (l : Int) := by omega
    clear C1 C2 TL hm adj hi' hj' hk'
    by_cases ht0 : t = 0
    · subst ht0
      go_enter Try.func46, Try.ntmps46
      repeat' (first | (first
        | (have _m := U3; (go_at_call 58; (with_reducible refine (D4.out R3 S3).mono ?_); rintro e w4 ⟨rfl, R4, S4, U4⟩; have cs := S4.cell; dsimp only))
        | (have _m := U2; (go_at_call 57; (with_reducible refine (D3.out R2 S2).mono ?_); rintro e w3 ⟨rfl, R3, S3, U3⟩; dsimp only))
        | (have _m := U1; (go_at_call 57; (with_reducible refine (D2.out R1 S1).mono ?_); rintro e w2 ⟨rfl, R2, S2, U2⟩; dsimp only))
        | (go_at_call 57; (with_reducible refine (D1.out).mono ?_); rintro e w1 ⟨rfl, R1, S1, U1⟩; dsimp only)) | go_values | go_skip | go_guarded | go_step | go_upon | go_back)
      go_returns
      exact ⟨m, 1, rfl, hm1, hm2, by omega, R4, AL.out.then (((U1.trans U2).trans U3).trans U4) (fun b q => .inr (Nat.le_of_eq q.symm))⟩
    · have ht0I : ¬ (t : Int) = 0 := by omega
      by_cases ht12 : t = 12
      · subst ht12
        go_enter Try.func46, Try.ntmps46
        repeat' (first | (first
        | (have _m := U3; (go_at_call 58; (with_reducible refine (D4.out R3 S3).mono ?_); rintro e w4 ⟨rfl, R4, S4, U4⟩; have cs := S4.cell; dsimp only))
        | (have _m := U2; (go_at_call 57; (with_reducible refine (D3.out R2 S2).mono ?_); rintro e w3 ⟨rfl, R3, S3, U3⟩; dsimp only))
        | (have _m := U1; (go_at_call 57; (with_reducible refine (D2.out R1 S1).mono ?_); rintro e w2 ⟨rfl, R2, S2, U2⟩; dsimp only))
        | (go_at_call 57; (with_reducible refine (D1.out).mono ?_); rintro e w1 ⟨rfl, R1, S1, U1⟩; dsimp only)) | go_values | go_skip | go_guarded | go_step | go_upon | go_back)
        go_returns
        exact ⟨m, 2, rfl, hm1, hm2, by omega, R4, AL.out.then (((U1.trans U2).trans U3).trans U4) (fun b q => .inr (Nat.le_of_eq q.symm))⟩
      · have ht12I : ¬ (t : Int) = 12 := by omega
        go_enter Try.func46, Try.ntmps46
        repeat' (first | (first
        | (have _m := U3; (go_at_call 58; (with_reducible refine (D4.out R3 S3).mono ?_); rintro e w4 ⟨rfl, R4, S4, U4⟩; have cs := S4.cell; dsimp only))
        | (have _m := U2; (go_at_call 57; (with_reducible refine (D3.out R2 S2).mono ?_); rintro e w3 ⟨rfl, R3, S3, U3⟩; dsimp only))
        | (have _m := U1; (go_at_call 57; (with_reducible refine (D2.out R1 S1).mono ?_); rintro e w2 ⟨rfl, R2, S2, U2⟩; dsimp only))
        | (go_at_call 57; (with_reducible refine (D1.out).mono ?_); rintro e w1 ⟨rfl, R1, S1, U1⟩; dsimp only)) | go_values | go_skip | go_guarded | go_step | go_upon | go_back)
        go_returns
        exact ⟨m, 0, rfl, hm1, hm2, by omega, R4, AL.out.then (((U1.trans U2).trans U3).trans U4) (fun b q => .inr (Nat.le_of_eq q.symm))⟩
  · obtain ⟨m, t, hm, hm1, hm2, hm3⟩ := TL.out i j k 0 (by omega) (by omega) (by omega) (by omega) (by omega) (by omega) (by omega)
    have CM := Bx.mk (C1.out H0.out S0.out i j k m t (by omega) (by omega) (by omega) (by omega) hsz hm)
    have h50I : ¬ (50 : Int) ≤ (l : Int) := by omega
    clear C1 C2 TL hm
    by_cases ht0 : t = 0
    · subst ht0
      go_enter Try.func46, Try.ntmps46
      repeat' (first | (go_at_call 58; (with_reducible refine (CM.out).mono ?_); rintro e w1 ⟨rfl, R1, S1, U1⟩; have cs := S1.cell; dsimp only) | go_values | go_skip | go_guarded | go_step | go_upon | go_back)
      go_returns
      exact ⟨m, 1, rfl, hm1, hm2, by omega, R1, AL.out.then U1 (fun b q => .inr (Nat.le_of_eq q.symm))⟩
    · have ht0I : ¬ (t : Int) = 0 := by omega
      by_cases ht12 : t = 12
      · subst ht12
        go_enter Try.func46, Try.ntmps46
        repeat' (first | (go_at_call 58; (with_reducible refine (CM.out).mono ?_); rintro e w1 ⟨rfl, R1, S1, U1⟩; have cs := S1.cell; dsimp only) | go_values | go_skip | go_guarded | go_step | go_upon | go_back)
        go_returns
        exact ⟨m, 2, rfl, hm1, hm2, by omega, R1, AL.out.then U1 (fun b q => .inr (Nat.le_of_eq q.symm))⟩
      · have ht12I : ¬ (t : Int) = 12 := by omega
        go_enter Try.func46, Try.ntmps46
        repeat' (first | (go_at_call 58; (with_reducible refine (CM.out).mono ?_); rintro e w1 ⟨rfl, R1, S1, U1⟩; have cs := S1.cell; dsimp only) | go_values | go_skip | go_guarded | go_step | go_upon | go_back)
        go_returns
        exact ⟨m, 0, rfl, hm1, hm2, by omega, R1, AL.out.then U1 (fun b q => .inr (Nat.le_of_eq q.symm))⟩
end Go.Proofs.Ytohflgpkimnodaa
