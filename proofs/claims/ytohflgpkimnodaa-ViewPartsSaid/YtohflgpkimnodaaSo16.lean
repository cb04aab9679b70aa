/- slices.Sort at IDs: walked. -/
import Derived.Test.YtohflgpkimnodaaSo15
namespace Go.Proofs.Ytohflgpkimnodaa
open Go.RowKit Go.Sort
/-- IDs as values -/
def idv (xs : List Nat) : List Value := xs.map fun x => Value.int .u32 (x : Nat)
theorem idv_length (xs : List Nat) : (idv xs).length = xs.length := by simp [idv]
theorem idv_append (xs ys : List Nat) : idv (xs ++ ys) = idv xs ++ idv ys := by simp [idv]
theorem idv_one (l : List Nat) : ∀ u ∈ idv l, u.oneCell' = true := by
  intro u hu
  simp only [idv, List.mem_map] at hu
  obtain ⟨i, _, rfl⟩ := hu
  rfl
theorem own_SR {w : World} {base n : Nat} {v : Value} {xs : List Nat} (h : w.ownsRow base 38 1 v n (idv xs)) : (v = .slice none 0 0 ∧ n = 0 ∧ xs = []) ∨ ∃ g cap, v = .slice (some ⟨g, 0, none⟩) n cap ∧ base ≤ g ∧ n ≤ cap ∧ cap ≤ maxLen ∧ SR g cap xs.toArray w := by
  obtain ⟨hl, h⟩ := h
  rw [idv_length, Nat.mul_one] at hl
  rcases h with ⟨rfl, h0⟩ | ⟨g, cap, cur, rfl, hb, hg, h1, h2, h3, h4⟩
  · exact .inl ⟨rfl, h0, List.length_eq_zero_iff.1 (hl.trans h0)⟩
  · refine .inr ⟨g, cap, rfl, hb, h1, h2, cur, hg, by omega, by simpa [hl] using h1, fun i hi => ?_⟩
    have hi' : i < xs.length := by simpa using hi
    have : (cur.toList.take (n * 1))[i]? = (idv xs)[i]? := by rw [h4]
    rw [List.getElem?_take_of_lt (by omega), Array.getElem?_toList] at this
    rw [this]
    simp [idv, hi']
theorem SR_own {w : World} {base n g cap : Nat} {ys : List Nat} (h : SR g cap ys.toArray w) (hl : ys.length = n) (hb : base ≤ g) (h1 : n ≤ cap) (h2 : cap ≤ maxLen) : w.ownsRow base 38 1 (.slice (some ⟨g, 0, none⟩) n cap) n (idv ys) := by
  obtain ⟨cur, hg, hs, hd, hc⟩ := h
  refine ⟨by rw [idv_length]; omega, .inr ⟨g, cap, cur, rfl, hb, hg, h1, h2, by omega, ?_⟩⟩
  apply List.ext_getElem?
  intro i
  by_cases hi : i < n
  · rw [List.getElem?_take_of_lt (by omega), Array.getElem?_toList, hc i (by simpa [hl] using hi)]
    simp [idv, hl, hi]
  · rw [List.getElem?_take_eq_none (by omega), List.getElem?_eq_none (by rw [idv_length]; omega)]
theorem perm_of_PermIn {d d' : Array Nat} (h : PermIn 0 d.size d d') : d'.toList.Perm d.toList := by
  obtain ⟨hs, _, hp⟩ := h
  rwa [Array.extract_size, show d.size = d'.size from hs.symm, Array.extract_size] at hp
theorem sorted_of_SortedIn {d : Array Nat} (h : SortedIn ltN 0 d.size d) : d.toList.Pairwise (· ≤ ·) := by
  rw [List.pairwise_iff_getElem]
  intro i j hi hj hij
  have := h i j (Nat.zero_le _) hij (by simpa using hj)
  rw [ltN, decide_eq_false_iff_not] at this
  simp only [Array.length_toList] at hi hj
  rw [getElem!_pos d i hi, getElem!_pos d j hj] at this
  simp only [Array.getElem_toList]
  omega
theorem ins_nil (w : World) : Calls Try.prog 43 #[.slice none 0 0, .int .i64 0, .int .i64 0] w fun e w' => e = .returned (.tuple #[]) ∧ w' = w := by
  go_enter Try.func43, Try.ntmps43
  repeat' (first | fail | go_values | go_skip | go_guarded | go_step | go_upon | go_back)
  refine wp_loop_rounds 1 ?_
  rw [rounds_succ]
  repeat' (first | fail | go_values | go_skip | go_guarded | go_step | go_upon | go_back)
  go_returns
  exact ⟨rfl, rfl⟩
theorem pdq_nil (w : World) : Calls Try.prog 41 #[.slice none 0 0, .int .i64 0, .int .i64 0, .int .i64 0] w fun e w' => e = .returned (.tuple #[]) ∧ w' = w := by
  have C := Bx.mk (fun w => ins_nil w)
  go_enter Try.func41, Try.ntmps41
  repeat' (first | fail | go_values | go_skip | go_guarded | go_step | go_upon | go_back)
  refine wp_loop_rounds 1 ?_
  rw [rounds_succ]
  repeat' (first | (go_at_call 43; (with_reducible refine (C.out _).mono ?_); rintro e w2 ⟨rfl, rfl⟩; dsimp only) | go_values | go_skip | go_guarded | go_step | go_upon | go_back)
  go_returns
  exact ⟨rfl, rfl⟩
theorem bLen_nil (w : World) : Calls Try.prog 42 #[.int .u64 0] w fun e w' => e = .returned (.int .i64 0) ∧ w' = w := by
  have := bLen_any 0 w (by omega)
  rw [show Lib.bitLen 0 = 0 from by decide] at this
  exact this
theorem sort_any {w : World} {base n : Nat} {v : Value} {xs : List Nat} (h : w.ownsRow base 38 1 v n (idv xs)) (hsz : n < 2305843009213693952) :
    Calls Try.prog 38 #[v] w fun e w' => e = .returned (.tuple #[]) ∧ ∃ ys, ys.Perm xs ∧ ys.Pairwise (· ≤ ·) ∧ w'.ownsRow base 38 1 v n (idv ys) ∧ Upd (fun b => v.ownBlock = some b) w w' := by
  have hl := own_len h
  rw [idv_length, Nat.mul_one] at hl
  rcases own_SR h with ⟨rfl, rfl, rfl⟩ | ⟨g, cap, rfl, hb, h1, h2, hS⟩
  · have CL := Bx.mk (fun w => bLen_nil w)
    have CP := Bx.mk (fun w => pdq_nil w)
    have H0 := Bx.mk h
    clear h hl
    go_enter Try.func38, Try.ntmps38
    repeat' (first | (first | (go_at_call 42; (with_reducible refine (CL.out _).mono ?_); rintro e w2 ⟨rfl, rfl⟩; dsimp only) | (go_at_call 41; (with_reducible refine (CP.out _).mono ?_); rintro e w3 ⟨rfl, rfl⟩; dsimp only)) | go_values | go_skip | go_guarded | go_step | go_upon | go_back)
    go_returns
    exact ⟨rfl, [], List.Perm.refl _, List.Pairwise.nil, H0.out, Upd.refl _ _⟩
  · have CL := Bx.mk (fun w => bLen_any n w (by omega))
    have hbl : Lib.bitLen n < 2305843009213693952 := by
      have : Lib.bitLen n ≤ 61 := Lib.bitLen_le n 61 (by omega) (by omega)
      omega
    obtain ⟨L, hL⟩ : ∃ L, Lib.bitLen n = L := ⟨_, rfl⟩
    rw [hL] at CL hbl
    have CP := Bx.mk (fun {w : World} (h : SR g cap xs.toArray w) => show Calls Try.prog 41 #[.slice (some ⟨g, 0, none⟩) n cap, .int .i64 0, .int .i64 n, .int .i64 L] w _ from pdq_any (n - 0 + 1) h n cap 0 n L (by omega) (by simpa using hl) (Nat.zero_le _) (Nat.le_refl _) hsz hbl (.inl rfl))
    have HS := Bx.mk hS
    have HL := Bx.mk hl
    have w1' : IntKind.u64.wrap (n : Int) = (n : Int) := by rw [IntKind.wrap_u64]; omega
    clear h hl hL hS
    go_enter Try.func38, Try.ntmps38
    repeat' (first | (first | (go_at_call 42; (with_reducible refine (CL.out _).mono ?_); rintro e w2 ⟨rfl, rfl⟩; dsimp only) | (go_at_call 41; (with_reducible refine (CP.out HS.out).mono ?_); rintro e w3 ⟨rfl, d', P3, S3, R3, U3⟩; dsimp only)) | go_values | go_skip | go_guarded | go_step | go_upon | go_back)
    go_returns
    have e1 : (xs.toArray).size = n := by simpa using HL.out
    rw [← e1] at P3 S3
    have p1 := perm_of_PermIn P3
    rw [← P3.1] at S3
    refine ⟨rfl, d'.toList, by simpa using p1, sorted_of_SortedIn S3, SR_own (by simpa using R3) (by have := P3.1; rw [Array.length_toList]; omega) hb h1 h2, U3.mono (fun b hb => by simp [Value.ownBlock, hb])⟩
end Go.Proofs.Ytohflgpkimnodaa
