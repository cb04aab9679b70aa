/- New, Drop, Where, Len, Used, At, Box: walked. -/
import Derived.Test.YtaliadekdpbfdaaIt3
namespace Go.Proofs.Ytaliadekdpbfdaa
open Go.RowKit Go.Maps
theorem has_empty (l : Lit) : has (DataW.map [] : DataW Unit) l = false := rfl
set_option maxRecDepth 20000 in
theorem new_any (n0 : Nat) (w : World) (hn0 : n0 ≤ w.heap.size) : Calls Try.prog 11 #[] w fun e w' => ∃ g cb hb, e = .returned (.pointer (some ⟨g, 0, none⟩)) ∧ GA n0 w' g cb hb (.map []) (.map []) (fun _ => 0) (fun _ => none) ∧ New w w' ∧ w.heap.size ≤ g := by
  have hmm := @run_makeMap Try.prog
  go_enter Try.func11, Try.ntmps11
  repeat' (first | fail | go_values | go_skip | go_guarded | go_step | go_upon | go_back)
  go_returns
  have u : New w (((w.alloc (.map #[] 0)).alloc (.map #[] 0)).alloc (.cells #[.map (some w.heap.size), .map (some (w.heap.size + 1))] 59)) := (((Upd.refl _ w).alloc _).alloc _).alloc _
  have none_of : ∀ {s : Int × Int} {p : Prop}, (none : Option (Int × Int)) = some s → p := fun h => by cases h
  refine ⟨w.heap.size + 2, w.heap.size, w.heap.size + 1, by simp, ⟨?_, ?_, ?_, by omega, ⟨hn0, by omega, fun i s h => none_of h⟩, fun i s h => none_of h, fun l => ?_, fun i s h => none_of h, fun l => ?_, fun i s h => none_of h, fun i s h => none_of h, fun i s h => none_of h, fun i j s t h => none_of h⟩, u, by omega⟩
  · have := heap_alloc_new ((w.alloc (.map #[] 0)).alloc (.map #[] 0)) (.cells #[.map (some w.heap.size), .map (some (w.heap.size + 1))] 59)
    simpa using this
  · have := ((World.ownsMap_made (w.alloc (.map #[] 0)) Try.prog 27 spotElem).alloc (.cells #[.map (some w.heap.size), .map (some (w.heap.size + 1))] 59))
    rw [World.size_alloc] at this
    exact this
  · exact ((World.ownsMap_made w Try.prog 65 setElem).alloc _).alloc _
  · rw [has_empty]; simp
  · rw [has_empty]; simp
section
variable {n0 : Nat} {w : World} {g cb hb : Nat} {DC DH : DataW Unit} {B : Int × Int → Nat} {M : Nat → Option (Int × Int)} {K : Nat}
set_option maxRecDepth 20000 in
theorem drop_any (h : GA n0 w g cb hb DC DH B M) (i : Nat) (hi : i < 4294967296) :
    Calls Try.prog 16 #[.pointer (some ⟨g, 0, none⟩), .int .u32 i] w fun e w' => e = .returned (.int .i64 (if (M i).isSome then 0 else 7)) ∧ ∃ DC' DH', GA n0 w' g cb hb DC' DH' B (mset M i none) ∧ GUpd n0 w w' := by
  have C := Bx.mk (leave_any h i hi)
  clear h
  cases hM : (M i).isSome with
  | true =>
    rw [hM] at C
    go_enter Try.func16, Try.ntmps16
    repeat' (first | (go_at_call 25; (with_reducible refine (C.out).mono ?_); rintro e w4 ⟨rfl, DC4, DH4, H4, U4⟩; dsimp only) | go_values | go_skip | go_guarded | go_step | go_upon | go_back)
    go_returns
    exact ⟨rfl, DC4, DH4, H4, U4⟩
  | false =>
    rw [hM] at C
    go_enter Try.func16, Try.ntmps16
    repeat' (first | (go_at_call 25; (with_reducible refine (C.out).mono ?_); rintro e w4 ⟨rfl, DC4, DH4, H4, U4⟩; dsimp only) | go_values | go_skip | go_guarded | go_step | go_upon | go_back)
    go_returns
    exact ⟨rfl, DC4, DH4, H4, U4⟩
set_option maxRecDepth 20000 in
theorem len_any (h : GA n0 w g cb hb DC DH B M) : Calls Try.prog 18 #[.pointer (some ⟨g, 0, none⟩)] w fun e w' => e = .returned (.int .i64 (Maps.size DH)) ∧ w' = w := by
  have c1 := h.c1
  have o := h.home
  clear h
  go_enter Try.func18, Try.ntmps18
  repeat' (first | (at_len; refine wpList_len_own _ rfl _ 57 rfl 27 65 Try.underlying57 _ hb _ _ rfl o ?_) | go_values | go_skip | go_guarded | go_step | go_upon | go_back)
  go_returns
  exact ⟨rfl, rfl⟩
set_option maxRecDepth 20000 in
theorem used_any (h : GA n0 w g cb hb DC DH B M) : Calls Try.prog 14 #[.pointer (some ⟨g, 0, none⟩)] w fun e w' => e = .returned (.int .i64 (Maps.size DC)) ∧ w' = w := by
  have c1 := h.c0
  have o := h.cells
  clear h
  go_enter Try.func14, Try.ntmps14
  repeat' (first | (at_len; refine wpList_len_own _ rfl _ 56 rfl 65 69 Try.underlying56 _ cb _ _ rfl o ?_) | go_values | go_skip | go_guarded | go_step | go_upon | go_back)
  go_returns
  exact ⟨rfl, rfl⟩
set_option maxRecDepth 20000 in
theorem where_any (h : GA n0 w g cb hb DC DH B M) (i : Nat) (hi : i < 4294967296) :
    Calls Try.prog 17 #[.pointer (some ⟨g, 0, none⟩), .int .u32 i] w fun e w' => e = .returned (.tuple #[.int .i64 ((M i).getD (0, 0)).1, .int .i64 ((M i).getD (0, 0)).2, .bool (M i).isSome]) ∧ New w w' := by
  obtain ⟨⟨v1, v2⟩, hv⟩ : ∃ v, (M i).getD (0, 0) = v := ⟨_, rfl⟩
  obtain ⟨ok, hok⟩ : ∃ ok, (M i).isSome = ok := ⟨_, rfl⟩
  have LK : (Instr.lookup 57 (.map (some hb)) (.int .u32 i) true).run Try.prog w = .ok (.tuple #[.agg #[.int .i64 v1, .int .i64 v2], .bool ok]) w := by
    rw [← hok]
    cases hM : M i with
    | none =>
      rw [hM] at hv; cases hv
      exact look_home0 h.home hi (h.noHome hM)
    | some s =>
      rw [hM] at hv; cases hv
      exact look_home h.home hi (h.hat i _ hM)
  rw [hv, hok]
  have c1 := h.c1
  have k1 : (w.alloc (.cells #[.int .i64 v1, .int .i64 v2] 65)).cell? ⟨w.heap.size, 0, none⟩ = some (.int .i64 v1) := by
    rw [World.cell?, heap_alloc_new]; rfl
  have k2 : (w.alloc (.cells #[.int .i64 v1, .int .i64 v2] 65)).cell? ⟨w.heap.size, 1, none⟩ = some (.int .i64 v2) := by
    rw [World.cell?, heap_alloc_new]; rfl
  have u : New w (w.alloc (.cells #[.int .i64 v1, .int .i64 v2] 65)) := (Upd.refl _ w).alloc _
  clear h hv hok
  go_enter Try.func17, Try.ntmps17
  repeat' (first | fail | go_values | go_skip | go_guarded | go_step | go_upon | go_back)
  generalize w.alloc (.cells #[.int .i64 v1, .int .i64 v2] 65) = wA at *
  go_quiet (fail)
  repeat' (first | fail | go_values | go_skip | go_guarded | go_step | go_upon | go_back)
  go_returns
  exact ⟨rfl, u.drewN _⟩
set_option maxRecDepth 20000 in
theorem at_any (h : GA n0 w g cb hb DC DH B M) (f : Few M K) (hK : K < 1000000) (s : Int × Int) (hs : inS s) :
    Calls Try.prog 13 #[.pointer (some ⟨g, 0, none⟩), .int .i64 s.1, .int .i64 s.2] w fun e w' => ∃ (v : Value) (xs : List Nat), e = .returned v ∧ xs.Pairwise (· < ·) ∧ (∀ x, x ∈ xs ↔ M x = some s) ∧ w'.ownsRow w.heap.size 27 1 v xs.length (idv xs) ∧ New w w' := by
  obtain ⟨mb, h1, h2⟩ := h.setAt f s hs
  have c0 := h.c0
  have L := h2 w h
  have AL : New w (w.alloc (.cells #[.map mb] 69)) := (Upd.refl _ w).alloc _
  have C := Bx.mk (sorted_any (w := w.alloc (.cells #[.map mb] 69)) (h1.new AL) (Bm := w.heap.size) (by simp) (by rw [World.cell?, heap_alloc_new]; rfl) (by omega))
  have BA := Bx.mk AL
  have CK := Bx.mk (keys_any mb w)
  clear h h1 h2 AL
  go_enter Try.func13, Try.ntmps13
  repeat' (first | (first | (go_at_call 27; (with_reducible refine (CK.out).mono ?_); rintro e w1 ⟨rfl, rfl⟩; dsimp only) | (go_at_call 26; (with_reducible refine (C.out).mono ?_); rintro e w2 ⟨v, xs, rfl, p1, p2, p3, p4⟩; dsimp only)) | go_values | go_skip | go_guarded | go_step | go_upon | go_back)
  go_returns
  exact ⟨v, xs, rfl, p1, p2, own_lower p3 (by simp), BA.out.trans p4⟩
end
end Go.Proofs.Ytaliadekdpbfdaa
