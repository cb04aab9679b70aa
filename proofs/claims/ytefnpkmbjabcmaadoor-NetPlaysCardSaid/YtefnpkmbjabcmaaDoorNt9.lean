/- To; the reference's bag: walked. -/
import Derived.Test.YtefnpkmbjabcmaaDoorNt8
namespace Go.Proofs.YtefnpkmbjabcmaaDoor
open Go.RowKit

theorem infoI : (Tryd.prog.info? 3).map (fun i => (i.zero, i.size, i.bytes)) = some (some (.int .i64 0), 1, 8) := by kernel_rfl
/-- the places below n of those to somebody -/
def tos (xs : List It) (t : Int) (n : Nat) : List Nat := (List.range n).filter fun j => decide ((xs.map (·.to)).getD j 0 = t)
def natCells (l : List Nat) : List Value := l.map fun (j : Nat) => Value.int .i64 (j : Int)
theorem tos_succ (xs : List It) (t : Int) (n : Nat) (h : n < xs.length) : tos xs t (n + 1) = tos xs t n ++ if xs[n].to = t then [n] else [] := by
  unfold tos
  rw [List.range_succ, List.filter_append]
  congr 1
  have e : (xs.map (·.to)).getD n 0 = xs[n].to := by simp [h]
  by_cases hq : xs[n].to = t
  · rw [if_pos hq, List.filter_cons, e, decide_eq_true hq]; rfl
  · rw [if_neg hq, List.filter_cons, e, decide_eq_false hq]; rfl
theorem natCells_one (l : List Nat) : ∀ u ∈ natCells l, u.oneCell' = true := by
  intro u hu; obtain ⟨_, _, rfl⟩ := List.mem_map.1 hu; rfl
set_option maxHeartbeats 2000000 in
theorem To_any {w : World} {g most : Nat} {v : Value} {xs : List It} (h : IsBag w g v most xs) (hsz : xs.length ≤ 4096) (t : Int) :
    Calls Tryd.prog 24 #[.pointer (some ⟨g, 0, none⟩), .int .i64 t] w (RetRow 3 1 (tos xs t xs.length).length (natCells (tos xs t xs.length)) w) := by
  have HI := Bx.mk h
  have HTL := Bx.mk (fun n => tos_succ xs t n)
  obtain ⟨l, hl⟩ : ∃ l, xs.length = l := ⟨_, rfl⟩
  have HL := Bx.mk hl
  have hl4 : l ≤ 4096 := by omega
  clear h hsz
  rw [hl]
  clear hl
  go_enter Tryd.func24, Tryd.ntmps24
  repeat' (first | (go_at_call 13; (with_reducible refine (BagLen_e HI.out l HL.out l rfl).mono ?_); rintro e w3 ⟨rfl, rfl⟩; dsimp only) | go_values | go_skip | go_guarded | go_step | go_upon | go_back)
  go_loopw [5, 9] (fun o i wr => ∃ j : Nat, j ≤ l ∧ i = .int .i64 j ∧ New w wr ∧ wr.ownsRow w.heap.size 3 1 o (tos xs t j).length (natCells (tos xs t j))) (fun _ i _ => l - (intOf i).toNat)
  case atStart => exact ⟨0, by omega, rfl, Upd.refl _ _, World.ownsRow_nil _ _ _ _⟩
  case round =>
    obtain ⟨j, hj, rfl, hN, ho⟩ := hrel
    by_cases hlt : j < l
    · have hI := HI.out.new hN
      have hjx : j < xs.length := by rw [HL.out]; exact hlt
      obtain ⟨gl, c, rfl, hc, hcm, hne, e0, -, -⟩ := hI.item j hjx
      have c1 := hI.c1
      rw [HL.out] at c1 hc
      have hji : (j : Int) < (l : Int) := by omega
      have HT := Bx.mk (HTL.out j hjx)
      generalize xs[j].to = tj at *
      by_cases ht : tj = t
      · rw [if_pos ht] at HT
        subst ht
        have hlen : (tos xs tj j).length ≤ j := by have := List.length_filter_le (fun j => decide ((xs.map (·.to)).getD j 0 = tj)) (List.range j); rw [List.length_range] at this; exact this
        have ho2 := ho.alloc (.cells #[.int .i64 j] 3)
        have hs : Src Tryd.prog 1 57 (.slice (some ⟨wr.heap.size, 0, none⟩) 1 1) 1 [.int .i64 j] (wr.alloc (.cells #[.int .i64 j] 3)) :=
          Src.ofSlice _ Tryd.underlying57 _ 1 1 _ rfl (cells_new wr [.int .i64 j] _) (by simp [Value.oneCell'])
        go_wp2_with (at_builtin; refine wpList_appN _ rfl _ _ 57 57 rfl _ 3 (.int .i64 0) 1 8 Tryd.underlying57 infoI rfl _ _ _ ho2 rfl _ _ _ hs rfl _ (hN.alloc _) ?c1 ?c2 ?_; (case c1 => unfold maxLen; omega); (case c2 => omega); intro v3 w3 ho3 hu3 hk3 hv3)
        go_roundw
        case rel => exact ⟨j + 1, by omega, by go_num, hu3, by rw [HT.out, List.length_append]; simpa [natCells] using ho3⟩
        case measure => simp [intOf]; omega
      · rw [if_neg ht, List.append_nil] at HT
        go_wp2
        go_roundw
        case rel => exact ⟨j + 1, by omega, by go_num, hN, by rw [HT.out]; exact ho⟩
        case measure => simp [intOf]; omega
    · obtain rfl : j = l := by omega
      obtain ⟨Ao, co, rfl, _⟩ := own_rd ho
      go_wp2
      go_ret
      exact ⟨_, rfl, ho, hN⟩
theorem To_nil (w : World) (t : Int) : Calls Tryd.prog 24 #[.pointer none, .int .i64 t] w fun e w' => e = .returned (.slice none 0 0) ∧ w' = w := by
  have HL := Bx.mk (BagLen_nil w)
  go_enter Tryd.func24, Tryd.ntmps24
  repeat' (first | (go_at_call 13; (with_reducible refine (HL.out).mono ?_); rintro e w3 ⟨rfl, rfl⟩; dsimp only) | go_values | go_skip | go_guarded | go_step | go_upon | go_back)
  refine wp_loop_rounds 1 ?_
  rw [rounds_succ]
  go_wp2
  go_ret
  exact ⟨rfl, rfl⟩

/-- the reference's bag at block g -/
structure IsRef (w : World) (g : Nat) (v : Value) (most : Nat) (xs : List It) : Prop where
  obj : w.heap[g]? = some (.cells #[.int .i64 most, v] 55 (0, 0))
  row : w.ownsRow 0 36 2 v xs.length (outs xs)
  frs : ∀ x ∈ xs, x.In w
section
variable {w w' : World} {g most : Nat} {v : Value} {xs : List It}
theorem IsRef.c0 (h : IsRef w g v most xs) : w.cell? ⟨g, 0, none⟩ = some (.int .i64 most) := by rw [World.cell?, h.obj]; rfl
theorem IsRef.c1 (h : IsRef w g v most xs) : w.cell? ⟨g, 1, none⟩ = some v := by rw [World.cell?, h.obj]; rfl
theorem IsRef.fz (h : IsRef w g v most xs) (o : Nat) : w.frozen? ⟨g, o, none⟩ = false := by simp [World.frozen?, h.obj]
theorem IsRef.apart (h : IsRef w g v most xs) : ¬ v.ownBlock = some g := obj_apart h.obj h.row (by decide)
theorem IsRef.upd {S : Nat → Prop} (h : IsRef w g v most xs) (k : Upd S w w') (h1 : ¬ S g) (h2 : ∀ b, v.ownBlock = some b → ¬ S b) (h3 : ∀ x ∈ xs, ∀ b, x.v.ownBlock = some b → ¬ S b) : IsRef w' g v most xs :=
  ⟨k.blk h.obj h1, own_upd h.row k h2, fun x hx => own_upd (h.frs x hx) k (h3 x hx)⟩
theorem IsRef.new (h : IsRef w g v most xs) (k : New w w') : IsRef w' g v most xs := h.upd k (fun q => q) (fun _ _ q => q) (fun _ _ _ _ q => q)
theorem IsRef.slice (h : IsRef w g v most xs) : ∃ A c, v = .slice A xs.length c ∧ xs.length ≤ c ∧ c ≤ maxLen ∧ Rd w A (outs xs) ∧ (A = none → xs.length = 0) := by
  obtain ⟨A, c, hv, h1, h2, hr, _⟩ := own_rd h.row
  refine ⟨A, c, hv, h1, h2, hr, fun hA => ?_⟩
  have := rd_none hr hA
  have e := outs_length xs
  rw [this] at e; simp at e; omega
theorem IsRef.item (h : IsRef w g v most xs) (i : Nat) (hi : i < xs.length) : ∃ gl c, v = .slice (some ⟨gl, 0, none⟩) xs.length c ∧ xs.length ≤ c ∧ c ≤ maxLen ∧ gl ≠ g ∧ w.cell? ⟨gl, i * 2, none⟩ = some (.int .i64 xs[i].to) ∧ w.cell? ⟨gl, i * 2 + 1, none⟩ = some xs[i].v ∧ xs[i].In w := by
  obtain ⟨gl, c, hv, _, _, hc, hm, hr⟩ := own_some h.row (by omega)
  have ha := h.apart
  refine ⟨gl, c, hv, hc, hm, fun e => ha (by rw [hv, e]; rfl), ?_, ?_, h.frs _ (List.getElem_mem hi)⟩
  all_goals
    rcases hr with h0 | ⟨b, off, hA, hcl⟩
    · have := outs_length xs; rw [h0] at this; simp at this; omega
    · simp only [Option.some.injEq, Addr.mk.injEq, and_true] at hA
      obtain ⟨rfl, rfl⟩ := hA
      have e := outs_at xs i hi
      first
        | (have := hcl _ _ e.1; rw [Nat.zero_add, Nat.mul_comm] at this; exact this)
        | (have := hcl _ _ e.2; rw [Nat.zero_add, Nat.mul_comm] at this; exact this)
/-- what a call does to the reference's bag: its block; the list lies anew -/
structure RefWrote (g : Nat) (v v' : Value) (w w' : World) : Prop where
  upd : Upd (fun b => b = g) w w'
  at_ : ∀ b, v'.ownBlock = some b → v.ownBlock = some b ∨ w.heap.size ≤ b
end
theorem RefNew_any (n : Int) (w : World) (h1 : -9223372036854775808 ≤ n) (h2 : n ≤ 9223372036854775807) :
    Calls Tryd.prog 17 #[.int .i64 n] w fun e w' => if n < 1 ∨ n > 2048 then e = .returned (.tuple #[.pointer none, .int .i64 1]) ∧ w' = w else
      e = .returned (.tuple #[.pointer (some ⟨w.heap.size, 0, none⟩), .int .i64 0]) ∧ New w w' ∧ IsRef w' w.heap.size (.slice none 0 0) n.toNat [] := by
  by_cases hn : n < 1 ∨ n > 2048
  · simp only [if_pos hn]
    by_cases h : n < 1
    · clear hn
      go_enter Tryd.func17, Tryd.ntmps17
      go_wp2
      go_ret2
      exact ⟨rfl, rfl⟩
    · have hg : 2048 < n := by omega
      clear hn
      go_enter Tryd.func17, Tryd.ntmps17
      go_wp2
      go_ret2
      exact ⟨rfl, rfl⟩
  · simp only [if_neg hn]
    obtain ⟨m, rfl⟩ := Int.eq_ofNat_of_zero_le (show 0 ≤ n by omega)
    have e1 : ¬ (m : Int) < 1 := by omega
    have e2 : ¬ (2048 : Int) < (m : Int) := by omega
    clear hn
    go_enter Tryd.func17, Tryd.ntmps17
    go_wp2
    go_ret2
    exact ⟨rfl, (Upd.refl _ _).alloc _, ⟨heap_alloc_new _ _, World.ownsRow_nil _ _ _ _, fun x hx => by cases hx⟩⟩
set_option maxHeartbeats 1000000 in
theorem RefPeek_no {w : World} {g most : Nat} {v : Value} {xs : List It} (h : IsRef w g v most xs) (i : Int) (hi : ¬ (0 ≤ i ∧ i < xs.length)) :
    Calls Tryd.prog 21 #[.pointer (some ⟨g, 0, none⟩), .int .i64 i] w fun e w' => e = .returned (.tuple #[.agg #[.int .i64 0, .slice none 0 0], .int .i64 10]) ∧ New w w' := by
  have hd : New w (w.alloc (.cells #[.int .i64 0, .slice none 0 0] 36)) := (Upd.refl _ _).alloc _
  have hb := box_new w (.int .i64 0) (.slice none 0 0)
  have c1 := (h.new hd).c1
  obtain ⟨A, c, rfl, hc, _⟩ := h.slice
  generalize xs.length = l at *
  clear h
  by_cases h0 : i < 0
  · clear hi
    go_enter Tryd.func21, Tryd.ntmps21
    go_wp2
    exact bodyPost_ret (out_results Tryd.results21 _ _ w.heap.size _ (0, 0) rfl hb rfl) rfl ⟨rfl, hd⟩
  · have h1 : (l : Int) ≤ i := by omega
    clear hi
    go_enter Tryd.func21, Tryd.ntmps21
    go_wp2
    exact bodyPost_ret (out_results Tryd.results21 _ _ w.heap.size _ (0, 0) rfl hb rfl) rfl ⟨rfl, hd⟩
theorem RefPeek_nil (w : World) (i : Int) :
    Calls Tryd.prog 21 #[.pointer none, .int .i64 i] w fun e w' => e = .returned (.tuple #[.agg #[.int .i64 0, .slice none 0 0], .int .i64 10]) ∧ New w w' := by
  have hd : New w (w.alloc (.cells #[.int .i64 0, .slice none 0 0] 36)) := (Upd.refl _ _).alloc _
  have hb := box_new w (.int .i64 0) (.slice none 0 0)
  go_enter Tryd.func21, Tryd.ntmps21
  go_wp2
  exact bodyPost_ret (out_results Tryd.results21 _ _ w.heap.size _ (0, 0) rfl hb rfl) rfl ⟨rfl, hd⟩
set_option maxHeartbeats 1000000 in
theorem RefPeek_ok {w : World} {g most : Nat} {v : Value} {xs : List It} (h : IsRef w g v most xs) (i : Nat) (hi : i < xs.length) (x : It) (hx : xs[i]? = some x) :
    Calls Tryd.prog 21 #[.pointer (some ⟨g, 0, none⟩), .int .i64 i] w fun e w' => e = .returned (.tuple #[.agg #[.int .i64 x.to, x.v], .int .i64 0]) ∧ New w w' := by
  have hd : New w (w.alloc (.cells #[.int .i64 0, .slice none 0 0] 36)) := (Upd.refl _ _).alloc _
  have hb := box_new w (.int .i64 0) (.slice none 0 0)
  have h1 := h.new hd
  obtain ⟨gl, c, hv, hc, hcm, hne, e0, e1, hin⟩ := h1.item i hi
  have hxx : xs[i] = x := by rw [List.getElem?_eq_getElem hi] at hx; exact Option.some.inj hx
  rw [hxx] at e0 e1 hin
  obtain ⟨A, cf, hxv, hcf, hcfm, hr, _⟩ := In.slice hin
  rw [hxv] at e1 ⊢
  have c1 := h1.c1
  rw [hv] at c1
  have hil : (i : Int) < (xs.length : Int) := by omega
  clear h h1 hx hxx hv hin hxv
  generalize xs.length = l at *
  go_enter Tryd.func21, Tryd.ntmps21
  go_wp2
  refine bodyPost_ret (out_results Tryd.results21 _ _ w.heap.size _ (0, 0) rfl ?_ rfl) rfl ⟨rfl, ?_⟩
  · exact heap_alloc_new _ _
  · exact (Upd.refl _ _).alloc _
end Go.Proofs.YtefnpkmbjabcmaaDoor
