/- Components written: Put, PutStep; the reference's Put: walked. -/
import Derived.Test.YtpfdbkfjjjiamaaCmP1
import Derived.Test.YtpfdbkfjjjiamaaNmL3
namespace Go.Proofs.Ytpfdbkfjjjiamaa
open Go.RowKit
/-- a component's own bits -/
def ownW (k : Nat) (F : List Int) : List Bool := if chk k F = 0 then bitsP (wholeTo k F (flds k).length) else []
def ownS (k : Nat) (W : List Int) (k' : Nat) (F : List Int) : List Bool := if pairE k W k' F = 0 then bitsP (stepTo k W F (flds k).length) else []
theorem psize_le9 (Q : List (Nat × Nat)) (h : ∀ q ∈ Q, q.2 ≤ 64) : psize Q ≤ 64 * Q.length := by
  induction Q with
  | nil => simp [psize]
  | cons q Q ih =>
    have h1 := h q (List.mem_cons_self ..)
    have h2 := ih fun x hx => h x (List.mem_cons_of_mem _ hx)
    simp only [psize, List.map_cons, List.sum_cons, List.length_cons] at h2 ⊢
    omega
theorem Wrote.of_new {base g : Nat} {v v' : Value} {w w1 w2 : World} (h : New w w1) (k : Wrote base g v v' w1 w2) : Wrote base g v v' w w2 :=
  ⟨(New.upd h).trans k.upd, fun b hb => (k.at_ b hb).imp id (fun q => Nat.le_trans h.size q)⟩
set_option maxHeartbeats 2000000 in
theorem cmPut_any {w : World} {base g : Nat} {v : Value} {L : List Bool} (h : IsW w base g v L) (hb : base ≤ w.heap.size) (hL : L.length ≤ 1000) (k : Nat) (a b c : Int) (hk : k < 256) :
    Calls Try.prog 22 #[.pointer (some ⟨g, 0, none⟩), .agg #[.int .u8 k, .int .i32 a, .int .i32 b, .int .i32 c]] w fun e w' => e = .returned (.int .i64 (chk k [a, b, c])) ∧ ∃ v', IsW w' base g v' (L ++ ownW k [a, b, c]) ∧ Wrote base g v v' w w' := by
  have C1 := Bx.mk (fun w => Check_any k a b c w hk)
  have BR := Bx.mk (rd_new w [.int .u8 k, .int .i32 a, .int .i32 b, .int .i32 c] 24)
  have hN0 : New w (w.alloc (.cells #[.int .u8 k, .int .i32 a, .int .i32 b, .int .i32 c] 24)) := (Upd.refl _ w).alloc _
  have hgw : g < w.heap.size := (Array.getElem?_eq_some_iff.1 h.obj).1
  have hvw : ∀ b, v.ownBlock = some b → b < w.heap.size := fun b q => (h.row.lt b q).2
  by_cases hg : chk k [a, b, c] = 0
  · have HE := Bx.mk (show ownW k [a, b, c] = bitsP (wholeTo k [a, b, c] (flds k).length) from if_pos hg)
    have CW := Bx.mk (fun w => whole_any k a b c w hk hg)
    have h3 := flds_len k
    have h64 := wholeTo_64 k [a, b, c] (flds k).length
    have hlt := wholeTo_lt k a b c hg
    have hln := wholeTo_length k [a, b, c] (flds k).length
    rw [HE.out]
    rw [hg] at C1 ⊢
    generalize wholeTo k [a, b, c] (flds k).length = Q at *
    generalize (flds k).length = n at *
    have H64 := Bx.mk h64
    have HLT := Bx.mk hlt
    have HLN := Bx.mk hln
    have HVW := Bx.mk hvw
    have HH := Bx.mk h
    clear hg h64 hlt hln hvw h HE
    go_enter Try.func22, Try.ntmps22
    obtain ⟨c0, c1, c2, c3⟩ := four_cells BR.out
    repeat' (first | (first
      | (go_at_call 36; go_loud ((with_reducible refine (C1.out _).mono ?_); rintro e w1 ⟨rfl, hu1⟩; (obtain ⟨e0, e1, e2, e3⟩ := four_cells (BR.out.new hu1)); dsimp only))
      | (go_at_call 37; go_loud ((with_reducible refine (CW.out _).mono ?_); rintro e w2 ⟨v2, rfl, ho2, hu2⟩; have hN2 := (hN0.trans hu1).trans hu2; have hN1 := hN0.trans hu1; (obtain ⟨A2, c2', rfl, _, _, hr2, hb2⟩ := own_rd ho2); dsimp only))
      | (go_at_call 48; go_loud ((with_reducible refine (put_any (IsW.new HH.out hN2) (Nat.le_trans hb hN2.size) hL A2 n c2' Q HLN.out (by omega) hr2 H64.out HLT.out (fun x hx => ⟨fun q => by have := (hb2 x hx).1; have := hN1.size; omega, fun y hy q => by have := (hb2 x hx).1; have := hN1.size; have := HVW.out y hy; omega⟩) (fun x hx => (hb2 x hx).2.1)).mono ?_); rintro e w3 ⟨rfl, v3, hW3, hU3⟩; dsimp only))) | go_values | go_skip | go_guarded | go_step | go_upon | go_back)
    go_ret
    exact ⟨rfl, v3, hW3, Wrote.of_new hN2 hU3⟩
  · have HE := Bx.mk (show ownW k [a, b, c] = [] from if_neg hg)
    rw [HE.out, List.append_nil]
    have g1i : (chk k [a, b, c] == 0) = false := by simpa using hg
    generalize chk k [a, b, c] = e1 at *
    clear HE
    go_enter Try.func22, Try.ntmps22
    obtain ⟨c0, c1, c2, c3⟩ := four_cells BR.out
    repeat' (first | (first
      | (go_at_call 36; go_loud ((with_reducible refine (C1.out _).mono ?_); rintro e w1 ⟨rfl, hu1⟩; dsimp only))) | go_values | go_skip | go_guarded | go_step | go_upon | go_back)
    go_ret
    exact ⟨rfl, v, IsW.new h (hN0.trans hu1), New.wrote (hN0.trans hu1)⟩
set_option maxHeartbeats 2000000 in
theorem cmPutStep_any {w : World} {base g : Nat} {v : Value} {L : List Bool} (h : IsW w base g v L) (hb : base ≤ w.heap.size) (hL : L.length ≤ 1000) (k k' : Nat) (a b c a' b' c' : Int) (hk : k < 256) (hk' : k' < 256) :
    Calls Try.prog 29 #[.pointer (some ⟨g, 0, none⟩), .agg #[.int .u8 k, .int .i32 a, .int .i32 b, .int .i32 c], .agg #[.int .u8 k', .int .i32 a', .int .i32 b', .int .i32 c']] w fun e w' => e = .returned (.int .i64 (pairE k [a, b, c] k' [a', b', c'])) ∧ ∃ v', IsW w' base g v' (L ++ ownS k [a, b, c] k' [a', b', c']) ∧ Wrote base g v v' w w' := by
  have C1 := Bx.mk (fun w => pair_any k k' a b c a' b' c' w hk hk')
  obtain ⟨hN0, r1, r2⟩ := two_boxes w k k' a b c a' b' c'
  have R1 := Bx.mk r1
  have R2 := Bx.mk r2
  clear r1 r2
  have hgw : g < w.heap.size := (Array.getElem?_eq_some_iff.1 h.obj).1
  have hvw : ∀ b, v.ownBlock = some b → b < w.heap.size := fun b q => (h.row.lt b q).2
  by_cases hg : pairE k [a, b, c] k' [a', b', c'] = 0
  · obtain ⟨g1, g2, rfl⟩ := pair_ok hg
    have HE := Bx.mk (show ownS k [a, b, c] k [a', b', c'] = bitsP (stepTo k [a, b, c] [a', b', c'] (flds k).length) from if_pos hg)
    have CW := Bx.mk (fun w => step_any k a b c a' b' c' w hk g1 g2)
    have h3 := flds_len k
    have h64 := stepTo_64 k [a, b, c] [a', b', c'] (flds k).length
    have hlt := stepTo_lt k a b c a' b' c' g2
    have hle := stepTo_le k [a, b, c] [a', b', c'] (flds k).length
    rw [HE.out]
    rw [hg] at C1 ⊢
    generalize stepTo k [a, b, c] [a', b', c'] (flds k).length = Q at *
    have hle9 : Q.length ≤ 9 := by omega
    obtain ⟨n, hln⟩ : ∃ n, Q.length = n := ⟨_, rfl⟩
    rw [hln] at CW hle9
    have H64 := Bx.mk h64
    have HLT := Bx.mk hlt
    have HLN := Bx.mk hln
    have HVW := Bx.mk hvw
    have HH := Bx.mk h
    clear hg h64 hlt hln hvw h HE hle h3 g1 g2
    go_enter Try.func29, Try.ntmps29
    obtain ⟨c0, c1, c2, c3⟩ := four_cells R1.out
    obtain ⟨d0, d1, d2, d3⟩ := four_cells R2.out
    repeat' (first | (first
      | (go_at_call 33; go_loud ((with_reducible refine (C1.out _).mono ?_); rintro e w1 ⟨rfl, hu1⟩; (obtain ⟨e0, e1, e2, e3⟩ := four_cells (R1.out.new hu1)); (obtain ⟨f0, f1, f2, f3⟩ := four_cells (R2.out.new hu1)); dsimp only))
      | (go_at_call 35; go_loud ((with_reducible refine (CW.out _).mono ?_); rintro e w2 ⟨v2, rfl, ho2, hu2⟩; have hN2 := (hN0.trans hu1).trans hu2; have hN1 := hN0.trans hu1; (obtain ⟨A2, c2', rfl, _, _, hr2, hb2⟩ := own_rd ho2); dsimp only))
      | (go_at_call 48; go_loud ((with_reducible refine (put_any (IsW.new HH.out hN2) (Nat.le_trans hb hN2.size) hL A2 n c2' Q HLN.out hle9 hr2 H64.out HLT.out (fun x hx => ⟨fun q => by have := (hb2 x hx).1; have := hN1.size; omega, fun y hy q => by have := (hb2 x hx).1; have := hN1.size; have := HVW.out y hy; omega⟩) (fun x hx => (hb2 x hx).2.1)).mono ?_); rintro e w3 ⟨rfl, v3, hW3, hU3⟩; dsimp only))) | go_values | go_skip | go_guarded | go_step | go_upon | go_back)
    go_ret
    exact ⟨rfl, v3, hW3, Wrote.of_new hN2 hU3⟩
  · have HE := Bx.mk (show ownS k [a, b, c] k' [a', b', c'] = [] from if_neg hg)
    rw [HE.out, List.append_nil]
    have g1i : (pairE k [a, b, c] k' [a', b', c'] == 0) = false := by simpa using hg
    generalize pairE k [a, b, c] k' [a', b', c'] = e1 at *
    clear HE
    go_enter Try.func29, Try.ntmps29
    obtain ⟨c0, c1, c2, c3⟩ := four_cells R1.out
    obtain ⟨d0, d1, d2, d3⟩ := four_cells R2.out
    repeat' (first | (first
      | (go_at_call 33; go_loud ((with_reducible refine (C1.out _).mono ?_); rintro e w1 ⟨rfl, hu1⟩; dsimp only))) | go_values | go_skip | go_guarded | go_step | go_upon | go_back)
    go_ret
    exact ⟨rfl, v, IsW.new h (hN0.trans hu1), New.wrote (hN0.trans hu1)⟩
end Go.Proofs.Ytpfdbkfjjjiamaa
