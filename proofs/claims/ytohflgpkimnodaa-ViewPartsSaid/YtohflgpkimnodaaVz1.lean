/- view.Visible, and the reference's: walked. -/
import Derived.Test.YtohflgpkimnodaaRf3
import Derived.Test.YtohflgpkimnodaaVi5
namespace Go.Proofs.Ytohflgpkimnodaa
open Go.RowKit
/-- is a cell seen? -/
def seen (r : Vi.Reg) (s : Int × Int) : Bool := Vi.has r s.1 s.2
theorem boxNil_any (w : World) (x0 y0 x1 y1 : Int) : Calls Try.prog 34 #[.pointer none, .int .i64 x0, .int .i64 y0, .int .i64 x1, .int .i64 y1] w fun e w' => e = .returned (.slice none 0 0) ∧ w' = w := by
  go_enter Try.func34, Try.ntmps34
  repeat' (first | fail | go_values | go_skip | go_guarded | go_step | go_upon | go_back)
  go_returns
  exact ⟨rfl, rfl⟩
theorem inCells {r : Vi.Reg} (h : Vi.ok r = true) (ho : Vi.opened r = true) {s : Int × Int} (hs : -32 ≤ s.1 ∧ s.1 ≤ 31 ∧ -32 ≤ s.2 ∧ s.2 ≤ 31) :
    (max (Vi.keep (r.cx - r.r)) (-32) ≤ s.1 ∧ s.1 ≤ min (Vi.keep (r.cx + r.r)) 31 ∧ max (Vi.keep (r.cy - r.r)) (-32) ≤ s.2 ∧ s.2 ≤ min (Vi.keep (r.cy + r.r)) 31) ↔ seen r s = true := by
  have hb := ok_bounds h
  unfold seen Vi.has
  rw [ho]
  simp only [Bool.true_and, Bool.and_eq_true, decide_eq_true_eq]
  unfold Vi.keep
  omega
section
variable {n0 : Nat} {w : World} {g : Nat} {M : Nat → Option (Int × Int)} {L : List SpQ}
set_option maxRecDepth 20000 in
theorem visible_any (h : GR n0 w g M) (R : Rel M L) (hl : L.length ≤ 1000) (r : Vi.Reg) (xs : List Nat) (hx : selL (seen r) L = xs) (n : Nat) (hn : xs.length = n) :
    Calls Try.prog 21 #[.pointer (some ⟨g, 0, none⟩), regV r] w fun e w' => ∃ A c, e = .returned (.slice A n c) ∧ n ≤ c ∧ Rd w' A (idv xs) ∧ (A = none → n = 0) ∧ New w w' := by
  have CO := Bx.mk (fun w => open_any r w)
  cases ho : Vi.opened r with
  | true =>
    rw [ho] at CO
    have hok : Vi.ok r = true := by unfold Vi.opened at ho; simp_all
    have CB := Bx.mk (fun w => vbox_any r w hok)
    have hb := ok_bounds hok
    have hbx : inI64 (Vi.keep (r.cx - r.r)) ∧ inI64 (Vi.keep (r.cy - r.r)) ∧ inI64 (Vi.keep (r.cx + r.r)) ∧ inI64 (Vi.keep (r.cy + r.r)) := by unfold inI64 Vi.keep; omega
    have CX := Bx.mk (fun {w' : World} (u : New w w') => boxG (h.new u) R.few (by omega) _ _ _ _ hbx xs (hx ▸ R.sel_srt (seen r)) (fun i => by
      rw [← hx, R.mem_sel]
      constructor
      · rintro ⟨s, hs, p⟩; exact ⟨s, hs, (inCells hok ho (R.cell_in hs)).2 p⟩
      · rintro ⟨s, hs, p⟩; exact ⟨s, hs, (inCells hok ho (R.cell_in hs)).1 p⟩) n hn)
    have AL : New w (w.alloc (.cells #[.bool r.on, .int .i64 r.cx, .int .i64 r.cy, .int .i64 r.r] 23)) := (Upd.refl _ _).alloc _
    have hr4 := rd_new w [.bool r.on, .int .i64 r.cx, .int .i64 r.cy, .int .i64 r.r] 23
    obtain ⟨C0, C1, C2, C3⟩ := four_cells hr4
    generalize Vi.keep (r.cx - r.r) = a1 at *
    generalize Vi.keep (r.cy - r.r) = a2 at *
    generalize Vi.keep (r.cx + r.r) = a3 at *
    generalize Vi.keep (r.cy + r.r) = a4 at *
    have BR4 := Bx.mk hr4
    have BAL := Bx.mk AL
    clear h R ho hok hb hbx hr4 AL hx hn
    unfold regV at *
    obtain ⟨on, cx, cy, rr⟩ := r
    dsimp only at *
    go_enter Try.func21, Try.ntmps21
    repeat' (first | (first | ((go_at_call 23; (with_reducible refine (CO.out _).mono ?_); rintro e w1 ⟨rfl, U1⟩; obtain ⟨D0, D1, D2, D3⟩ := four_cells (BR4.out.new U1); dsimp only)) | (have _m := U1; (go_at_call 24; (with_reducible refine (CB.out _).mono ?_); rintro e w2 ⟨rfl, U2⟩; dsimp only)) | (have _m := U2; (go_at_call 34; (with_reducible refine (CX.out ((BAL.out.trans U1).trans U2)).mono ?_); rintro e w3 ⟨A, rfl, q1, q2, U3⟩; dsimp only))) | go_values | go_skip | go_guarded | go_step | go_upon | go_back)
    go_returns
    exact ⟨A, n, rfl, Nat.le_refl _, q1, q2, ((BAL.out.trans U1).trans U2).trans U3⟩
  | false =>
    rw [ho] at CO
    have hxs : xs = [] := by
      rw [← hx]
      unfold selL
      rw [List.filter_eq_nil_iff.2, List.map_nil]
      intro q hq
      unfold seen Vi.has
      rw [ho]; simp
    subst hxs
    obtain rfl : n = 0 := hn.symm
    have AL : New w (w.alloc (.cells #[.bool r.on, .int .i64 r.cx, .int .i64 r.cy, .int .i64 r.r] 23)) := (Upd.refl _ _).alloc _
    obtain ⟨C0, C1, C2, C3⟩ := four_cells (rd_new w [.bool r.on, .int .i64 r.cx, .int .i64 r.cy, .int .i64 r.r] 23)
    have BAL := Bx.mk AL
    clear h R ho AL hx hn
    unfold regV at *
    obtain ⟨on, cx, cy, rr⟩ := r
    dsimp only at *
    go_enter Try.func21, Try.ntmps21
    repeat' (first | ((go_at_call 23; (with_reducible refine (CO.out _).mono ?_); rintro e w1 ⟨rfl, U1⟩; dsimp only)) | go_values | go_skip | go_guarded | go_step | go_upon | go_back)
    go_returns
    exact ⟨none, 0, rfl, Nat.le_refl _, .inl rfl, fun _ => (by first | rfl | trivial), BAL.out.trans U1⟩
set_option maxRecDepth 20000 in
theorem visNil_any (r : Vi.Reg) (w : World) : Calls Try.prog 21 #[.pointer none, regV r] w fun e w' => e = .returned (.slice none 0 0) ∧ New w w' := by
  have CO := Bx.mk (fun w => open_any r w)
  have CX := Bx.mk (fun w x0 y0 x1 y1 => boxNil_any w x0 y0 x1 y1)
  have AL : New w (w.alloc (.cells #[.bool r.on, .int .i64 r.cx, .int .i64 r.cy, .int .i64 r.r] 23)) := (Upd.refl _ _).alloc _
  have hr4 := rd_new w [.bool r.on, .int .i64 r.cx, .int .i64 r.cy, .int .i64 r.r] 23
  obtain ⟨C0, C1, C2, C3⟩ := four_cells hr4
  have BR4 := Bx.mk hr4
  have BAL := Bx.mk AL
  cases ho : Vi.opened r with
  | true =>
    rw [ho] at CO
    have hok : Vi.ok r = true := by unfold Vi.opened at ho; simp_all
    have CB := Bx.mk (fun w => vbox_any r w hok)
    generalize Vi.keep (r.cx - r.r) = a1 at *
    generalize Vi.keep (r.cy - r.r) = a2 at *
    generalize Vi.keep (r.cx + r.r) = a3 at *
    generalize Vi.keep (r.cy + r.r) = a4 at *
    clear hr4 AL ho hok
    unfold regV at *
    obtain ⟨on, cx, cy, rr⟩ := r
    dsimp only at *
    go_enter Try.func21, Try.ntmps21
    repeat' (first | (first | ((go_at_call 23; (with_reducible refine (CO.out _).mono ?_); rintro e w1 ⟨rfl, U1⟩; obtain ⟨D0, D1, D2, D3⟩ := four_cells (BR4.out.new U1); dsimp only)) | (have _m := U1; (go_at_call 24; (with_reducible refine (CB.out _).mono ?_); rintro e w2 ⟨rfl, U2⟩; dsimp only)) | (have _m := U2; (go_at_call 34; (with_reducible refine (CX.out _ _ _ _ _).mono ?_); rintro e w3 ⟨rfl, rfl⟩; dsimp only))) | go_values | go_skip | go_guarded | go_step | go_upon | go_back)
    go_returns
    exact ⟨rfl, (BAL.out.trans U1).trans U2⟩
  | false =>
    rw [ho] at CO
    clear hr4 AL ho
    unfold regV at *
    obtain ⟨on, cx, cy, rr⟩ := r
    dsimp only at *
    go_enter Try.func21, Try.ntmps21
    repeat' (first | ((go_at_call 23; (with_reducible refine (CO.out _).mono ?_); rintro e w1 ⟨rfl, U1⟩; dsimp only)) | go_values | go_skip | go_guarded | go_step | go_upon | go_back)
    go_returns
    exact ⟨rfl, BAL.out.trans U1⟩
end
end Go.Proofs.Ytohflgpkimnodaa
