/- order2Ordered, medianOrdered, medianAdjacentOrdered at IDs: walked. -/
import Derived.Test.YtohflgpkimnodaaSo5
namespace Go.Proofs.Ytohflgpkimnodaa
open Go.RowKit Go.Sort
/-- a number in a block of its own -/
def NB (sb : Nat) (s : Nat) (w : World) : Prop := w.heap[sb]? = some (.cells #[.int .i64 (s : Nat)] 3 (0, 0))
theorem NB.cell {sb s : Nat} {w : World} (h : NB sb s w) : w.cell? ⟨sb, 0, none⟩ = some (.int .i64 (s : Nat)) := by rw [World.cell?, h]; rfl
theorem NB.frz {sb s : Nat} {w : World} (h : NB sb s w) (o : Nat) : w.frozen? ⟨sb, o, none⟩ = false := by simp [World.frozen?, show w.heap[sb]? = _ from h]
theorem NB.set {sb s : Nat} {w : World} (h : NB sb s w) (x : Nat) : NB sb x (w.setCell ⟨sb, 0, none⟩ (.int .i64 (x : Nat))) := heap_setCell_same w sb 0 _ _ _ h
theorem order2_lt (d : Array Nat) (a b s p q t n : Nat) (h : order2 ltN d a b s = (p, q, t)) (ha : a < n) (hb : b < n) : p < n ∧ q < n ∧ t ≤ s + 1 := by
  unfold order2 at h
  split at h <;> (cases h; omega)
set_option maxRecDepth 20000 in
set_option maxHeartbeats 4000000 in
theorem order2_any {w : World} {blk cap sb s : Nat} {d : Array Nat} (h : SR blk cap d w) (hs : NB sb s w) (hne : sb ≠ blk) (n c a b p q t : Nat) (hn : d.size = n) (ha : a < n) (hb : b < n) (hs1 : s < 1000) (hsz : n < 2305843009213693952) (hr : order2 ltN d a b s = (p, q, t)) :
    Calls Try.prog 60 #[.slice (some ⟨blk, 0, none⟩) n c, .int .i64 a, .int .i64 b, .pointer (some ⟨sb, 0, none⟩)] w fun e w' => e = .returned (.tuple #[.int .i64 p, .int .i64 q]) ∧ SR blk cap d w' ∧ NB sb t w' ∧ Upd (fun x => x = sb) w w' := by
  have haI : (a : Int) < (n : Int) := by omega
  have hbI : (b : Int) < (n : Int) := by omega
  obtain ⟨x, hx⟩ : ∃ x, d[a]! = x := ⟨_, rfl⟩
  obtain ⟨y, hy⟩ : ∃ y, d[b]! = y := ⟨_, rfl⟩
  have k1 : ∀ z : After w, z.to.cell? ⟨blk, a, none⟩ = some (.int .u32 (x : Nat)) := fun z => by rw [← hx]; exact (h.blk z.h (fun q => q)).cell a (by omega)
  have k2 : ∀ z : After w, z.to.cell? ⟨blk, b, none⟩ = some (.int .u32 (y : Nat)) := fun z => by rw [← hy]; exact (h.blk z.h (fun q => q)).cell b (by omega)
  unfold order2 at hr
  rw [hx, hy] at hr
  have w1' : IntKind.i64.wrap ((s : Int) + 1) = ((s + 1 : Nat) : Int) := by rw [IntKind.wrap_i64]; omega
  have H0 := Bx.mk h
  have S0 := Bx.mk hs
  cases hl : ltN y x with
  | true =>
    have hL := fun w => hl ▸ Less_any y x w
    rw [if_pos hl] at hr
    simp only [Prod.mk.injEq] at hr
    obtain ⟨rfl, rfl, rfl⟩ := hr
    clear hx hy hl h hs
    go_enter Try.func60, Try.ntmps60
    repeat' (first | fail | go_values | go_skip | go_guarded | go_step | go_upon | go_back)
    (refine wp_region_calm (by kernel_rfl) (by kernel_rfl) ?_; (repeat (go_big_quiet_step ((go_at_call 49; refine Calls.calm_same (hL _))))); refine wpQuiet_nil ?_; intro wq hq)
    have h1 := H0.out.blk hq (fun q => q)
    have s1 : NB sb s wq := hq.blk S0.out (fun q => q)
    have c0 := s1.cell
    have f0 := s1.frz
    clear k1 k2 hL
    repeat' (first | fail | go_values | go_skip | go_guarded | go_step | go_upon | go_back)
    go_returns
    exact ⟨rfl, h1.blk (Upd.set1 wq ⟨sb, 0, none⟩ _) (fun q => hne q.symm), s1.set (s + 1), (show Upd (fun x => x = sb) w wq from New.upd hq).setCell (p := ⟨sb, 0, none⟩) (.inl rfl) _⟩
  | false =>
    have hL := fun w => hl ▸ Less_any y x w
    rw [if_neg (by rw [hl]; decide)] at hr
    simp only [Prod.mk.injEq] at hr
    obtain ⟨rfl, rfl, rfl⟩ := hr
    clear hx hy hl h hs
    go_enter Try.func60, Try.ntmps60
    repeat' (first | fail | go_values | go_skip | go_guarded | go_step | go_upon | go_back)
    (refine wp_region_calm (by kernel_rfl) (by kernel_rfl) ?_; (repeat (go_big_quiet_step ((go_at_call 49; refine Calls.calm_same (hL _))))); refine wpQuiet_nil ?_; intro wq hq)
    have h1 := H0.out.blk hq (fun q => q)
    have s1 : NB sb s wq := hq.blk S0.out (fun q => q)
    clear k1 k2 hL
    repeat' (first | fail | go_values | go_skip | go_guarded | go_step | go_upon | go_back)
    go_returns
    exact ⟨rfl, h1, s1, New.upd hq⟩
set_option maxRecDepth 20000 in
set_option maxHeartbeats 4000000 in
theorem median_any {w : World} {blk cap sb s : Nat} {d : Array Nat} (h : SR blk cap d w) (hs : NB sb s w) (hne : sb ≠ blk) (n c a b e m t : Nat) (hn : d.size = n) (ha : a < n) (hb : b < n) (he : e < n) (hs1 : s < 900) (hsz : n < 2305843009213693952) (hr : median ltN d a b e s = (m, t)) :
    Calls Try.prog 58 #[.slice (some ⟨blk, 0, none⟩) n c, .int .i64 a, .int .i64 b, .int .i64 e, .pointer (some ⟨sb, 0, none⟩)] w fun e w' => e = .returned (.int .i64 m) ∧ SR blk cap d w' ∧ NB sb t w' ∧ Upd (fun x => x = sb) w w' := by
  obtain ⟨p1, q1, t1, h1⟩ : ∃ p q t, order2 ltN d a b s = (p, q, t) := ⟨_, _, _, rfl⟩
  obtain ⟨p2, q2, t2, h2⟩ : ∃ p q t, order2 ltN d q1 e t1 = (p, q, t) := ⟨_, _, _, rfl⟩
  obtain ⟨p3, q3, t3, h3⟩ : ∃ p q t, order2 ltN d p1 p2 t2 = (p, q, t) := ⟨_, _, _, rfl⟩
  have b1 := order2_lt d a b s p1 q1 t1 n h1 ha hb
  have b2 := order2_lt d q1 e t1 p2 q2 t2 n h2 b1.2.1 he
  have b3 := order2_lt d p1 p2 t2 p3 q3 t3 n h3 b1.1 b2.1
  unfold median at hr
  simp only [h1, h2, h3, Prod.mk.injEq] at hr
  obtain ⟨rfl, rfl⟩ := hr
  have C1 := Bx.mk (order2_any h hs hne n c a b p1 q1 t1 hn ha hb (by omega) hsz h1)
  have C2 := Bx.mk (fun {w1 : World} (h' : SR blk cap d w1) (hs' : NB sb t1 w1) => order2_any h' hs' hne n c q1 e p2 q2 t2 hn b1.2.1 he (by omega) hsz h2)
  have C3 := Bx.mk (fun {w1 : World} (h' : SR blk cap d w1) (hs' : NB sb t2 w1) => order2_any h' hs' hne n c p1 p2 p3 q3 t3 hn b1.1 b2.1 (by omega) hsz h3)
  clear h hs hn ha hb he h1 h2 h3 b1 b2 b3
  go_enter Try.func58, Try.ntmps58
  repeat' (first | (first
    | (have _m := U2; (go_at_call 60; (with_reducible refine (C3.out R2 S2).mono ?_); rintro e w3 ⟨rfl, R3, S3, U3⟩; dsimp only))
    | (have _m := U1; (go_at_call 60; (with_reducible refine (C2.out R1 S1).mono ?_); rintro e w2 ⟨rfl, R2, S2, U2⟩; dsimp only))
    | (go_at_call 60; (with_reducible refine (C1.out).mono ?_); rintro e w1 ⟨rfl, R1, S1, U1⟩; dsimp only)) | go_values | go_skip | go_guarded | go_step | go_upon | go_back)
  go_returns
  exact ⟨rfl, R3, S3, (U1.trans U2).trans U3⟩
theorem median_lt (d : Array Nat) (a b e s m t n : Nat) (h : median ltN d a b e s = (m, t)) (ha : a < n) (hb : b < n) (he : e < n) : m < n ∧ t ≤ s + 3 := by
  obtain ⟨p1, q1, t1, h1⟩ : ∃ p q t, order2 ltN d a b s = (p, q, t) := ⟨_, _, _, rfl⟩
  obtain ⟨p2, q2, t2, h2⟩ : ∃ p q t, order2 ltN d q1 e t1 = (p, q, t) := ⟨_, _, _, rfl⟩
  obtain ⟨p3, q3, t3, h3⟩ : ∃ p q t, order2 ltN d p1 p2 t2 = (p, q, t) := ⟨_, _, _, rfl⟩
  have b1 := order2_lt d a b s p1 q1 t1 n h1 ha hb
  have b2 := order2_lt d q1 e t1 p2 q2 t2 n h2 b1.2.1 he
  have b3 := order2_lt d p1 p2 t2 p3 q3 t3 n h3 b1.1 b2.1
  unfold median at h
  simp only [h1, h2, h3, Prod.mk.injEq] at h
  omega
set_option maxRecDepth 20000 in
theorem medAdj_any {w : World} {blk cap sb s : Nat} {d : Array Nat} (h : SR blk cap d w) (hs : NB sb s w) (hne : sb ≠ blk) (n c a m t : Nat) (hn : d.size = n) (ha : 1 ≤ a) (hb : a + 1 < n) (hs1 : s < 900) (hsz : n < 2305843009213693952) (hr : medianAdjacent ltN d a s = (m, t)) :
    Calls Try.prog 57 #[.slice (some ⟨blk, 0, none⟩) n c, .int .i64 a, .pointer (some ⟨sb, 0, none⟩)] w fun e w' => e = .returned (.int .i64 m) ∧ SR blk cap d w' ∧ NB sb t w' ∧ Upd (fun x => x = sb) w w' := by
  have C1 := Bx.mk (median_any h hs hne n c (a - 1) a (a + 1) m t hn (by omega) (by omega) (by omega) hs1 hsz hr)
  obtain ⟨a0, ha0⟩ : ∃ a0, a - 1 = a0 := ⟨_, rfl⟩
  obtain ⟨a2, ha2⟩ : ∃ a2, a + 1 = a2 := ⟨_, rfl⟩
  have w1' : IntKind.i64.wrap ((a : Int) - 1) = (a0 : Int) := by rw [IntKind.wrap_i64]; omega
  have w2' : IntKind.i64.wrap ((a : Int) + 1) = (a2 : Int) := by rw [IntKind.wrap_i64]; omega
  rw [ha0, ha2] at C1
  clear h hs hn hr ha0 ha2
  go_enter Try.func57, Try.ntmps57
  repeat' (first | (go_at_call 58; (with_reducible refine (C1.out).mono ?_); rintro e w1 ⟨rfl, R1, S1, U1⟩; dsimp only) | go_values | go_skip | go_guarded | go_step | go_upon | go_back)
  go_returns
  exact ⟨rfl, R1, S1, U1⟩
end Go.Proofs.Ytohflgpkimnodaa
