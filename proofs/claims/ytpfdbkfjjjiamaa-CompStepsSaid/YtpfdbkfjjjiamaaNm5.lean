/- A number of a range, read: the closure, try, GetIn. -/
import Derived.Test.YtpfdbkfjjjiamaaNm3
namespace Go.Proofs.Ytpfdbkfjjjiamaa
open Go.RowKit

def giE (R : List Bool) (lo hi : Int) : Int := if hi < lo then 1 else if Bi.getErr R (wid lo hi) ≠ 0 then Bi.getErr R (wid lo hi) else if hi - lo < (Bi.getVal R (wid lo hi) : Int) then 5 else 0
def giV (R : List Bool) (lo hi : Int) : Int := if giE R lo hi = 0 then lo + (Bi.getVal R (wid lo hi) : Int) else 0
def giRest (R : List Bool) (lo hi : Int) : List Bool := if giE R lo hi = 0 then Bi.getRest R (wid lo hi) else R

set_option maxHeartbeats 4000000 in
theorem inC_any {w : World} {g a : Nat} {v : Value} {P : List (BitVec 8)} (h : IsR w g v P a) (R : List Bool) (hR : (Bi.bitsOf P).drop a = R) (ha : a ≤ 8 * P.length) (hm : P.length ≤ 1000000) (B1 B2 : Nat) (lo hi : Int) (hlh : ¬ hi < lo) (h3 : -9223372036854775808 ≤ lo) (h4 : lo ≤ 9223372036854775807) (h5 : -9223372036854775808 ≤ hi) (h6 : hi ≤ 9223372036854775807)
    (hc1 : w.cell? ⟨B1, 0, none⟩ = some (.int .i64 lo)) (hc2 : w.cell? ⟨B2, 0, none⟩ = some (.int .i64 hi)) (hb1 : B1 ≠ g) (hb2 : B2 ≠ g) :
    Calls Try.prog 64 #[.pointer (some ⟨g, 0, none⟩), .pointer (some ⟨B1, 0, none⟩), .pointer (some ⟨B2, 0, none⟩)] w fun e w' => e = .returned (.tuple #[.int .i64 (giV R lo hi), .int .i64 (giE R lo hi)]) ∧
      ∃ a', IsR w' g v P a' ∧ (giE R lo hi = 0 → (Bi.bitsOf P).drop a' = giRest R lo hi) ∧ a' ≤ 8 * P.length ∧ Upd (fun b => b = g) w w' := by
  have HE := Bx.mk (show giE R lo hi = if Bi.getErr R (wid lo hi) ≠ 0 then Bi.getErr R (wid lo hi) else if hi - lo < (Bi.getVal R (wid lo hi) : Int) then 5 else 0 from if_neg hlh)
  have HV := Bx.mk (show giV R lo hi = if giE R lo hi = 0 then lo + (Bi.getVal R (wid lo hi) : Int) else 0 from rfl)
  have HR := Bx.mk (show giRest R lo hi = if giE R lo hi = 0 then Bi.getRest R (wid lo hi) else R from rfl)
  have HW := Bx.mk (fun w => Width_any lo hi w h3 h4 h5 h6)
  have hw64 := wid_le lo hi
  have ed : IntKind.u64.wrap (IntKind.u64.wrap hi - IntKind.u64.wrap lo) = hi - lo := by
    rw [IntKind.wrap_u64, IntKind.wrap_u64, IntKind.wrap_u64]; omega
  generalize wid lo hi = d at *
  obtain ⟨V, hV⟩ : ∃ V : Nat, Bi.getVal R d = V := ⟨_, rfl⟩
  obtain ⟨E, hE⟩ : ∃ E, Bi.getErr R d = E := ⟨_, rfl⟩
  obtain ⟨R', hR'⟩ : ∃ R', Bi.getRest R d = R' := ⟨_, rfl⟩
  have CG := Bx.mk (Get_e h R d hR ha hm (by omega) (by omega) V E (by rw [hV]) hE R' hR')
  rw [hV, hE] at HE
  rw [hV] at HV
  rw [hR'] at HR
  have ev : hi - lo < (V : Int) ∨ IntKind.i64.wrap (IntKind.u64.wrap (IntKind.u64.wrap lo + (V : Int))) = lo + (V : Int) := by
    rw [IntKind.wrap_u64, IntKind.wrap_u64, IntKind.wrap_i64]; omega
  clear hV hE hR' hlh h3 h4 h5 h6 hR
  by_cases hE0 : E = 0
  · subst hE0
    by_cases hbig : hi - lo < (V : Int)
    · have GE := Bx.mk (show giE R lo hi = 5 by rw [HE.out, if_neg (by simp), if_pos hbig])
      have GV := Bx.mk (show giV R lo hi = 0 by rw [HV.out, if_neg (by rw [GE.out]; decide)])
      rw [GE.out, GV.out]
      clear ev
      go_enter Try.func64, Try.ntmps64
      repeat' (first | (first | (go_at_call 61; (with_reducible refine (HW.out _).mono ?_); rintro e w1 ⟨rfl, rfl⟩; dsimp only) | (go_at_call 16; (with_reducible refine (CG.out).mono ?_); rintro e w2 ⟨rfl, a', hI2, hR2, ha2, hU2⟩; have k1 := hU2.cell hc1 hb1; have k2 := hU2.cell hc2 hb2; dsimp only)) | go_values | go_skip | go_guarded | go_step | go_upon | go_back)
      go_returns
      exact ⟨rfl, a', hI2, (fun h => by cases h), ha2, hU2⟩
    · have ev2 : IntKind.i64.wrap (IntKind.u64.wrap (IntKind.u64.wrap lo + (V : Int))) = lo + (V : Int) := ev.resolve_left hbig
      have GE := Bx.mk (show giE R lo hi = 0 by rw [HE.out, if_neg (by simp), if_neg hbig])
      have GV := Bx.mk (show giV R lo hi = lo + (V : Int) by rw [HV.out, if_pos GE.out])
      have GR := Bx.mk (show giRest R lo hi = R' by rw [HR.out, if_pos GE.out])
      rw [GE.out, GV.out, GR.out]
      clear ev
      go_enter Try.func64, Try.ntmps64
      repeat' (first | (first | (go_at_call 61; (with_reducible refine (HW.out _).mono ?_); rintro e w1 ⟨rfl, rfl⟩; dsimp only) | (go_at_call 16; (with_reducible refine (CG.out).mono ?_); rintro e w2 ⟨rfl, a', hI2, hR2, ha2, hU2⟩; have k1 := hU2.cell hc1 hb1; have k2 := hU2.cell hc2 hb2; dsimp only)) | go_values | go_skip | go_guarded | go_step | go_upon | go_back)
      go_returns
      exact ⟨rfl, a', hI2, fun _ => hR2, ha2, hU2⟩
  · have GE := Bx.mk (show giE R lo hi = E by rw [HE.out, if_pos hE0])
    have GV := Bx.mk (show giV R lo hi = 0 by rw [HV.out, if_neg (by rw [GE.out]; exact hE0)])
    rw [GE.out, GV.out]
    clear ev
    go_enter Try.func64, Try.ntmps64
    repeat' (first | (first | (go_at_call 61; (with_reducible refine (HW.out _).mono ?_); rintro e w1 ⟨rfl, rfl⟩; dsimp only) | (go_at_call 16; (with_reducible refine (CG.out).mono ?_); rintro e w2 ⟨rfl, a', hI2, hR2, ha2, hU2⟩; have k1 := hU2.cell hc1 hb1; have k2 := hU2.cell hc2 hb2; dsimp only)) | go_values | go_skip | go_guarded | go_step | go_upon | go_back)
    go_returns
    exact ⟨rfl, a', hI2, fun h => absurd h hE0, ha2, hU2⟩

theorem IsR.back {w : World} {g a' a : Nat} {v : Value} {P : List (BitVec 8)} (h : IsR w g v P a') : IsR ((w.setCell ⟨g, 0, none⟩ v).setCell ⟨g, 1, none⟩ (.int .i64 a)) g v P a := by
  refine ⟨heap_setCell_same _ g 1 _ _ _ (heap_setCell_same w g 0 _ _ v h.obj), ?_⟩
  exact own_upd (own_upd h.row (Upd.set1 w ⟨g, 0, none⟩ v) (fun b hb q => h.apart ((show b = g from q) ▸ hb))) (Upd.set1 _ ⟨g, 1, none⟩ _) (fun b hb q => h.apart ((show b = g from q) ▸ hb))

set_option maxHeartbeats 4000000 in
theorem tryIn_any {w : World} {g a : Nat} {v : Value} {P : List (BitVec 8)} (h : IsR w g v P a) (R : List Bool) (hR : (Bi.bitsOf P).drop a = R) (ha : a ≤ 8 * P.length) (hm : P.length ≤ 1000000) (B1 B2 : Nat) (lo hi : Int) (hlh : ¬ hi < lo) (h3 : -9223372036854775808 ≤ lo) (h4 : lo ≤ 9223372036854775807) (h5 : -9223372036854775808 ≤ hi) (h6 : hi ≤ 9223372036854775807)
    (hc1 : w.cell? ⟨B1, 0, none⟩ = some (.int .i64 lo)) (hc2 : w.cell? ⟨B2, 0, none⟩ = some (.int .i64 hi)) (hb1 : B1 ≠ g) (hb2 : B2 ≠ g) :
    Calls Try.prog 63 #[.pointer (some ⟨g, 0, none⟩), .func (Fn.func 64) #[] #[.pointer (some ⟨B1, 0, none⟩), .pointer (some ⟨B2, 0, none⟩)]] w fun e w' => e = .returned (.tuple #[.int .i64 (giV R lo hi), .int .i64 (giE R lo hi)]) ∧
      ∃ a', IsR w' g v P a' ∧ (Bi.bitsOf P).drop a' = giRest R lo hi ∧ a' ≤ 8 * P.length ∧ Upd (fun b => b = g) w w' := by
  have c0 := h.c0
  have c1 := h.c1
  obtain ⟨A, c, rfl, _⟩ := own_rd h.row
  have hAl := (Upd.refl Nowhere w).alloc (.cells #[.slice A P.length c, .int .i64 a] 73)
  have h1 := h.new hAl
  have CC := Bx.mk (inC_any h1 R hR ha hm B1 B2 lo hi hlh h3 h4 h5 h6 (hAl.cell hc1 (fun q => q)) (hAl.cell hc2 (fun q => q)) hb1 hb2)
  have hgs := (Array.getElem?_eq_some_iff.1 h.obj).1
  have hne : ¬ (fun b => b = g) w.heap.size := fun q => by have : w.heap.size = g := q; omega
  have hW0 : (w.alloc (.cells #[.slice A P.length c, .int .i64 a] 73)).cell? ⟨w.heap.size, 0, none⟩ = some (.slice A P.length c) := by rw [World.cell?, heap_alloc_new]; rfl
  have hW1 : (w.alloc (.cells #[.slice A P.length c, .int .i64 a] 73)).cell? ⟨w.heap.size, 1, none⟩ = some (.int .i64 a) := by rw [World.cell?, heap_alloc_new]; rfl
  have HV := Bx.mk (show giE R lo hi ≠ 0 → giV R lo hi = 0 from fun h => if_neg h)
  have HR := Bx.mk (show giE R lo hi ≠ 0 → giRest R lo hi = R from fun h => if_neg h)
  have BR := Bx.mk hR
  generalize giE R lo hi = E at *
  generalize giV R lo hi = V at *
  generalize giRest R lo hi = R' at *
  clear hc1 hc2 hb1 hb2 hlh h3 h4 h5 h6 hR
  by_cases hE0 : E = 0
  · subst hE0
    go_enter Try.func63, Try.ntmps63
    repeat' (first | (go_at_call 64; (with_reducible refine (CC.out).mono ?_); rintro e w2 ⟨rfl, a', hI2, hR2, ha2, hU2⟩; dsimp only) | go_values | go_skip | go_guarded | go_step | go_upon | go_back)
    go_returns
    exact ⟨rfl, a', hI2, hR2 rfl, ha2, (New.upd hAl).trans hU2⟩
  · have hV0 := HV.out hE0
    have HR0 := Bx.mk (HR.out hE0)
    subst hV0
    rw [HR0.out]
    go_enter Try.func63, Try.ntmps63
    repeat' (first | (go_at_call 64; (with_reducible refine (CC.out).mono ?_); rintro e w2 ⟨rfl, a', hI2, hR2, ha2, hU2⟩; have k0 := hI2.c0; have k1 := hI2.c1; have kf := hI2.fz; have m0 := hU2.cell hW0 hne; have m1 := hU2.cell hW1 hne; dsimp only) | go_values | go_skip | go_guarded | go_step | go_upon | go_back)
    go_returns
    exact ⟨rfl, a, hI2.back, BR.out, ha, (((New.upd hAl).trans hU2).setCell (p := ⟨g, 0, none⟩) (.inl rfl) _).setCell (p := ⟨g, 1, none⟩) (.inl rfl) _⟩

set_option maxHeartbeats 4000000 in
theorem GetIn_any {w : World} {g a : Nat} {v : Value} {P : List (BitVec 8)} (h : IsR w g v P a) (R : List Bool) (hR : (Bi.bitsOf P).drop a = R) (ha : a ≤ 8 * P.length) (hm : P.length ≤ 1000000) (lo hi : Int) (h3 : -9223372036854775808 ≤ lo) (h4 : lo ≤ 9223372036854775807) (h5 : -9223372036854775808 ≤ hi) (h6 : hi ≤ 9223372036854775807) :
    Calls Try.prog 58 #[.pointer (some ⟨g, 0, none⟩), .int .i64 lo, .int .i64 hi] w fun e w' => e = .returned (.tuple #[.int .i64 (giV R lo hi), .int .i64 (giE R lo hi)]) ∧
      ∃ a', IsR w' g v P a' ∧ (Bi.bitsOf P).drop a' = giRest R lo hi ∧ a' ≤ 8 * P.length ∧ Upd (fun b => b = g) w w' := by
  have hmf : ∀ (fn : Fn) (first cap : Array Value) (w : World), (Instr.makeFunc fn first cap).run Try.prog w = .ok (.func fn first cap) w := fun _ _ _ _ => rfl
  have hAl := ((Upd.refl Nowhere w).alloc (.cells #[.int .i64 lo] 2)).alloc (.cells #[.int .i64 hi] 2)
  by_cases hlh : hi < lo
  · have GE := Bx.mk (show giE R lo hi = 1 from if_pos hlh)
    have GV := Bx.mk (show giV R lo hi = 0 from if_neg (by rw [GE.out]; decide))
    have GR := Bx.mk (show giRest R lo hi = R from if_neg (by rw [GE.out]; decide))
    rw [GE.out, GV.out, GR.out]
    clear h3 h4 h5 h6
    go_enter Try.func58, Try.ntmps58
    repeat' (first | fail | go_values | go_skip | go_guarded | go_step | go_upon | go_back)
    go_returns
    exact ⟨rfl, a, h.new hAl, hR, ha, New.upd hAl⟩
  · have hgs := (Array.getElem?_eq_some_iff.1 h.obj).1
    have CT := Bx.mk (tryIn_any (h.new hAl) R hR ha hm w.heap.size (w.heap.size + 1) lo hi hlh h3 h4 h5 h6 (by rw [World.cell?, Below.heap_alloc _ _ _ (by simp), heap_alloc_new]; rfl) (by
      have := heap_alloc_new (w.alloc (.cells #[.int .i64 lo] 2)) (.cells #[.int .i64 hi] 2)
      rw [show (w.alloc (.cells #[.int .i64 lo] 2)).heap.size = w.heap.size + 1 by simp] at this
      rw [World.cell?, this]; rfl) (by omega) (by omega))
    clear h3 h4 h5 h6
    go_enter Try.func58, Try.ntmps58
    repeat' (first | (go_at_call 63; (with_reducible refine (CT.out).mono ?_); rintro e w2 ⟨rfl, a', hI2, hR2, ha2, hU2⟩; dsimp only) | go_values | go_skip | go_guarded | go_step | go_upon | go_back)
    go_returns
    exact ⟨rfl, a', hI2, hR2, ha2, (New.upd hAl).trans hU2⟩
end Go.Proofs.Ytpfdbkfjjjiamaa
