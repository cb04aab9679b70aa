/- GetVar, GetInt. -/
import Derived.Test.YtdcebkilekdllaaNm6
import Derived.Test.YtdcebkilekdllaaNm2
namespace Go.Proofs.Ytdcebkilekdllaa
open Go.RowKit

def gvE (R : List Bool) : Int := (gv 16 0 0 R).1
def gvV (R : List Bool) : Nat := if (gv 16 0 0 R).1 = 0 then (gv 16 0 0 R).2.1 else 0
def gvRest (R : List Bool) : List Bool := if (gv 16 0 0 R).1 = 0 then (gv 16 0 0 R).2.2 else R

set_option maxHeartbeats 4000000 in
theorem tryVar_any {w : World} {g a : Nat} {v : Value} {P : List (BitVec 8)} (h : IsR w g v P a) (R : List Bool) (hR : (Bi.bitsOf P).drop a = R) (ha : a ≤ 8 * P.length) (hm : P.length ≤ 1000000) :
    Calls Try.prog 46 #[.pointer (some ⟨g, 0, none⟩), .func (Fn.func 47) #[] #[]] w fun e w' => e = .returned (.tuple #[.int .u64 (gvV R), .int .i64 (gvE R)]) ∧
      ∃ a', IsR w' g v P a' ∧ (Bi.bitsOf P).drop a' = gvRest R ∧ a' ≤ 8 * P.length ∧ Upd (fun b => b = g) w w' := by
  have c0 := h.c0
  have c1 := h.c1
  obtain ⟨A, c, rfl, _⟩ := own_rd h.row
  have hAl := (Upd.refl Nowhere w).alloc (.cells #[.slice A P.length c, .int .i64 a] 75)
  have h1 := h.new hAl
  have CC := Bx.mk (number_any h1 R hR ha hm)
  have hgs := (Array.getElem?_eq_some_iff.1 h.obj).1
  have hne : ¬ (fun b => b = g) w.heap.size := fun q => by have : w.heap.size = g := q; omega
  have hW0 : (w.alloc (.cells #[.slice A P.length c, .int .i64 a] 75)).cell? ⟨w.heap.size, 0, none⟩ = some (.slice A P.length c) := by rw [World.cell?, heap_alloc_new]; rfl
  have hW1 : (w.alloc (.cells #[.slice A P.length c, .int .i64 a] 75)).cell? ⟨w.heap.size, 1, none⟩ = some (.int .i64 a) := by rw [World.cell?, heap_alloc_new]; rfl
  have BR := Bx.mk hR
  have HE := Bx.mk (show gvE R = (gv 16 0 0 R).1 from rfl)
  have HV := Bx.mk (show gvV R = if (gv 16 0 0 R).1 = 0 then (gv 16 0 0 R).2.1 else 0 from rfl)
  have HR := Bx.mk (show gvRest R = if (gv 16 0 0 R).1 = 0 then (gv 16 0 0 R).2.2 else R from rfl)
  generalize (gv 16 0 0 R).1 = E at *
  generalize (gv 16 0 0 R).2.1 = V at *
  generalize (gv 16 0 0 R).2.2 = R' at *
  rw [HE.out, HV.out, HR.out]
  clear hR
  by_cases hE0 : E = 0
  · subst hE0
    rw [if_pos rfl, if_pos rfl]
    go_enter Try.func46, Try.ntmps46
    repeat' (first | (go_at_call 47; (with_reducible refine (CC.out).mono ?_); rintro e w2 ⟨rfl, a', hI2, hR2, ha2, hU2⟩; dsimp only) | go_values | go_skip | go_guarded | go_step | go_upon | go_back)
    go_returns
    exact ⟨rfl, a', hI2, hR2 rfl, ha2, (New.upd hAl).trans hU2⟩
  · rw [if_neg hE0, if_neg hE0]
    go_enter Try.func46, Try.ntmps46
    repeat' (first | (go_at_call 47; (with_reducible refine (CC.out).mono ?_); rintro e w2 ⟨rfl, a', hI2, hR2, ha2, hU2⟩; have k0 := hI2.c0; have k1 := hI2.c1; have kf := hI2.fz; have m0 := hU2.cell hW0 hne; have m1 := hU2.cell hW1 hne; dsimp only) | go_values | go_skip | go_guarded | go_step | go_upon | go_back)
    go_returns
    exact ⟨rfl, a, hI2.back, BR.out, ha, (((New.upd hAl).trans hU2).setCell (p := ⟨g, 0, none⟩) (.inl rfl) _).setCell (p := ⟨g, 1, none⟩) (.inl rfl) _⟩
theorem GetVar_any {w : World} {g a : Nat} {v : Value} {P : List (BitVec 8)} (h : IsR w g v P a) (R : List Bool) (hR : (Bi.bitsOf P).drop a = R) (ha : a ≤ 8 * P.length) (hm : P.length ≤ 1000000) :
    Calls Try.prog 33 #[.pointer (some ⟨g, 0, none⟩)] w fun e w' => e = .returned (.tuple #[.int .u64 (gvV R), .int .i64 (gvE R)]) ∧
      ∃ a', IsR w' g v P a' ∧ (Bi.bitsOf P).drop a' = gvRest R ∧ a' ≤ 8 * P.length ∧ Upd (fun b => b = g) w w' := by
  have CT := Bx.mk (tryVar_any h R hR ha hm)
  clear hm
  go_enter Try.func33, Try.ntmps33
  repeat' (first | (go_at_call 46; (with_reducible refine (CT.out).mono ?_); rintro e w2 ⟨rfl, a', hI2, hR2, ha2, hU2⟩; dsimp only) | go_values | go_skip | go_guarded | go_step | go_upon | go_back)
  go_returns
  exact ⟨rfl, a', hI2, hR2, ha2, hU2⟩
end Go.Proofs.Ytdcebkilekdllaa
