/- A ring of int64: Get: walked. -/
import Derived.Test.YtkcepmalahmkiaaRgL3
namespace Go.Proofs.Ytkcepmalahmkiaa
open Go.RowKit
theorem some_atL {xs : List (Rit Int)} (h : Rising xs) (t : Nat) (v : Int) (hf : found xs t = some v) : ∃ hi : lb xs t < xs.length, xs[lb xs t].v = v := by
  by_cases hi : lb xs t < xs.length
  · by_cases ht : xs[lb xs t].tick = t
    · have := found_at h t hi ht
      rw [hf] at this
      exact ⟨hi, (Option.some.inj this).symm⟩
    · have := found_none h t (fun _ => ht)
      rw [hf] at this; cases this
  · have := found_none h t (fun q => absurd q hi)
    rw [hf] at this; cases this
theorem GetNilL (w : World) (t : Nat) : Calls Try.prog 27 #[.pointer none, .int .u32 t] w fun e w' => e = .returned (.tuple #[.int .i64 0, .bool false]) ∧ New w w' := by
  go_enter Try.func27, Try.ntmps27
  go_wp2
  go_returns
  exact ⟨rfl, Upd.refl _ _⟩
theorem GetNoL {w : World} {g most : Nat} {v : Value} {xs : List (Rit Int)} (h : LRing w g v most xs) (hm : xs.length ≤ 4096) (t : Nat) (hf : found xs t = none) :
    Calls Try.prog 27 #[.pointer (some ⟨g, 0, none⟩), .int .u32 t] w fun e w' => e = .returned (.tuple #[.int .i64 0, .bool false]) ∧ New w w' := by
  have HF := Bx.mk (findL_any h hm t)
  rw [hf] at HF
  clear h hm hf
  go_enter Try.func27, Try.ntmps27
  go_wp2_with (go_at_call 43; (with_reducible refine (HF.out).mono ?_); rintro e w2 ⟨rfl, hN2⟩; dsimp only)
  go_returns
  exact ⟨rfl, hN2⟩
set_option maxRecDepth 20000 in
theorem GetOkL {w : World} {g most : Nat} {v : Value} {xs : List (Rit Int)} (h : LRing w g v most xs) (hm : xs.length ≤ 4096) (t : Nat) (x : Int) (hf : found xs t = some x) :
    Calls Try.prog 27 #[.pointer (some ⟨g, 0, none⟩), .int .u32 t] w fun e w' => e = .returned (.tuple #[(.int .i64 x), .bool true]) ∧ New w w' := by
  have HF := Bx.mk (findL_any h hm t)
  obtain ⟨hi, hv⟩ := some_atL h.up t x hf
  rw [hf] at HF
  have HR := Bx.mk h
  obtain ⟨gl, c, rfl, _, _, hc, _, hr⟩ := own_some h.row (by omega)
  have c1 := atL hr (lb xs t) hi 1 (by omega) _ rfl
  rw [hv] at *
  have k1 := h.c1
  generalize lb xs t = i at *
  have hii : (i : Int) < (xs.length : Int) := by omega
  clear h hm hf hr hv hi
  generalize xs.length = n at *
  go_enter Try.func27, Try.ntmps27
  go_wp2_with (go_at_call 43; (with_reducible refine (HF.out).mono ?_); rintro e w2 ⟨rfl, hN2⟩; have d1 := hN2.cell c1 (fun q => q); have m1 := hN2.cell k1 (fun q => q); dsimp only)
  go_returns
  exact ⟨rfl, hN2⟩
end Go.Proofs.Ytkcepmalahmkiaa
