/- A ring of []pinnace/pinnacelaw08.Pair: Get: walked. -/
import Derived.Test.YtkcepmalahmkiaaRgS3
namespace Go.Proofs.Ytkcepmalahmkiaa
open Go.RowKit
theorem some_atS {xs : List (Rit (Option Addr × Nat × Nat))} (h : Rising xs) (t : Nat) (v : (Option Addr × Nat × Nat)) (hf : found xs t = some v) : ∃ hi : lb xs t < xs.length, xs[lb xs t].v = v := by
  by_cases hi : lb xs t < xs.length
  · by_cases ht : xs[lb xs t].tick = t
    · have := found_at h t hi ht
      rw [hf] at this
      exact ⟨hi, (Option.some.inj this).symm⟩
    · have := found_none h t (fun _ => ht)
      rw [hf] at this; cases this
  · have := found_none h t (fun q => absurd q hi)
    rw [hf] at this; cases this
theorem GetNilS (w : World) (t : Nat) : Calls Try.prog 13 #[.pointer none, .int .u32 t] w fun e w' => e = .returned (.tuple #[.slice none 0 0, .bool false]) ∧ New w w' := by
  go_enter Try.func13, Try.ntmps13
  go_wp2
  go_returns
  exact ⟨rfl, Upd.refl _ _⟩
theorem GetNoS {w : World} {g most : Nat} {v : Value} {xs : List (Rit (Option Addr × Nat × Nat))} (h : SRing w g v most xs) (hm : xs.length ≤ 4096) (t : Nat) (hf : found xs t = none) :
    Calls Try.prog 13 #[.pointer (some ⟨g, 0, none⟩), .int .u32 t] w fun e w' => e = .returned (.tuple #[.slice none 0 0, .bool false]) ∧ New w w' := by
  have HF := Bx.mk (findS_any h hm t)
  rw [hf] at HF
  clear h hm hf
  go_enter Try.func13, Try.ntmps13
  go_wp2_with (go_at_call 37; (with_reducible refine (HF.out).mono ?_); rintro e w2 ⟨rfl, hN2⟩; dsimp only)
  go_returns
  exact ⟨rfl, hN2⟩
set_option maxRecDepth 20000 in
theorem GetOkS {w : World} {g most : Nat} {v : Value} {xs : List (Rit (Option Addr × Nat × Nat))} (h : SRing w g v most xs) (hm : xs.length ≤ 4096) (t : Nat) (x : (Option Addr × Nat × Nat)) (hf : found xs t = some x) :
    Calls Try.prog 13 #[.pointer (some ⟨g, 0, none⟩), .int .u32 t] w fun e w' => e = .returned (.tuple #[(.slice x.1 x.2.1 x.2.2), .bool true]) ∧ New w w' := by
  have HF := Bx.mk (findS_any h hm t)
  obtain ⟨hi, hv⟩ := some_atS h.up t x hf
  rw [hf] at HF
  have HR := Bx.mk h
  obtain ⟨gl, c, rfl, _, _, hc, _, hr⟩ := own_some h.row (by omega)
  have c1 := atS hr (lb xs t) hi 1 (by omega) _ rfl
  rw [hv] at *
  have k1 := h.c1
  generalize lb xs t = i at *
  have hii : (i : Int) < (xs.length : Int) := by omega
  clear h hm hf hr hv hi
  generalize xs.length = n at *
  go_enter Try.func13, Try.ntmps13
  go_wp2_with (go_at_call 37; (with_reducible refine (HF.out).mono ?_); rintro e w2 ⟨rfl, hN2⟩; have d1 := hN2.cell c1 (fun q => q); have m1 := hN2.cell k1 (fun q => q); dsimp only)
  go_returns
  exact ⟨rfl, hN2⟩
end Go.Proofs.Ytkcepmalahmkiaa
