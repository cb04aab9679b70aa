/- PutInt, GetInt. -/
import Derived.Test.YtdcebkilekdllaaNm8
namespace Go.Proofs.Ytdcebkilekdllaa
open Go.RowKit

theorem PutInt_any {w : World} {base g : Nat} {v : Value} {L : List Bool} (h : IsW w base g v L) (hb : base ≤ w.heap.size) (hL : L.length ≤ 1048576) (n : Int) (h1 : -9223372036854775808 ≤ n) (h2 : n ≤ 9223372036854775807) (z : Nat) (hz : zig n = z) (hzl : z < 18446744073709551616) :
    Calls Try.prog 35 #[.pointer (some ⟨g, 0, none⟩), .int .i64 n] w fun e w' => e = .returned (.int .i64 (pvErr L z)) ∧ ∃ v', IsW w' base g v' (pvRes L z) ∧ Wrote base g v v' w w' := by
  have HZ := Bx.mk (fun w => Zig_e n n rfl w h1 h2 z hz)
  have HP := Bx.mk (PutVar_any h hb hL z hzl)
  clear h1 h2 hL
  go_enter Try.func35, Try.ntmps35
  repeat' (first | (first | (go_at_call 13; (with_reducible refine (HZ.out _).mono ?_); rintro e w1 ⟨rfl, rfl⟩; dsimp only) | (go_at_call 34; (with_reducible refine (HP.out).mono ?_); rintro e w2 ⟨rfl, v2, hW2, hU2⟩; dsimp only)) | go_values | go_skip | go_guarded | go_step | go_upon | go_back)
  go_ret
  exact ⟨rfl, v2, hW2, hU2⟩
theorem gv_lt (R : List Bool) (V : Nat) (hV : gvV R = V) (h : V < 18446744073709551616) {w : World} {g a : Nat} {v : Value} {P : List (BitVec 8)} (hI : IsR w g v P a) (hR : (Bi.bitsOf P).drop a = R) (ha : a ≤ 8 * P.length) (hm : P.length ≤ 1000000) :
    Calls Try.prog 32 #[.pointer (some ⟨g, 0, none⟩)] w fun e w' => e = .returned (.tuple #[.int .i64 (zag V), .int .i64 (gvE R)]) ∧
      ∃ a', IsR w' g v P a' ∧ (Bi.bitsOf P).drop a' = gvRest R ∧ a' ≤ 8 * P.length ∧ Upd (fun b => b = g) w w' := by
  have CG := Bx.mk (GetVar_any hI R hR ha hm)
  rw [hV] at CG
  have CZ := Bx.mk (fun w => Zag_any V w h)
  clear hm
  go_enter Try.func32, Try.ntmps32
  repeat' (first | (first | (go_at_call 33; (with_reducible refine (CG.out).mono ?_); rintro e w2 ⟨rfl, a', hI2, hR2, ha2, hU2⟩; dsimp only) | (go_at_call 15; (with_reducible refine (CZ.out _).mono ?_); rintro e w3 ⟨rfl, rfl⟩; dsimp only)) | go_values | go_skip | go_guarded | go_step | go_upon | go_back)
  go_returns
  exact ⟨rfl, a', hI2, hR2, ha2, hU2⟩
end Go.Proofs.Ytdcebkilekdllaa
