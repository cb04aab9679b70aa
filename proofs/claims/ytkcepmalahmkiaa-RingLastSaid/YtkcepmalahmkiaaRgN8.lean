/- A ring of int: Len: walked. -/
import Derived.Test.YtkcepmalahmkiaaRgN3
namespace Go.Proofs.Ytkcepmalahmkiaa
open Go.RowKit
theorem LenNilN (w : World) : Calls Try.prog 22 #[.pointer none] w fun e w' => e = .returned (.int .i64 0) ∧ w = w' := by
  go_enter Try.func22, Try.ntmps22
  go_wp2
  go_ret
  exact ⟨rfl, rfl⟩
theorem LenN {w : World} {g most : Nat} {v : Value} {xs : List (Rit Int)} (h : NRing w g v most xs) (n : Nat) (hn : xs.length = n) : Calls Try.prog 22 #[.pointer (some ⟨g, 0, none⟩)] w fun e w' => e = .returned (.int .i64 n) ∧ w = w' := by
  have k1 := h.c1
  obtain ⟨A, c, rfl, _⟩ := own_rd h.row
  rw [hn] at k1
  clear h hn
  go_enter Try.func22, Try.ntmps22
  go_wp2
  go_ret
  exact ⟨rfl, rfl⟩
end Go.Proofs.Ytkcepmalahmkiaa
