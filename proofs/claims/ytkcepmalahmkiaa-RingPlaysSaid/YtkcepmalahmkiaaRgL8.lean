/- A ring of int64: Len: walked. -/
import Derived.Test.YtkcepmalahmkiaaRgL3
namespace Go.Proofs.Ytkcepmalahmkiaa
open Go.RowKit
theorem LenNilL (w : World) : Calls Try.prog 45 #[.pointer none] w fun e w' => e = .returned (.int .i64 0) ∧ w = w' := by
  go_enter Try.func45, Try.ntmps45
  go_wp2
  go_ret
  exact ⟨rfl, rfl⟩
theorem LenL {w : World} {g most : Nat} {v : Value} {xs : List (Rit Int)} (h : LRing w g v most xs) (n : Nat) (hn : xs.length = n) : Calls Try.prog 45 #[.pointer (some ⟨g, 0, none⟩)] w fun e w' => e = .returned (.int .i64 n) ∧ w = w' := by
  have k1 := h.c1
  obtain ⟨A, c, rfl, _⟩ := own_rd h.row
  rw [hn] at k1
  clear h hn
  go_enter Try.func45, Try.ntmps45
  go_wp2
  go_ret
  exact ⟨rfl, rfl⟩
end Go.Proofs.Ytkcepmalahmkiaa
