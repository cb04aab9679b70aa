/- A ring of int: Get in one; Ticks: walked. -/
import Derived.Test.YtkcepmalahmkiaaRgN4
namespace Go.Proofs.Ytkcepmalahmkiaa
open Go.RowKit
def valN (o : Option Int) : Value := match o with | some x => (.int .i64 x) | none => .int .i64 0
theorem GetN_any {w : World} {g most : Nat} {v : Value} {xs : List (Rit Int)} (h : NRing w g v most xs) (hm : xs.length ≤ 4096) (t : Nat) :
    Calls Try.prog 21 #[.pointer (some ⟨g, 0, none⟩), .int .u32 t] w fun e w' => e = .returned (.tuple #[valN (found xs t), .bool (found xs t).isSome]) ∧ New w w' := by
  cases hf : found xs t with
  | none => exact GetNoN h hm t hf
  | some x => exact GetOkN h hm t x hf
end Go.Proofs.Ytkcepmalahmkiaa
