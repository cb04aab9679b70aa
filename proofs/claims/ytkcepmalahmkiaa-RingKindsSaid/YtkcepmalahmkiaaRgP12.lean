/- A ring of pinnace/pinnacelaw08.Pair: Get in one; Ticks: walked. -/
import Derived.Test.YtkcepmalahmkiaaRgP4
namespace Go.Proofs.Ytkcepmalahmkiaa
open Go.RowKit
def valP (o : Option (Int × Bool)) : Value := match o with | some x => (.agg #[.int .i32 x.1, .bool x.2]) | none => .agg #[.int .i32 0, .bool false]
theorem GetP_any {w : World} {g most : Nat} {v : Value} {xs : List (Rit (Int × Bool))} (h : PRing w g v most xs) (hm : xs.length ≤ 4096) (t : Nat) :
    Calls Try.prog 12 #[.pointer (some ⟨g, 0, none⟩), .int .u32 t] w fun e w' => e = .returned (.tuple #[valP (found xs t), .bool (found xs t).isSome]) ∧ New w w' := by
  cases hf : found xs t with
  | none => exact GetNoP h hm t hf
  | some x => exact GetOkP h hm t x hf
end Go.Proofs.Ytkcepmalahmkiaa
