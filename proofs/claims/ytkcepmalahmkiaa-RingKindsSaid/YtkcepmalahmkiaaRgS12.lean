/- A ring of []pinnace/pinnacelaw08.Pair: Get in one; Ticks: walked. -/
import Derived.Test.YtkcepmalahmkiaaRgS4
namespace Go.Proofs.Ytkcepmalahmkiaa
open Go.RowKit
def valS (o : Option (Option Addr × Nat × Nat)) : Value := match o with | some x => (.slice x.1 x.2.1 x.2.2) | none => .slice none 0 0
theorem GetS_any {w : World} {g most : Nat} {v : Value} {xs : List (Rit (Option Addr × Nat × Nat))} (h : SRing w g v most xs) (hm : xs.length ≤ 4096) (t : Nat) :
    Calls Try.prog 13 #[.pointer (some ⟨g, 0, none⟩), .int .u32 t] w fun e w' => e = .returned (.tuple #[valS (found xs t), .bool (found xs t).isSome]) ∧ New w w' := by
  cases hf : found xs t with
  | none => exact GetNoS h hm t hf
  | some x => exact GetOkS h hm t x hf
end Go.Proofs.Ytkcepmalahmkiaa
