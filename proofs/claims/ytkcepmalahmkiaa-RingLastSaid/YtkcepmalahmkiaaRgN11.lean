/- A ring of int: Put: all cases in one. -/
import Derived.Test.YtkcepmalahmkiaaRgN5
import Derived.Test.YtkcepmalahmkiaaRgN7
import Derived.Test.YtkcepmalahmkiaaRgPut
namespace Go.Proofs.Ytkcepmalahmkiaa
open Go.RowKit
theorem PutN_any {w : World} {g most : Nat} {v : Value} {xs : List (Rit Int)} (h : NRing w g v most xs) (hm : xs.length ≤ most) (h1 : 1 ≤ most) (hmm : most ≤ 64) (t : Nat) (x : Int) (ht : t < 4294967296) :
    Calls Try.prog 20 #[.pointer (some ⟨g, 0, none⟩), .int .u32 t, (.int .i64 x)] w fun e w' => e = .returned (.int .i64 (putE xs t)) ∧ ∃ v', NRing w' g v' most (putL most xs t x) ∧ NWrote g v v' w w' := by
  by_cases hs : stale xs t = true
  · obtain ⟨l, hl, hlt⟩ := stale_yes hs
    rw [putE, if_pos hs, putL, if_pos hs]
    refine (PutStaleN h (by omega) l hl t x hlt).mono ?_
    rintro e w' ⟨rfl, hN⟩
    exact ⟨rfl, v, h.new hN, New.upd hN, fun b hb => .inl hb⟩
  · rw [putE, if_neg hs, putL, if_neg hs]
    have hup := rising_put h.up hs x
    by_cases hq : xs.length = most
    · rw [if_pos hq]
      exact PutFullN h hq h1 hmm t x ht hup
    · rw [if_neg hq]
      exact PutRoomN h (by omega) hmm t x ht hup
end Go.Proofs.Ytkcepmalahmkiaa
