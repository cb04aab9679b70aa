/- A ring of int64: Put: all cases in one. -/
import Derived.Test.YtkcepmalahmkiaaRgL5
import Derived.Test.YtkcepmalahmkiaaRgL7
import Derived.Test.YtkcepmalahmkiaaRgPut
namespace Go.Proofs.Ytkcepmalahmkiaa
open Go.RowKit
theorem PutL_any {w : World} {g most : Nat} {v : Value} {xs : List (Rit Int)} (h : LRing w g v most xs) (hm : xs.length ≤ most) (h1 : 1 ≤ most) (hmm : most ≤ 64) (t : Nat) (x : Int) (ht : t < 4294967296) :
    Calls Try.prog 25 #[.pointer (some ⟨g, 0, none⟩), .int .u32 t, (.int .i64 x)] w fun e w' => e = .returned (.int .i64 (putE xs t)) ∧ ∃ v', LRing w' g v' most (putL most xs t x) ∧ LWrote g v v' w w' := by
  by_cases hs : stale xs t = true
  · obtain ⟨l, hl, hlt⟩ := stale_yes hs
    rw [putE, if_pos hs, putL, if_pos hs]
    refine (PutStaleL h (by omega) l hl t x hlt).mono ?_
    rintro e w' ⟨rfl, hN⟩
    exact ⟨rfl, v, h.new hN, New.upd hN, fun b hb => .inl hb⟩
  · rw [putE, if_neg hs, putL, if_neg hs]
    have hup := rising_put h.up hs x
    by_cases hq : xs.length = most
    · rw [if_pos hq]
      exact PutFullL h hq h1 hmm t x ht hup
    · rw [if_neg hq]
      exact PutRoomL h (by omega) hmm t x ht hup
end Go.Proofs.Ytkcepmalahmkiaa
