/- A ring of pinnace/pinnacelaw08.Pair: Put: all cases in one. -/
import Derived.Test.YtkcepmalahmkiaaRgP5
import Derived.Test.YtkcepmalahmkiaaRgP7
import Derived.Test.YtkcepmalahmkiaaRgPut
namespace Go.Proofs.Ytkcepmalahmkiaa
open Go.RowKit
theorem PutP_any {w : World} {g most : Nat} {v : Value} {xs : List (Rit (Int × Bool))} (h : PRing w g v most xs) (hm : xs.length ≤ most) (h1 : 1 ≤ most) (hmm : most ≤ 64) (t : Nat) (x : (Int × Bool)) (ht : t < 4294967296) :
    Calls Try.prog 10 #[.pointer (some ⟨g, 0, none⟩), .int .u32 t, (.agg #[.int .i32 x.1, .bool x.2])] w fun e w' => e = .returned (.int .i64 (putE xs t)) ∧ ∃ v', PRing w' g v' most (putL most xs t x) ∧ PWrote g v v' w w' := by
  by_cases hs : stale xs t = true
  · obtain ⟨l, hl, hlt⟩ := stale_yes hs
    rw [putE, if_pos hs, putL, if_pos hs]
    refine (PutStaleP h (by omega) l hl t x hlt).mono ?_
    rintro e w' ⟨rfl, hN⟩
    exact ⟨rfl, v, h.new hN, New.upd hN, fun b hb => .inl hb⟩
  · rw [putE, if_neg hs, putL, if_neg hs]
    have hup := rising_put h.up hs x
    by_cases hq : xs.length = most
    · rw [if_pos hq]
      exact PutFullP h hq h1 hmm t x ht hup
    · rw [if_neg hq]
      exact PutRoomP h (by omega) hmm t x ht hup
end Go.Proofs.Ytkcepmalahmkiaa
