/- A ring of int64: New, Get: walked. -/
import Derived.Test.YtkcepmalahmkiaaRgL2
namespace Go.Proofs.Ytkcepmalahmkiaa
open Go.RowKit
theorem NewL_any (n : Int) (w : World) (h1 : -9223372036854775808 ≤ n) (h2 : n ≤ 9223372036854775807) :
    Calls Try.prog 23 #[.int .i64 n] w fun e w' => if n < 1 ∨ n > 64 then e = .returned (.tuple #[.pointer none, .int .i64 1]) ∧ w' = w else
      e = .returned (.tuple #[.pointer (some ⟨w.heap.size, 0, none⟩), .int .i64 0]) ∧ New w w' ∧ LRing w' w.heap.size (.slice none 0 0) n.toNat [] := by
  by_cases hn : n < 1 ∨ n > 64
  · simp only [if_pos hn]
    by_cases h : n < 1
    · clear hn
      go_enter Try.func23, Try.ntmps23
      go_wp2
      go_returns
      exact ⟨rfl, rfl⟩
    · have hg : 64 < n := by omega
      clear hn
      go_enter Try.func23, Try.ntmps23
      go_wp2
      go_returns
      exact ⟨rfl, rfl⟩
  · simp only [if_neg hn]
    obtain ⟨m, rfl⟩ := Int.eq_ofNat_of_zero_le (show 0 ≤ n by omega)
    have e1 : ¬ (m : Int) < 1 := by omega
    have e2 : ¬ (64 : Int) < (m : Int) := by omega
    clear hn
    go_enter Try.func23, Try.ntmps23
    go_wp2
    go_returns
    exact ⟨rfl, (Upd.refl _ _).alloc _, ⟨heap_alloc_new _ _, World.ownsRow_nil _ _ _ _, List.Pairwise.nil, fun x hx => by cases hx⟩⟩
end Go.Proofs.Ytkcepmalahmkiaa
