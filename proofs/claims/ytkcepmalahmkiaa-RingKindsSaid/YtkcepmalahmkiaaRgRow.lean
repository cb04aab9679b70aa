/- Reading a slice of pairs that came in. -/
import Derived.Test.YtkcepmalahmkiaaSlRow
import Derived.Test.YtkcepmalahmkiaaRgK
import Derived.Lib.SmallJoins
namespace Go.Proofs.Ytkcepmalahmkiaa
open Go.ChangeShapes Go.WideShapes Go.RowKit
theorem list_2 {α : Type} {l : List α} (h : l.length = 2) : ∃ a b, l = [a, b] := by
  match l, h with
  | [a, b], _ => exact ⟨a, b, rfl⟩
set_option maxRecDepth 100000 in
theorem open_pairs {H : Type} {enc : TypeId × Value → H} {w : World} {base : Nat} {spare : Nat → Bool} {held : Bool} {r : Reach} {b0 : Nat} {v : Value} {d : DataW H} {ps : List MemPlace} (hval : Value.okWide Try.prog w r b0 23 v) (hd : DataW.Trod enc Try.prog w base spare held 23 v d ps) :
    ∃ (A : Option Addr) (n c : Nat) (L : List (Int × Bool)), v = .slice A n c ∧ L.length = n ∧ n ≤ c ∧ c ≤ maxLen ∧ (A = none → n = 0) ∧ Rd w A (prs L) ∧ ∀ q ∈ L, True := by
  refine open_structs 2 (by decide) (fun q : Int × Bool => [.int .i32 q.1, .bool q.2]) (fun _ => rfl) (fun _ => True) Try.underlying23 (by kernel_rfl) (fun fuel cs x hf hl => ?_) hval hd
  obtain ⟨c0, c1, rfl⟩ := list_2 hl
  obtain ⟨y0, y1, n, -, -, t0, t1⟩ := trod_struct2 Try.underlying30 hf
  rw [show (([c0, c1] : List Value).drop _).take _ = [c0] by first | kernel_rfl | rfl] at t0
  rw [show (([c0, c1] : List Value).drop _).take _ = [c1] by first | kernel_rfl | rfl] at t1
  obtain ⟨i0, e0, -, wf0⟩ := DataW.trod_int Try.underlying21 t0
  obtain ⟨i1, e1, -⟩ := DataW.trod_bool Try.underlying4 t1
  obtain rfl : c0 = _ := by simpa using e0
  obtain rfl : c1 = _ := by simpa using e1
  exact ⟨(i0, i1), rfl, trivial⟩
end Go.Proofs.Ytkcepmalahmkiaa
