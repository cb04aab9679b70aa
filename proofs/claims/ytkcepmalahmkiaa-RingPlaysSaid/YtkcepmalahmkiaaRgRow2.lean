/- Reading a script of ring calls that came in. -/
import Derived.Test.YtkcepmalahmkiaaRgPl
import Derived.Lib.SmallJoins
import Derived.Deep.Strs
namespace Go.Proofs.Ytkcepmalahmkiaa
open Go.ChangeShapes Go.WideShapes Go.RowKit
theorem list_3 {α : Type} {l : List α} (h : l.length = 3) : ∃ a b c, l = [a, b, c] := by
  match l, h with
  | [a, b, c], _ => exact ⟨a, b, c, rfl⟩
set_option maxRecDepth 100000 in
theorem open_rops {H : Type} {enc : TypeId × Value → H} {w : World} {base : Nat} {spare : Nat → Bool} {held : Bool} {r : Reach} {b0 : Nat} {v : Value} {d : DataW H} {ps : List MemPlace} (hval : Value.okWide Try.prog w r b0 60 v) (hd : DataW.Trod enc Try.prog w base spare held 60 v d ps) :
    ∃ (A : Option Addr) (n c : Nat) (L : List ROp), v = .slice A n c ∧ L.length = n ∧ n ≤ c ∧ c ≤ maxLen ∧ (A = none → n = 0) ∧ Rd w A (L.flatMap opc) ∧ ∀ q ∈ L, q.d < 256 ∧ q.t < 4294967296 := by
  refine open_structs 3 (by decide) opc (fun _ => rfl) (fun q => q.d < 256 ∧ q.t < 4294967296) Try.underlying60 (by kernel_rfl) (fun fuel cs x hf hl => ?_) hval hd
  obtain ⟨c0, c1, c2, rfl⟩ := list_3 hl
  obtain ⟨y0, y1, y2, n, -, -, t0, t1, t2⟩ := Go.Deep.trod_struct3 Try.underlying68 hf
  rw [show (([c0, c1, c2] : List Value).drop _).take _ = [c0] by first | kernel_rfl | rfl] at t0
  rw [show (([c0, c1, c2] : List Value).drop _).take _ = [c1] by first | kernel_rfl | rfl] at t1
  rw [show (([c0, c1, c2] : List Value).drop _).take _ = [c2] by first | kernel_rfl | rfl] at t2
  obtain ⟨i0, e0, -, wf0⟩ := DataW.trod_int Try.underlying5 t0
  obtain ⟨i1, e1, -, wf1⟩ := DataW.trod_int Try.underlying34 t1
  obtain ⟨i2, e2, -, wf2⟩ := DataW.trod_int Try.underlying2 t2
  obtain rfl : c0 = _ := by simpa using e0
  obtain rfl : c1 = _ := by simpa using e1
  obtain rfl : c2 = _ := by simpa using e2
  obtain ⟨n0, rfl, h0⟩ := nat_of_wf wf0 (by decide)
  obtain ⟨n1, rfl, h1⟩ := nat_of_wf wf1 (by decide)
  have hm8 : IntKind.u8.max = 255 := by decide
  have hm32 : IntKind.u32.max = 4294967295 := by decide
  exact ⟨⟨n0, n1, i2⟩, rfl, by dsimp only; omega, by dsimp only; omega⟩
end Go.Proofs.Ytkcepmalahmkiaa
