/- Reading a list of spots that came in. -/
import Derived.Test.YtohflgpkimnodaaRf1
import Derived.Lib.SmallJoins
import Derived.Deep.Strs
namespace Go.Proofs.Ytohflgpkimnodaa
open Go.ChangeShapes Go.WideShapes Go.RowKit
set_option maxRecDepth 100000 in
theorem open_spots {H : Type} {enc : TypeId × Value → H} {w : World} {base : Nat} {spare : Nat → Bool} {held : Bool} {r : Reach} {b0 : Nat} {v : Value} {d : DataW H} {ps : List MemPlace} (hval : Value.okWide Try.prog w r b0 34 v) (hd : DataW.Trod enc Try.prog w base spare held 34 v d ps) :
    ∃ (A : Option Addr) (n c : Nat) (L : List SpQ), v = .slice A n c ∧ L.length = n ∧ n ≤ c ∧ c ≤ maxLen ∧ (A = none → n = 0) ∧ Rd w A (spots L) ∧ ∀ q ∈ L, spOk q := by
  refine open_structs 3 (by decide) spC (fun _ => rfl) spOk Try.underlying34 (by kernel_rfl) (fun fuel cs x hf hl => ?_) hval hd
  obtain ⟨c0, c1, c2, rfl⟩ : ∃ a b c, cs = [a, b, c] := by
    match cs, hl with
    | [a, b, c], _ => exact ⟨a, b, c, rfl⟩
  obtain ⟨y0, y1, y2, n, -, -, t0, t1, t2⟩ := Go.Deep.trod_struct3 Try.underlying40 hf
  rw [show (([c0, c1, c2] : List Value).drop _).take _ = [c0] by first | kernel_rfl | rfl] at t0
  rw [show (([c0, c1, c2] : List Value).drop _).take _ = [c1] by first | kernel_rfl | rfl] at t1
  rw [show (([c0, c1, c2] : List Value).drop _).take _ = [c2] by first | kernel_rfl | rfl] at t2
  obtain ⟨i1, e1, -, wf1⟩ := DataW.trod_int Try.underlying38 t0
  obtain ⟨i2, e2, -, wf2⟩ := DataW.trod_int Try.underlying21 t1
  obtain ⟨i3, e3, -, wf3⟩ := DataW.trod_int Try.underlying21 t2
  obtain rfl : c0 = _ := by simpa using e1
  obtain rfl : c1 = _ := by simpa using e2
  obtain rfl : c2 = _ := by simpa using e3
  obtain ⟨n1, rfl, h1⟩ := nat_of_wf wf1 (by decide)
  have m1 : IntKind.u32.max = 4294967295 := by decide
  have m2 : IntKind.i32.max = 2147483647 := by decide
  have m3 : IntKind.i32.min = -2147483648 := by decide
  simp only [Lit.wf, IntKind.has, Bool.and_eq_true, decide_eq_true_eq] at wf2 wf3
  exact ⟨(n1, i2, i3), rfl, by simp only; omega, by simp only; omega, by simp only; omega⟩
end Go.Proofs.Ytohflgpkimnodaa
