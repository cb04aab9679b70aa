/- reading a region that came in. -/
import Derived.Test.YtohflgpkimnodaaVi1
import Derived.Lib.SmallJoins
import Derived.ChangeShapes
import Derived.WideShapes
import Derived.ChangeArms
namespace Go.Proofs.Ytohflgpkimnodaa
open Go.ChangeShapes Go.WideShapes

set_option maxRecDepth 100000 in
theorem open_reg {H : Type} {enc : TypeId × Value → H} {w : World} {base : Nat} {spare : Nat → Bool} {held : Bool} {r : Reach} {b0 : Nat} {v : Value} {d : DataW H} {ps : List MemPlace} (hval : Value.okWide Try.prog w r b0 23 v) (hd : DataW.Trod enc Try.prog w base spare held 23 v d ps) :
    ∃ g, v = regV g ∧ InW g := by
  obtain ⟨cs, rfl, hq4⟩ := okWide_struct Try.underlying23 hval
  have hq4' : cs.size = 4 := by rw [hq4]; kernel_rfl
  clear hq4 hval
  obtain ⟨c0, c1, c2, c3, rfl⟩ := Go.Joins.array4 hq4'
  obtain ⟨fuel, hf⟩ := hd
  obtain ⟨y0, y1, y2, y3, n, -, -, t0, t1, t2, t3⟩ := Go.Joins.trod_struct4 Try.underlying23 hf
  rw [show ((Value.agg #[c0, c1, c2, c3]).cells.toList.drop _).take _ = [c0] by first | kernel_rfl | rfl] at t0
  rw [show ((Value.agg #[c0, c1, c2, c3]).cells.toList.drop _).take _ = [c1] by first | kernel_rfl | rfl] at t1
  rw [show ((Value.agg #[c0, c1, c2, c3]).cells.toList.drop _).take _ = [c2] by first | kernel_rfl | rfl] at t2
  rw [show ((Value.agg #[c0, c1, c2, c3]).cells.toList.drop _).take _ = [c3] by first | kernel_rfl | rfl] at t3
  obtain ⟨i0, e0, -⟩ := DataW.trod_bool Try.underlying4 t0
  obtain ⟨i1, e1, -, wf1⟩ := DataW.trod_int Try.underlying3 t1
  obtain ⟨i2, e2, -, wf2⟩ := DataW.trod_int Try.underlying3 t2
  obtain ⟨i3, e3, -, wf3⟩ := DataW.trod_int Try.underlying3 t3
  obtain rfl : c0 = _ := by simpa using e0
  obtain rfl : c1 = _ := by simpa using e1
  obtain rfl : c2 = _ := by simpa using e2
  obtain rfl : c3 = _ := by simpa using e3
  have b : ∀ i, (Lit.int .i64 i).wf = true → -9223372036854775808 ≤ i ∧ i ≤ 9223372036854775807 := fun i h => by
    have h1 : IntKind.i64.max = 9223372036854775807 := by decide
    have h2 : IntKind.i64.min = -9223372036854775808 := by decide
    simp only [Lit.wf, IntKind.has, Bool.and_eq_true, decide_eq_true_eq] at h
    omega
  exact ⟨⟨i0, i1, i2, i3⟩, rfl, b _ wf1, b _ wf2, b _ wf3⟩
end Go.Proofs.Ytohflgpkimnodaa
