/- Reading a component that came in. -/
import Derived.Test.YtdnkdmdmekdfkaaSc6
import Derived.Lib.SmallJoins
import Derived.ChangeShapes
import Derived.WideShapes
import Derived.ChangeArms
import Derived.ChangeSame
import Derived.Laws.IdiomArrays
namespace Go.Proofs.Ytdnkdmdmekdfkaa
open Go.ChangeShapes Go.WideShapes Go.RowKit

theorem bd32 (i : Int) (h : (Lit.int .i32 i).wf = true) : -2147483648 ≤ i ∧ i ≤ 2147483647 := by
  have h1 : IntKind.i32.max = 2147483647 := by decide
  have h2 : IntKind.i32.min = -2147483648 := by decide
  simp only [Lit.wf, IntKind.has, Bool.and_eq_true, decide_eq_true_eq] at h
  omega
/-- what the four cells of a component are -/
theorem comp_cells {H : Type} {enc : TypeId × Value → H} {w : World} {base : Nat} {spare : Nat → Bool} {held : Bool} {fuel : Nat} {c0 c1 c2 c3 : Value} {x : DataW H × List MemPlace} (hf : DataW.trod enc Try.prog w base spare held fuel 46 [c0, c1, c2, c3] = some x) :
    ∃ (k : Nat) (a b c : Int), k < 256 ∧ c0 = .int .u8 k ∧ c1 = .int .i32 a ∧ c2 = .int .i32 b ∧ c3 = .int .i32 c ∧ (-2147483648 ≤ a ∧ a ≤ 2147483647) ∧ (-2147483648 ≤ b ∧ b ≤ 2147483647) ∧ (-2147483648 ≤ c ∧ c ≤ 2147483647) := by
  obtain ⟨y0, y1, n, -, -, t0, t1⟩ := trod_struct2 Try.underlying46 hf
  rw [show (([c0, c1, c2, c3] : List Value).drop _).take _ = [c0] by first | kernel_rfl | rfl] at t0
  rw [show (([c0, c1, c2, c3] : List Value).drop _).take _ = [c1, c2, c3] by first | kernel_rfl | rfl] at t1
  obtain ⟨i0, e0, -, wf0⟩ := DataW.trod_int Try.underlying5 t0
  obtain ⟨z0, z1, z2, m, -, u0, u1, u2⟩ := trod_array3 Try.underlying44 (by kernel_rfl) t1
  obtain ⟨i1, e1, -, wf1⟩ := DataW.trod_int Try.underlying21 u0
  obtain ⟨i2, e2, -, wf2⟩ := DataW.trod_int Try.underlying21 u1
  obtain ⟨i3, e3, -, wf3⟩ := DataW.trod_int Try.underlying21 u2
  obtain rfl : c0 = _ := by simpa using e0
  obtain rfl : c1 = _ := by simpa using e1
  obtain rfl : c2 = _ := by simpa using e2
  obtain rfl : c3 = _ := by simpa using e3
  obtain ⟨b, rfl⟩ := bv8_of_wf wf0
  exact ⟨b.toNat, i1, i2, i3, b.isLt, rfl, rfl, rfl, rfl, bd32 _ wf1, bd32 _ wf2, bd32 _ wf3⟩

set_option maxRecDepth 100000 in
theorem open_comp {H : Type} {enc : TypeId × Value → H} {w : World} {base : Nat} {spare : Nat → Bool} {held : Bool} {r : Reach} {b0 : Nat} {v : Value} {d : DataW H} {ps : List MemPlace} (hval : Value.okWide Try.prog w r b0 46 v) (hd : DataW.Trod enc Try.prog w base spare held 46 v d ps) :
    ∃ (k : Nat) (a b c : Int), v = .agg #[.int .u8 k, .int .i32 a, .int .i32 b, .int .i32 c] ∧ k < 256 := by
  obtain ⟨cs, rfl, hq4⟩ := okWide_struct Try.underlying46 hval
  have hq4' : cs.size = 4 := by rw [hq4]; kernel_rfl
  clear hq4 hval
  obtain ⟨c0, c1, c2, c3, rfl⟩ := Go.Joins.array4 hq4'
  obtain ⟨fuel, hf⟩ := hd
  obtain ⟨k, a, b, c, hk, rfl, rfl, rfl, rfl, -⟩ := comp_cells (c0 := c0) (c1 := c1) (c2 := c2) (c3 := c3) hf
  exact ⟨k, a, b, c, rfl, hk⟩
end Go.Proofs.Ytdnkdmdmekdfkaa
