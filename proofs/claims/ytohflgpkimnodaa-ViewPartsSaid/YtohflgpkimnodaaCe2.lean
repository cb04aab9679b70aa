/- The maps of a grid: keys and elements. -/
import Derived.Test.YtohflgpkimnodaaCe1
import Derived.Maps.OwnSet
import Derived.Maps.Views
import Derived.DeepKeys4
namespace Go.Proofs.Ytohflgpkimnodaa
open Go.RowKit Go.Maps
theorem key_of_two {P : Program} {k e : TypeId} {f g : Field} (hu : P.underlying k = some (.struct #[f, g])) (he : P.underlying e = some (.int .i64)) (hf : f.type = e) (hg : g.type = e) (fo : f.offset = 0) (go : g.offset = 1) (fn : f.name ≠ "_") (gn : g.name ≠ "_")
    (hc : P.cellsOf k = 2) (hce : P.cellsOf e = 1) (hk : P.keyType k = true) (hn : 1 ≤ P.types.size) (x y : Int) (hx : (Lit.int .i64 x).wf = true) (hy : (Lit.int .i64 y).wf = true) : (keyOf P k (.agg #[.int .i64 x, .int .i64 y])).isSome = true := by
  obtain ⟨n, hn⟩ : ∃ n, P.types.size = n + 1 := ⟨P.types.size - 1, by omega⟩
  simp [keyOf, hu, hk, Value.formed, hc, hn, Program.keyLits, Value.cells, hf, hg, fo, go, fn, gn, hce, he, hx, hy]
theorem ceLaid : laidOutB Try.prog = true := by kernel_rfl
theorem idLaw : Keyed Try.prog 38 := int_keyed Try.underlying38
theorem spotRow : (68 : TypeId) < Try.prog.types.size := of_decide_eq_true (by kernel_rfl)
theorem spotDeep : Try.prog.keyTypeAt 2 68 = true := by kernel_rfl
set_option maxRecDepth 100000 in
theorem spotLaw : Keyed Try.prog 68 := Keyed.of_law (deep_law_laid ceLaid (m := 2) (by omega) spotRow spotDeep (by kernel_rfl))
def spotV (s : Int × Int) : Value := .agg #[.int .i64 s.1, .int .i64 s.2]
def spotElem : Value → Option (DataW Unit × List MemPlace)
  | .agg cs => (match cs.toList with
    | [.int .i64 x, .int .i64 y] => some (.agg [.lit (.int .i64 x), .lit (.int .i64 y)], [])
    | _ => none)
  | _ => none
def setElem : Value → Option (DataW Unit × List MemPlace)
  | .map (some b) => some (.lit (.int .u64 b), [])
  | .map none => some (.nil, [])
  | _ => none
def inI64 (x : Int) : Prop := -9223372036854775808 ≤ x ∧ x ≤ 9223372036854775807
theorem wf64 (x : Int) (h : inI64 x) : (Lit.int .i64 x).wf = true := by
  have h1 : IntKind.i64.max = 9223372036854775807 := by decide
  have h2 : IntKind.i64.min = -9223372036854775808 := by decide
  unfold inI64 at h
  simp only [Lit.wf, IntKind.has, Bool.and_eq_true, decide_eq_true_eq]
  omega
open Classical in
noncomputable def spotKey (s : Int × Int) : Lit := if h : ∃ l, keyOf Try.prog 68 (spotV s) = some l then Classical.choose h else .bool false
theorem spotKey_of (s : Int × Int) (h1 : inI64 s.1) (h2 : inI64 s.2) : keyOf Try.prog 68 (spotV s) = some (spotKey s) := by
  have hh := key_of_two Try.underlying68 Try.underlying3 rfl rfl rfl rfl (by decide) (by decide) (by kernel_rfl) (by kernel_rfl) (by kernel_rfl) (of_decide_eq_true (by kernel_rfl)) s.1 s.2 (wf64 _ h1) (wf64 _ h2)
  have h : ∃ l, keyOf Try.prog 68 (spotV s) = some l := Option.isSome_iff_exists.1 hh
  unfold spotKey
  rw [dif_pos h]
  exact Classical.choose_spec h
theorem spotKey_inj (s t : Int × Int) (h1 : inI64 s.1) (h2 : inI64 s.2) (h3 : inI64 t.1) (h4 : inI64 t.2) (h : spotKey s = spotKey t) : s = t := by
  have := spotLaw.inj (spotKey_of s h1 h2) ((spotKey_of t h3 h4).trans (congrArg some h.symm))
  simp only [spotV, Value.agg.injEq, Array.mk.injEq, List.cons.injEq, Value.int.injEq, true_and, and_true] at this
  exact Prod.ext this.1 this.2
def idKey (i : Nat) : Lit := .int .u32 i
theorem idKey_of (i : Nat) (h : i < 4294967296) : keyOf Try.prog 38 (.int .u32 i) = some (idKey i) := by
  refine keyOf_int_mk Try.underlying38 ?_
  have h1 : IntKind.u32.max = 4294967295 := by decide
  have h2 : IntKind.u32.min = 0 := by decide
  simp only [Lit.wf, IntKind.has, Bool.and_eq_true, decide_eq_true_eq]
  omega
theorem idKey_inj (i j : Nat) (h : idKey i = idKey j) : i = j := by simp [idKey] at h; omega
end Go.Proofs.Ytohflgpkimnodaa
