/- The table of the lowest bits, out of the condition that the row lists. -/
import Derived.Test.YtefnpkmbjabcmaaDoorNt1
import Derived.LaidMore
import Derived.Lib.LaidTab
namespace Go.Proofs.YtefnpkmbjabcmaaDoor
open Go.RowKit
theorem tabL : (Rows.laid_math_bits_deBruijn32tab (H := Unit)) = Lib.tabData .u8 (Nt.tab.map fun n : Nat => (n : Int)) := rfl
theorem tab_of_laid {W : World} (h : laidMetH Tryd.prog [("math/bits.deBruijn32tab", Rows.laid_math_bits_deBruijn32tab)] W) : IsTab W := by
  rw [MakeChecks.laidMetH_plain _ _ _ (by kernel_rfl), tabL] at h
  have hg : Tryd.prog.globalNamed "math/bits.deBruijn32tab" = some 0 := by kernel_rfl
  have ht := Lib.tabIs_of_head (k := .u8) (e := 5) (n := 32) (t := 71) hg (by kernel_rfl) Tryd.underlying71 Tryd.underlying5 (by kernel_rfl) (by kernel_rfl) h
  refine ⟨fun k hk => ?_⟩
  have e := Nt.tab_at k hk
  have hlt := (List.getElem?_eq_some_iff.1 e).1
  have hc := ht.cell hg _ (by rw [List.length_map]; exact hlt)
  rw [hc, List.getD_eq_getElem?_getD, List.getElem?_map, e]
  rfl
end Go.Proofs.YtefnpkmbjabcmaaDoor
