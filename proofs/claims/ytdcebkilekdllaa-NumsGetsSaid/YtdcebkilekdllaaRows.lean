/-
  No cell of these rows narrows 'for every input' (looked for: loops, veiled, ifaces, maps, wideKeys, modest, calm, conditions, laid).
  DERIVED. THE GIVEN ROWS OF THIS SEAT. 8 by the template 'for every input the law returns true; each argument reads behind the call as it read before'; 0 by the template 'total and deterministic' (their statements: YtdcebkilekdllaaTotals.lean).
  GIVEN WITH THE SEED: the statements are not yours to turn. If you find one false, say at which input.
  Laid BY PROGRAM, IN A SANDBOX (cutbox-rows.mjs): the forced cells as the released guide's own fill.sh prints them over the translation 773643b1cbd08a64… (all of the seat's roots in one cut). By AI agents, Wed Nov 11 2026. No macro, syntax, notation, axiom, sorry.
-/
import Derived.Test.YtdcebkilekdllaaChecked
import GoSem.Claim
import GoSem.ClaimJoined
import GoSem.ClaimMapViews
import Derived.JoinedTies
import Derived.KernelRfl
namespace Go.Proofs.Ytdcebkilekdllaa
/- THE CELL 'sum', in the pinned program and in every row, IS THE sha256 OF THE DUMP (.gsa) THAT YtdcebkilekdllaaProg.lean LOADS. Nothing in Lean hashes anything: it is a label: what it is worth is what the hold of that sum in a sandbox is worth. -/
noncomputable def Try.pinned : Pinned := { name := "ytdcebkilekdllaa", sum := "773643b1cbd08a6465b126f57580656973a40d845427199834b124227b68e492", checked := Try.checked }
namespace Rows
def none {H : Type} : Left H := { results := [], args := [] }

/-- 'pinnacelaw02.NumsWidths': WHATEVER THE INPUT: true; the input reads as it did. -/
def numsWidthsSpec : ChangeSpec := { name := "numsWidths", fn := fun _ => fun
  | [d1, d2, d3] => { results := [.lit (.bool true)], args := [d1, d2, d3] }
  | _ => none }
def numsWidthsRow : OpenClaim := { program := "ytdcebkilekdllaa", sum := "773643b1cbd08a6465b126f57580656973a40d845427199834b124227b68e492", func := "pinnace/pinnacelaw02.NumsWidths", spec := "numsWidths", apart := false }
def NumsWidthsSaid : Prop := numsWidthsRow.holds Try.pinned (OpenSpec.ofChange numsWidthsSpec)

/-- ITS FALSE NEIGHBOUR: 'it returns false'. Refute it at one input. -/
def numsWidthsWrong : ChangeSpec := { name := "numsWidths", fn := fun _ => fun
  | [d1, d2, d3] => { results := [.lit (.bool false)], args := [d1, d2, d3] }
  | _ => none }
def NumsWidthsWrongFalsely : Prop := numsWidthsRow.holds Try.pinned (OpenSpec.ofChange numsWidthsWrong)

/-- 'pinnacelaw02.NumsSigns': WHATEVER THE INPUT: true; the input reads as it did. -/
def numsSignsSpec : ChangeSpec := { name := "numsSigns", fn := fun _ => fun
  | [d1, d2, d3] => { results := [.lit (.bool true)], args := [d1, d2, d3] }
  | _ => none }
def numsSignsRow : OpenClaim := { program := "ytdcebkilekdllaa", sum := "773643b1cbd08a6465b126f57580656973a40d845427199834b124227b68e492", func := "pinnace/pinnacelaw02.NumsSigns", spec := "numsSigns", apart := false }
def NumsSignsSaid : Prop := numsSignsRow.holds Try.pinned (OpenSpec.ofChange numsSignsSpec)

/-- ITS FALSE NEIGHBOUR: 'it returns false'. Refute it at one input. -/
def numsSignsWrong : ChangeSpec := { name := "numsSigns", fn := fun _ => fun
  | [d1, d2, d3] => { results := [.lit (.bool false)], args := [d1, d2, d3] }
  | _ => none }
def NumsSignsWrongFalsely : Prop := numsSignsRow.holds Try.pinned (OpenSpec.ofChange numsSignsWrong)

/-- 'pinnacelaw02.NumsRanges': WHATEVER THE INPUT: true; the input reads as it did. -/
def numsRangesSpec : ChangeSpec := { name := "numsRanges", fn := fun _ => fun
  | [d1, d2, d3, d4] => { results := [.lit (.bool true)], args := [d1, d2, d3, d4] }
  | _ => none }
def numsRangesRow : OpenClaim := { program := "ytdcebkilekdllaa", sum := "773643b1cbd08a6465b126f57580656973a40d845427199834b124227b68e492", func := "pinnace/pinnacelaw02.NumsRanges", spec := "numsRanges", apart := false }
def NumsRangesSaid : Prop := numsRangesRow.holds Try.pinned (OpenSpec.ofChange numsRangesSpec)

/-- ITS FALSE NEIGHBOUR: 'it returns false'. Refute it at one input. -/
def numsRangesWrong : ChangeSpec := { name := "numsRanges", fn := fun _ => fun
  | [d1, d2, d3, d4] => { results := [.lit (.bool false)], args := [d1, d2, d3, d4] }
  | _ => none }
def NumsRangesWrongFalsely : Prop := numsRangesRow.holds Try.pinned (OpenSpec.ofChange numsRangesWrong)

/-- 'pinnacelaw02.NumsIns': WHATEVER THE INPUT: true; the input reads as it did. -/
def numsInsSpec : ChangeSpec := { name := "numsIns", fn := fun _ => fun
  | [d1, d2, d3, d4] => { results := [.lit (.bool true)], args := [d1, d2, d3, d4] }
  | _ => none }
def numsInsRow : OpenClaim := { program := "ytdcebkilekdllaa", sum := "773643b1cbd08a6465b126f57580656973a40d845427199834b124227b68e492", func := "pinnace/pinnacelaw02.NumsIns", spec := "numsIns", unfollowed := true, recurses := true, apart := false }
def NumsInsSaid : Prop := numsInsRow.holds Try.pinned (OpenSpec.ofChange numsInsSpec)

/-- ITS FALSE NEIGHBOUR: 'it returns false'. Refute it at one input. -/
def numsInsWrong : ChangeSpec := { name := "numsIns", fn := fun _ => fun
  | [d1, d2, d3, d4] => { results := [.lit (.bool false)], args := [d1, d2, d3, d4] }
  | _ => none }
def NumsInsWrongFalsely : Prop := numsInsRow.holds Try.pinned (OpenSpec.ofChange numsInsWrong)

/-- 'pinnacelaw02.NumsGets': WHATEVER THE INPUT: true; the input reads as it did. -/
def numsGetsSpec : ChangeSpec := { name := "numsGets", fn := fun _ => fun
  | [d1, d2, d3] => { results := [.lit (.bool true)], args := [d1, d2, d3] }
  | _ => none }
def numsGetsRow : OpenClaim := { program := "ytdcebkilekdllaa", sum := "773643b1cbd08a6465b126f57580656973a40d845427199834b124227b68e492", func := "pinnace/pinnacelaw02.NumsGets", spec := "numsGets", unfollowed := true, recurses := true, apart := false }
def NumsGetsSaid : Prop := numsGetsRow.holds Try.pinned (OpenSpec.ofChange numsGetsSpec)

/-- ITS FALSE NEIGHBOUR: 'it returns false'. Refute it at one input. -/
def numsGetsWrong : ChangeSpec := { name := "numsGets", fn := fun _ => fun
  | [d1, d2, d3] => { results := [.lit (.bool false)], args := [d1, d2, d3] }
  | _ => none }
def NumsGetsWrongFalsely : Prop := numsGetsRow.holds Try.pinned (OpenSpec.ofChange numsGetsWrong)

/-- 'pinnacelaw02.NumsVars': WHATEVER THE INPUT: true; the input reads as it did. -/
def numsVarsSpec : ChangeSpec := { name := "numsVars", fn := fun _ => fun
  | [d1, d2, d3] => { results := [.lit (.bool true)], args := [d1, d2, d3] }
  | _ => none }
def numsVarsRow : OpenClaim := { program := "ytdcebkilekdllaa", sum := "773643b1cbd08a6465b126f57580656973a40d845427199834b124227b68e492", func := "pinnace/pinnacelaw02.NumsVars", spec := "numsVars", unfollowed := true, recurses := true, apart := false }
def NumsVarsSaid : Prop := numsVarsRow.holds Try.pinned (OpenSpec.ofChange numsVarsSpec)

/-- ITS FALSE NEIGHBOUR: 'it returns false'. Refute it at one input. -/
def numsVarsWrong : ChangeSpec := { name := "numsVars", fn := fun _ => fun
  | [d1, d2, d3] => { results := [.lit (.bool false)], args := [d1, d2, d3] }
  | _ => none }
def NumsVarsWrongFalsely : Prop := numsVarsRow.holds Try.pinned (OpenSpec.ofChange numsVarsWrong)

/-- 'pinnacelaw02.NumsRows': WHATEVER THE INPUT: true; the input reads as it did. -/
def numsRowsSpec : ChangeSpec := { name := "numsRows", fn := fun _ => fun
  | [d1, d2] => { results := [.lit (.bool true)], args := [d1, d2] }
  | _ => none }
def numsRowsRow : OpenClaim := { program := "ytdcebkilekdllaa", sum := "773643b1cbd08a6465b126f57580656973a40d845427199834b124227b68e492", func := "pinnace/pinnacelaw02.NumsRows", spec := "numsRows", unfollowed := true, recurses := true, apart := false }
def NumsRowsSaid : Prop := numsRowsRow.holds Try.pinned (OpenSpec.ofChange numsRowsSpec)

/-- ITS FALSE NEIGHBOUR: 'it returns false'. Refute it at one input. -/
def numsRowsWrong : ChangeSpec := { name := "numsRows", fn := fun _ => fun
  | [d1, d2] => { results := [.lit (.bool false)], args := [d1, d2] }
  | _ => none }
def NumsRowsWrongFalsely : Prop := numsRowsRow.holds Try.pinned (OpenSpec.ofChange numsRowsWrong)

/-- 'pinnacelaw02.NumsNil': WHATEVER THE INPUT: true; the input reads as it did. -/
def numsNilSpec : ChangeSpec := { name := "numsNil", fn := fun _ => fun
  | [d1, d2, d3, d4] => { results := [.lit (.bool true)], args := [d1, d2, d3, d4] }
  | _ => none }
def numsNilRow : OpenClaim := { program := "ytdcebkilekdllaa", sum := "773643b1cbd08a6465b126f57580656973a40d845427199834b124227b68e492", func := "pinnace/pinnacelaw02.NumsNil", spec := "numsNil", unfollowed := true, recurses := true, apart := false }
def NumsNilSaid : Prop := numsNilRow.holds Try.pinned (OpenSpec.ofChange numsNilSpec)

/-- ITS FALSE NEIGHBOUR: 'it returns false'. Refute it at one input. -/
def numsNilWrong : ChangeSpec := { name := "numsNil", fn := fun _ => fun
  | [d1, d2, d3, d4] => { results := [.lit (.bool false)], args := [d1, d2, d3, d4] }
  | _ => none }
def NumsNilWrongFalsely : Prop := numsNilRow.holds Try.pinned (OpenSpec.ofChange numsNilWrong)

/- THE SECOND FORM. 'bulk': how many values and letters a reading holds, each counted each time it is reached (what is shared counts as often as it is met; a slice's spare places count too). A statement '..UptoSaid' is the law's where the arguments, and the package variables that the reading takes, are together of bulk at most 1048576: NARROWER than '..Said'. Prove '..Said' where nothing that the law and all that it calls make is longer than what came in: it says more and counts as full. Else prove '..UptoSaid'. A law counts once. -/
mutual
def uptoBulk {H : Type} : DataW H → Nat
  | .lit (.string bytes) => bytes.length + 1
  | .lit _ => 1
  | .nil => 1
  | .ptr d => uptoBulk d + 1
  | .slice elems spare => uptoBulkAll elems + uptoBulkAll spare + 1
  | .agg parts => uptoBulkAll parts + 1
  | .iface _ d => uptoBulk d + 1
  | .map entries => uptoBulkEntries entries + 1
  | .held _ => 1
def uptoBulkAll {H : Type} : List (DataW H) → Nat
  | [] => 0
  | d :: r => uptoBulk d + uptoBulkAll r
def uptoBulkEntries {H : Type} : List (Lit × DataW H) → Nat
  | [] => 0
  | x :: r => uptoBulkEntry x + uptoBulkEntries r
def uptoBulkEntry {H : Type} : Lit × DataW H → Nat
  | (.string bytes, d) => bytes.length + uptoBulk d + 1
  | (_, d) => uptoBulk d + 1
 end
def uptoSmall : (H : Type) → List (DataW H) → Bool := fun _ ds => decide (uptoBulkAll ds ≤ 1048576)
def OpenSpec.upto (s : _root_.Go.ChangeSpec) : _root_.Go.OpenSpec := { _root_.Go.OpenSpec.ofChange s with cond := some uptoSmall }

/-- 'pinnacelaw02.NumsWidths', WHERE WHAT IT READS IS OF BULK AT MOST 1048576: true; the input reads as it did. -/
def numsWidthsUptoRow : OpenClaim := { program := "ytdcebkilekdllaa", sum := "773643b1cbd08a6465b126f57580656973a40d845427199834b124227b68e492", func := "pinnace/pinnacelaw02.NumsWidths", spec := "numsWidths", apart := false, narrowed := true }
def NumsWidthsUptoSaid : Prop := numsWidthsUptoRow.holds Try.pinned (OpenSpec.upto numsWidthsSpec)

/-- 'pinnacelaw02.NumsSigns', WHERE WHAT IT READS IS OF BULK AT MOST 1048576: true; the input reads as it did. -/
def numsSignsUptoRow : OpenClaim := { program := "ytdcebkilekdllaa", sum := "773643b1cbd08a6465b126f57580656973a40d845427199834b124227b68e492", func := "pinnace/pinnacelaw02.NumsSigns", spec := "numsSigns", apart := false, narrowed := true }
def NumsSignsUptoSaid : Prop := numsSignsUptoRow.holds Try.pinned (OpenSpec.upto numsSignsSpec)

/-- 'pinnacelaw02.NumsRanges', WHERE WHAT IT READS IS OF BULK AT MOST 1048576: true; the input reads as it did. -/
def numsRangesUptoRow : OpenClaim := { program := "ytdcebkilekdllaa", sum := "773643b1cbd08a6465b126f57580656973a40d845427199834b124227b68e492", func := "pinnace/pinnacelaw02.NumsRanges", spec := "numsRanges", apart := false, narrowed := true }
def NumsRangesUptoSaid : Prop := numsRangesUptoRow.holds Try.pinned (OpenSpec.upto numsRangesSpec)

/-- 'pinnacelaw02.NumsIns', WHERE WHAT IT READS IS OF BULK AT MOST 1048576: true; the input reads as it did. -/
def numsInsUptoRow : OpenClaim := { program := "ytdcebkilekdllaa", sum := "773643b1cbd08a6465b126f57580656973a40d845427199834b124227b68e492", func := "pinnace/pinnacelaw02.NumsIns", spec := "numsIns", unfollowed := true, recurses := true, apart := false, narrowed := true }
def NumsInsUptoSaid : Prop := numsInsUptoRow.holds Try.pinned (OpenSpec.upto numsInsSpec)

/-- 'pinnacelaw02.NumsGets', WHERE WHAT IT READS IS OF BULK AT MOST 1048576: true; the input reads as it did. -/
def numsGetsUptoRow : OpenClaim := { program := "ytdcebkilekdllaa", sum := "773643b1cbd08a6465b126f57580656973a40d845427199834b124227b68e492", func := "pinnace/pinnacelaw02.NumsGets", spec := "numsGets", unfollowed := true, recurses := true, apart := false, narrowed := true }
def NumsGetsUptoSaid : Prop := numsGetsUptoRow.holds Try.pinned (OpenSpec.upto numsGetsSpec)

/-- 'pinnacelaw02.NumsVars', WHERE WHAT IT READS IS OF BULK AT MOST 1048576: true; the input reads as it did. -/
def numsVarsUptoRow : OpenClaim := { program := "ytdcebkilekdllaa", sum := "773643b1cbd08a6465b126f57580656973a40d845427199834b124227b68e492", func := "pinnace/pinnacelaw02.NumsVars", spec := "numsVars", unfollowed := true, recurses := true, apart := false, narrowed := true }
def NumsVarsUptoSaid : Prop := numsVarsUptoRow.holds Try.pinned (OpenSpec.upto numsVarsSpec)

/-- 'pinnacelaw02.NumsRows', WHERE WHAT IT READS IS OF BULK AT MOST 1048576: true; the input reads as it did. -/
def numsRowsUptoRow : OpenClaim := { program := "ytdcebkilekdllaa", sum := "773643b1cbd08a6465b126f57580656973a40d845427199834b124227b68e492", func := "pinnace/pinnacelaw02.NumsRows", spec := "numsRows", unfollowed := true, recurses := true, apart := false, narrowed := true }
def NumsRowsUptoSaid : Prop := numsRowsUptoRow.holds Try.pinned (OpenSpec.upto numsRowsSpec)

/-- 'pinnacelaw02.NumsNil', WHERE WHAT IT READS IS OF BULK AT MOST 1048576: true; the input reads as it did. -/
def numsNilUptoRow : OpenClaim := { program := "ytdcebkilekdllaa", sum := "773643b1cbd08a6465b126f57580656973a40d845427199834b124227b68e492", func := "pinnace/pinnacelaw02.NumsNil", spec := "numsNil", unfollowed := true, recurses := true, apart := false, narrowed := true }
def NumsNilUptoSaid : Prop := numsNilUptoRow.holds Try.pinned (OpenSpec.upto numsNilSpec)

end Rows
end Go.Proofs.Ytdcebkilekdllaa
