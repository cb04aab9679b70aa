/-
  No cell of these rows narrows 'for every input' (looked for: loops, veiled, ifaces, maps, wideKeys, modest, calm, conditions, laid).
  DERIVED. THE GIVEN ROWS OF THIS SEAT. 5 by the template 'for every input the law returns true; each argument reads behind the call as it read before'; 0 by the template 'total and deterministic' (their statements: YtohflgpkimnodaaTotals.lean).
  GIVEN WITH THE SEED: the statements are not yours to turn. If you find one false, say at which input.
  Laid BY PROGRAM, IN A SANDBOX (cutbox-rows.mjs): the forced cells as the released guide's own fill.sh prints them over the translation 2437003cbb818cd1… (all of the seat's roots in one cut). By AI agents, Wed Nov 11 2026. No macro, syntax, notation, axiom, sorry.
-/
import Derived.Test.YtohflgpkimnodaaChecked
import GoSem.Claim
import GoSem.ClaimJoined
import GoSem.ClaimMapViews
import Derived.JoinedTies
import Derived.KernelRfl
namespace Go.Proofs.Ytohflgpkimnodaa
/- THE CELL 'sum', in the pinned program and in every row, IS THE sha256 OF THE DUMP (.gsa) THAT YtohflgpkimnodaaProg.lean LOADS. Nothing in Lean hashes anything: it is a label: what it is worth is what the hold of that sum in a sandbox is worth. -/
noncomputable def Try.pinned : Pinned := { name := "ytohflgpkimnodaa", sum := "2437003cbb818cd1d868256f7453de0b80498c83b781524e820037aca036415a", checked := Try.checked }
namespace Rows
def none {H : Type} : Left H := { results := [], args := [] }

/-- 'pinnacelaw17.ViewCells': WHATEVER THE INPUT: true; the input reads as it did. -/
def viewCellsSpec : ChangeSpec := { name := "viewCells", fn := fun _ => fun
  | [d1, d2, d3] => { results := [.lit (.bool true)], args := [d1, d2, d3] }
  | _ => none }
def viewCellsRow : OpenClaim := { program := "ytohflgpkimnodaa", sum := "2437003cbb818cd1d868256f7453de0b80498c83b781524e820037aca036415a", func := "pinnace/pinnacelaw17.ViewCells", spec := "viewCells", plainKeys := false, apart := false }
def ViewCellsSaid : Prop := viewCellsRow.holds Try.pinned (OpenSpec.ofChange viewCellsSpec)

/-- ITS FALSE NEIGHBOUR: 'it returns false'. Refute it at one input. -/
def viewCellsWrong : ChangeSpec := { name := "viewCells", fn := fun _ => fun
  | [d1, d2, d3] => { results := [.lit (.bool false)], args := [d1, d2, d3] }
  | _ => none }
def ViewCellsWrongFalsely : Prop := viewCellsRow.holds Try.pinned (OpenSpec.ofChange viewCellsWrong)

/-- 'pinnacelaw17.ViewAround': WHATEVER THE INPUT: true; the input reads as it did. -/
def viewAroundSpec : ChangeSpec := { name := "viewAround", fn := fun _ => fun
  | [d1, d2, d3] => { results := [.lit (.bool true)], args := [d1, d2, d3] }
  | _ => none }
def viewAroundRow : OpenClaim := { program := "ytohflgpkimnodaa", sum := "2437003cbb818cd1d868256f7453de0b80498c83b781524e820037aca036415a", func := "pinnace/pinnacelaw17.ViewAround", spec := "viewAround", plainKeys := false, apart := false }
def ViewAroundSaid : Prop := viewAroundRow.holds Try.pinned (OpenSpec.ofChange viewAroundSpec)

/-- ITS FALSE NEIGHBOUR: 'it returns false'. Refute it at one input. -/
def viewAroundWrong : ChangeSpec := { name := "viewAround", fn := fun _ => fun
  | [d1, d2, d3] => { results := [.lit (.bool false)], args := [d1, d2, d3] }
  | _ => none }
def ViewAroundWrongFalsely : Prop := viewAroundRow.holds Try.pinned (OpenSpec.ofChange viewAroundWrong)

/-- 'pinnacelaw17.ViewSees': WHATEVER THE INPUT: true; the input reads as it did. -/
def viewSeesSpec : ChangeSpec := { name := "viewSees", fn := fun _ => fun
  | [d1, d2] => { results := [.lit (.bool true)], args := [d1, d2] }
  | _ => none }
def viewSeesRow : OpenClaim := { program := "ytohflgpkimnodaa", sum := "2437003cbb818cd1d868256f7453de0b80498c83b781524e820037aca036415a", func := "pinnace/pinnacelaw17.ViewSees", spec := "viewSees", unfollowed := true, recurses := true, plainKeys := false, apart := false }
def ViewSeesSaid : Prop := viewSeesRow.holds Try.pinned (OpenSpec.ofChange viewSeesSpec)

/-- ITS FALSE NEIGHBOUR: 'it returns false'. Refute it at one input. -/
def viewSeesWrong : ChangeSpec := { name := "viewSees", fn := fun _ => fun
  | [d1, d2] => { results := [.lit (.bool false)], args := [d1, d2] }
  | _ => none }
def ViewSeesWrongFalsely : Prop := viewSeesRow.holds Try.pinned (OpenSpec.ofChange viewSeesWrong)

/-- 'pinnacelaw17.ViewWider': WHATEVER THE INPUT: true; the input reads as it did. -/
def viewWiderSpec : ChangeSpec := { name := "viewWider", fn := fun _ => fun
  | [d1, d2, d3] => { results := [.lit (.bool true)], args := [d1, d2, d3] }
  | _ => none }
def viewWiderRow : OpenClaim := { program := "ytohflgpkimnodaa", sum := "2437003cbb818cd1d868256f7453de0b80498c83b781524e820037aca036415a", func := "pinnace/pinnacelaw17.ViewWider", spec := "viewWider", unfollowed := true, recurses := true, plainKeys := false, apart := false }
def ViewWiderSaid : Prop := viewWiderRow.holds Try.pinned (OpenSpec.ofChange viewWiderSpec)

/-- ITS FALSE NEIGHBOUR: 'it returns false'. Refute it at one input. -/
def viewWiderWrong : ChangeSpec := { name := "viewWider", fn := fun _ => fun
  | [d1, d2, d3] => { results := [.lit (.bool false)], args := [d1, d2, d3] }
  | _ => none }
def ViewWiderWrongFalsely : Prop := viewWiderRow.holds Try.pinned (OpenSpec.ofChange viewWiderWrong)

/-- 'pinnacelaw17.ViewParts': WHATEVER THE INPUT: true; the input reads as it did. -/
def viewPartsSpec : ChangeSpec := { name := "viewParts", fn := fun _ => fun
  | [d1, d2] => { results := [.lit (.bool true)], args := [d1, d2] }
  | _ => none }
def viewPartsRow : OpenClaim := { program := "ytohflgpkimnodaa", sum := "2437003cbb818cd1d868256f7453de0b80498c83b781524e820037aca036415a", func := "pinnace/pinnacelaw17.ViewParts", spec := "viewParts", unfollowed := true, recurses := true, plainKeys := false, apart := false }
def ViewPartsSaid : Prop := viewPartsRow.holds Try.pinned (OpenSpec.ofChange viewPartsSpec)

/-- ITS FALSE NEIGHBOUR: 'it returns false'. Refute it at one input. -/
def viewPartsWrong : ChangeSpec := { name := "viewParts", fn := fun _ => fun
  | [d1, d2] => { results := [.lit (.bool false)], args := [d1, d2] }
  | _ => none }
def ViewPartsWrongFalsely : Prop := viewPartsRow.holds Try.pinned (OpenSpec.ofChange viewPartsWrong)

/- THE SECOND FORM. 'bulk': how many values and letters a reading holds, each counted each time it is reached (what is shared counts as often as it is met; a slice's spare places count too). A statement '..UptoSaid' is the law's where the arguments, and the package variables that the reading takes, are together of bulk at most 1048576: NARROWER than '..Said'. Prove '..Said' where nothing that the law and all that it calls make is longer than what came in: it says more and counts as full. Else prove '..UptoSaid'. A law counts once. -/
mutual
def uptoBulk {H : Type} : DataW H → Nat
  | .lit (.string bytes) => bytes.length + 1
  | .lit _ => 1
  | .nil => 1
  | .ptr d => uptoBulk d + 1
  | .slice elems spare => uptoBulkAll elems + uptoBulkAll spare + 1
  | .agg parts => uptoBulkAll parts + 1
  | .iface _ d => uptoBulk d + 1
  | .map entries => uptoBulkEntries entries + 1
  | .held _ => 1
def uptoBulkAll {H : Type} : List (DataW H) → Nat
  | [] => 0
  | d :: r => uptoBulk d + uptoBulkAll r
def uptoBulkEntries {H : Type} : List (Lit × DataW H) → Nat
  | [] => 0
  | x :: r => uptoBulkEntry x + uptoBulkEntries r
def uptoBulkEntry {H : Type} : Lit × DataW H → Nat
  | (.string bytes, d) => bytes.length + uptoBulk d + 1
  | (_, d) => uptoBulk d + 1
 end
def uptoSmall : (H : Type) → List (DataW H) → Bool := fun _ ds => decide (uptoBulkAll ds ≤ 1048576)
def OpenSpec.upto (s : _root_.Go.ChangeSpec) : _root_.Go.OpenSpec := { _root_.Go.OpenSpec.ofChange s with cond := some uptoSmall }

/-- 'pinnacelaw17.ViewCells', WHERE WHAT IT READS IS OF BULK AT MOST 1048576: true; the input reads as it did. -/
def viewCellsUptoRow : OpenClaim := { program := "ytohflgpkimnodaa", sum := "2437003cbb818cd1d868256f7453de0b80498c83b781524e820037aca036415a", func := "pinnace/pinnacelaw17.ViewCells", spec := "viewCells", plainKeys := false, apart := false, narrowed := true }
def ViewCellsUptoSaid : Prop := viewCellsUptoRow.holds Try.pinned (OpenSpec.upto viewCellsSpec)

/-- 'pinnacelaw17.ViewAround', WHERE WHAT IT READS IS OF BULK AT MOST 1048576: true; the input reads as it did. -/
def viewAroundUptoRow : OpenClaim := { program := "ytohflgpkimnodaa", sum := "2437003cbb818cd1d868256f7453de0b80498c83b781524e820037aca036415a", func := "pinnace/pinnacelaw17.ViewAround", spec := "viewAround", plainKeys := false, apart := false, narrowed := true }
def ViewAroundUptoSaid : Prop := viewAroundUptoRow.holds Try.pinned (OpenSpec.upto viewAroundSpec)

/-- 'pinnacelaw17.ViewSees', WHERE WHAT IT READS IS OF BULK AT MOST 1048576: true; the input reads as it did. -/
def viewSeesUptoRow : OpenClaim := { program := "ytohflgpkimnodaa", sum := "2437003cbb818cd1d868256f7453de0b80498c83b781524e820037aca036415a", func := "pinnace/pinnacelaw17.ViewSees", spec := "viewSees", unfollowed := true, recurses := true, plainKeys := false, apart := false, narrowed := true }
def ViewSeesUptoSaid : Prop := viewSeesUptoRow.holds Try.pinned (OpenSpec.upto viewSeesSpec)

/-- 'pinnacelaw17.ViewWider', WHERE WHAT IT READS IS OF BULK AT MOST 1048576: true; the input reads as it did. -/
def viewWiderUptoRow : OpenClaim := { program := "ytohflgpkimnodaa", sum := "2437003cbb818cd1d868256f7453de0b80498c83b781524e820037aca036415a", func := "pinnace/pinnacelaw17.ViewWider", spec := "viewWider", unfollowed := true, recurses := true, plainKeys := false, apart := false, narrowed := true }
def ViewWiderUptoSaid : Prop := viewWiderUptoRow.holds Try.pinned (OpenSpec.upto viewWiderSpec)

/-- 'pinnacelaw17.ViewParts', WHERE WHAT IT READS IS OF BULK AT MOST 1048576: true; the input reads as it did. -/
def viewPartsUptoRow : OpenClaim := { program := "ytohflgpkimnodaa", sum := "2437003cbb818cd1d868256f7453de0b80498c83b781524e820037aca036415a", func := "pinnace/pinnacelaw17.ViewParts", spec := "viewParts", unfollowed := true, recurses := true, plainKeys := false, apart := false, narrowed := true }
def ViewPartsUptoSaid : Prop := viewPartsUptoRow.holds Try.pinned (OpenSpec.upto viewPartsSpec)

end Rows
end Go.Proofs.Ytohflgpkimnodaa
