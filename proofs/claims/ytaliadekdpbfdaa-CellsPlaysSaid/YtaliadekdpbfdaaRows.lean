/-
  No cell of these rows narrows 'for every input' (looked for: loops, veiled, ifaces, maps, wideKeys, modest, calm, conditions, laid).
  DERIVED. THE GIVEN ROWS OF THIS SEAT. 5 by the template 'for every input the law returns true; each argument reads behind the call as it read before'; 0 by the template 'total and deterministic' (their statements: YtaliadekdpbfdaaTotals.lean).
  GIVEN WITH THE SEED: the statements are not yours to turn. If you find one false, say at which input.
  Laid BY PROGRAM, IN A SANDBOX (cutbox-rows.mjs): the forced cells as the released guide's own fill.sh prints them over the translation be62b61eda8fa9c5… (all of the seat's roots in one cut). By AI agents, Wed Nov 11 2026. No macro, syntax, notation, axiom, sorry.
-/
import Derived.Test.YtaliadekdpbfdaaChecked
import GoSem.Claim
import GoSem.ClaimJoined
import GoSem.ClaimMapViews
import Derived.JoinedTies
import Derived.KernelRfl
namespace Go.Proofs.Ytaliadekdpbfdaa
/- THE CELL 'sum', in the pinned program and in every row, IS THE sha256 OF THE DUMP (.gsa) THAT YtaliadekdpbfdaaProg.lean LOADS. Nothing in Lean hashes anything: it is a label: what it is worth is what the hold of that sum in a sandbox is worth. -/
noncomputable def Try.pinned : Pinned := { name := "ytaliadekdpbfdaa", sum := "be62b61eda8fa9c542eb1c6aa28dc575823074a1d2bda2518943c87356c14f15", checked := Try.checked }
namespace Rows
def none {H : Type} : Left H := { results := [], args := [] }

/-- 'pinnacelaw16.CellsOf': WHATEVER THE INPUT: true; the input reads as it did. -/
def cellsOfSpec : ChangeSpec := { name := "cellsOf", fn := fun _ => fun
  | [d] => { results := [.lit (.bool true)], args := [d] }
  | _ => none }
def cellsOfRow : OpenClaim := { program := "ytaliadekdpbfdaa", sum := "be62b61eda8fa9c542eb1c6aa28dc575823074a1d2bda2518943c87356c14f15", func := "pinnace/pinnacelaw16.CellsOf", spec := "cellsOf", unfollowed := true, recurses := true, plainKeys := false, apart := false }
def CellsOfSaid : Prop := cellsOfRow.holds Try.pinned (OpenSpec.ofChange cellsOfSpec)

/-- ITS FALSE NEIGHBOUR: 'it returns false'. Refute it at one input. -/
def cellsOfWrong : ChangeSpec := { name := "cellsOf", fn := fun _ => fun
  | [d] => { results := [.lit (.bool false)], args := [d] }
  | _ => none }
def CellsOfWrongFalsely : Prop := cellsOfRow.holds Try.pinned (OpenSpec.ofChange cellsOfWrong)

/-- 'pinnacelaw16.CellsStill': WHATEVER THE INPUT: true; the input reads as it did. -/
def cellsStillSpec : ChangeSpec := { name := "cellsStill", fn := fun _ => fun
  | [d1, d2, d3, d4, d5, d6] => { results := [.lit (.bool true)], args := [d1, d2, d3, d4, d5, d6] }
  | _ => none }
def cellsStillRow : OpenClaim := { program := "ytaliadekdpbfdaa", sum := "be62b61eda8fa9c542eb1c6aa28dc575823074a1d2bda2518943c87356c14f15", func := "pinnace/pinnacelaw16.CellsStill", spec := "cellsStill", unfollowed := true, recurses := true, plainKeys := false, apart := false }
def CellsStillSaid : Prop := cellsStillRow.holds Try.pinned (OpenSpec.ofChange cellsStillSpec)

/-- ITS FALSE NEIGHBOUR: 'it returns false'. Refute it at one input. -/
def cellsStillWrong : ChangeSpec := { name := "cellsStill", fn := fun _ => fun
  | [d1, d2, d3, d4, d5, d6] => { results := [.lit (.bool false)], args := [d1, d2, d3, d4, d5, d6] }
  | _ => none }
def CellsStillWrongFalsely : Prop := cellsStillRow.holds Try.pinned (OpenSpec.ofChange cellsStillWrong)

/-- 'pinnacelaw16.CellsOne': WHATEVER THE INPUT: true; the input reads as it did. -/
def cellsOneSpec : ChangeSpec := { name := "cellsOne", fn := fun _ => fun
  | [d] => { results := [.lit (.bool true)], args := [d] }
  | _ => none }
def cellsOneRow : OpenClaim := { program := "ytaliadekdpbfdaa", sum := "be62b61eda8fa9c542eb1c6aa28dc575823074a1d2bda2518943c87356c14f15", func := "pinnace/pinnacelaw16.CellsOne", spec := "cellsOne", unfollowed := true, recurses := true, plainKeys := false, apart := false }
def CellsOneSaid : Prop := cellsOneRow.holds Try.pinned (OpenSpec.ofChange cellsOneSpec)

/-- ITS FALSE NEIGHBOUR: 'it returns false'. Refute it at one input. -/
def cellsOneWrong : ChangeSpec := { name := "cellsOne", fn := fun _ => fun
  | [d] => { results := [.lit (.bool false)], args := [d] }
  | _ => none }
def CellsOneWrongFalsely : Prop := cellsOneRow.holds Try.pinned (OpenSpec.ofChange cellsOneWrong)

/-- 'pinnacelaw16.CellsParts': WHATEVER THE INPUT: true; the input reads as it did. -/
def cellsPartsSpec : ChangeSpec := { name := "cellsParts", fn := fun _ => fun
  | [d1, d2, d3] => { results := [.lit (.bool true)], args := [d1, d2, d3] }
  | _ => none }
def cellsPartsRow : OpenClaim := { program := "ytaliadekdpbfdaa", sum := "be62b61eda8fa9c542eb1c6aa28dc575823074a1d2bda2518943c87356c14f15", func := "pinnace/pinnacelaw16.CellsParts", spec := "cellsParts", unfollowed := true, recurses := true, plainKeys := false, apart := false }
def CellsPartsSaid : Prop := cellsPartsRow.holds Try.pinned (OpenSpec.ofChange cellsPartsSpec)

/-- ITS FALSE NEIGHBOUR: 'it returns false'. Refute it at one input. -/
def cellsPartsWrong : ChangeSpec := { name := "cellsParts", fn := fun _ => fun
  | [d1, d2, d3] => { results := [.lit (.bool false)], args := [d1, d2, d3] }
  | _ => none }
def CellsPartsWrongFalsely : Prop := cellsPartsRow.holds Try.pinned (OpenSpec.ofChange cellsPartsWrong)

/-- 'pinnacelaw16.CellsPlays': WHATEVER THE INPUT: true; the input reads as it did. -/
def cellsPlaysSpec : ChangeSpec := { name := "cellsPlays", fn := fun _ => fun
  | [d1, d2, d3, d4, d5] => { results := [.lit (.bool true)], args := [d1, d2, d3, d4, d5] }
  | _ => none }
def cellsPlaysRow : OpenClaim := { program := "ytaliadekdpbfdaa", sum := "be62b61eda8fa9c542eb1c6aa28dc575823074a1d2bda2518943c87356c14f15", func := "pinnace/pinnacelaw16.CellsPlays", spec := "cellsPlays", unfollowed := true, recurses := true, plainKeys := false, apart := false }
def CellsPlaysSaid : Prop := cellsPlaysRow.holds Try.pinned (OpenSpec.ofChange cellsPlaysSpec)

/-- ITS FALSE NEIGHBOUR: 'it returns false'. Refute it at one input. -/
def cellsPlaysWrong : ChangeSpec := { name := "cellsPlays", fn := fun _ => fun
  | [d1, d2, d3, d4, d5] => { results := [.lit (.bool false)], args := [d1, d2, d3, d4, d5] }
  | _ => none }
def CellsPlaysWrongFalsely : Prop := cellsPlaysRow.holds Try.pinned (OpenSpec.ofChange cellsPlaysWrong)

/- THE SECOND FORM. 'bulk': how many values and letters a reading holds, each counted each time it is reached (what is shared counts as often as it is met; a slice's spare places count too). A statement '..UptoSaid' is the law's where the arguments, and the package variables that the reading takes, are together of bulk at most 1048576: NARROWER than '..Said'. Prove '..Said' where nothing that the law and all that it calls make is longer than what came in: it says more and counts as full. Else prove '..UptoSaid'. A law counts once. -/
mutual
def uptoBulk {H : Type} : DataW H → Nat
  | .lit (.string bytes) => bytes.length + 1
  | .lit _ => 1
  | .nil => 1
  | .ptr d => uptoBulk d + 1
  | .slice elems spare => uptoBulkAll elems + uptoBulkAll spare + 1
  | .agg parts => uptoBulkAll parts + 1
  | .iface _ d => uptoBulk d + 1
  | .map entries => uptoBulkEntries entries + 1
  | .held _ => 1
def uptoBulkAll {H : Type} : List (DataW H) → Nat
  | [] => 0
  | d :: r => uptoBulk d + uptoBulkAll r
def uptoBulkEntries {H : Type} : List (Lit × DataW H) → Nat
  | [] => 0
  | x :: r => uptoBulkEntry x + uptoBulkEntries r
def uptoBulkEntry {H : Type} : Lit × DataW H → Nat
  | (.string bytes, d) => bytes.length + uptoBulk d + 1
  | (_, d) => uptoBulk d + 1
 end
def uptoSmall : (H : Type) → List (DataW H) → Bool := fun _ ds => decide (uptoBulkAll ds ≤ 1048576)
def OpenSpec.upto (s : _root_.Go.ChangeSpec) : _root_.Go.OpenSpec := { _root_.Go.OpenSpec.ofChange s with cond := some uptoSmall }

/-- 'pinnacelaw16.CellsOf', WHERE WHAT IT READS IS OF BULK AT MOST 1048576: true; the input reads as it did. -/
def cellsOfUptoRow : OpenClaim := { program := "ytaliadekdpbfdaa", sum := "be62b61eda8fa9c542eb1c6aa28dc575823074a1d2bda2518943c87356c14f15", func := "pinnace/pinnacelaw16.CellsOf", spec := "cellsOf", unfollowed := true, recurses := true, plainKeys := false, apart := false, narrowed := true }
def CellsOfUptoSaid : Prop := cellsOfUptoRow.holds Try.pinned (OpenSpec.upto cellsOfSpec)

/-- 'pinnacelaw16.CellsStill', WHERE WHAT IT READS IS OF BULK AT MOST 1048576: true; the input reads as it did. -/
def cellsStillUptoRow : OpenClaim := { program := "ytaliadekdpbfdaa", sum := "be62b61eda8fa9c542eb1c6aa28dc575823074a1d2bda2518943c87356c14f15", func := "pinnace/pinnacelaw16.CellsStill", spec := "cellsStill", unfollowed := true, recurses := true, plainKeys := false, apart := false, narrowed := true }
def CellsStillUptoSaid : Prop := cellsStillUptoRow.holds Try.pinned (OpenSpec.upto cellsStillSpec)

/-- 'pinnacelaw16.CellsOne', WHERE WHAT IT READS IS OF BULK AT MOST 1048576: true; the input reads as it did. -/
def cellsOneUptoRow : OpenClaim := { program := "ytaliadekdpbfdaa", sum := "be62b61eda8fa9c542eb1c6aa28dc575823074a1d2bda2518943c87356c14f15", func := "pinnace/pinnacelaw16.CellsOne", spec := "cellsOne", unfollowed := true, recurses := true, plainKeys := false, apart := false, narrowed := true }
def CellsOneUptoSaid : Prop := cellsOneUptoRow.holds Try.pinned (OpenSpec.upto cellsOneSpec)

/-- 'pinnacelaw16.CellsParts', WHERE WHAT IT READS IS OF BULK AT MOST 1048576: true; the input reads as it did. -/
def cellsPartsUptoRow : OpenClaim := { program := "ytaliadekdpbfdaa", sum := "be62b61eda8fa9c542eb1c6aa28dc575823074a1d2bda2518943c87356c14f15", func := "pinnace/pinnacelaw16.CellsParts", spec := "cellsParts", unfollowed := true, recurses := true, plainKeys := false, apart := false, narrowed := true }
def CellsPartsUptoSaid : Prop := cellsPartsUptoRow.holds Try.pinned (OpenSpec.upto cellsPartsSpec)

/-- 'pinnacelaw16.CellsPlays', WHERE WHAT IT READS IS OF BULK AT MOST 1048576: true; the input reads as it did. -/
def cellsPlaysUptoRow : OpenClaim := { program := "ytaliadekdpbfdaa", sum := "be62b61eda8fa9c542eb1c6aa28dc575823074a1d2bda2518943c87356c14f15", func := "pinnace/pinnacelaw16.CellsPlays", spec := "cellsPlays", unfollowed := true, recurses := true, plainKeys := false, apart := false, narrowed := true }
def CellsPlaysUptoSaid : Prop := cellsPlaysUptoRow.holds Try.pinned (OpenSpec.upto cellsPlaysSpec)

end Rows
end Go.Proofs.Ytaliadekdpbfdaa
