/-
  No cell of these rows narrows 'for every input' (looked for: loops, veiled, ifaces, maps, wideKeys, modest, calm, conditions, laid).
  DERIVED. THE GIVEN ROWS OF THIS SEAT. 5 by the template 'for every input the law returns true; each argument reads behind the call as it read before'; 0 by the template 'total and deterministic' (their statements: YtpfdbkfjjjiamaaTotals.lean).
  GIVEN WITH THE SEED: the statements are not yours to turn. If you find one false, say at which input.
  Laid BY PROGRAM, IN A SANDBOX (cutbox-rows.mjs): the forced cells as the released guide's own fill.sh prints them over the translation 6d10a8747b5245d0… (all of the seat's roots in one cut). By AI agents, Wed Nov 11 2026. No macro, syntax, notation, axiom, sorry.
-/
import Derived.Test.YtpfdbkfjjjiamaaChecked
import GoSem.Claim
import GoSem.ClaimJoined
import GoSem.ClaimMapViews
import Derived.JoinedTies
import Derived.KernelRfl
namespace Go.Proofs.Ytpfdbkfjjjiamaa
/- THE CELL 'sum', in the pinned program and in every row, IS THE sha256 OF THE DUMP (.gsa) THAT YtpfdbkfjjjiamaaProg.lean LOADS. Nothing in Lean hashes anything: it is a label: what it is worth is what the hold of that sum in a sandbox is worth. -/
noncomputable def Try.pinned : Pinned := { name := "ytpfdbkfjjjiamaa", sum := "6d10a8747b5245d03968b8fcbba1c02d5620bb5698d8b2bf5addd68af94c2478", checked := Try.checked }
namespace Rows
def none {H : Type} : Left H := { results := [], args := [] }

/-- 'pinnacelaw06.CompChanges': WHATEVER THE INPUT: true; the input reads as it did. -/
def compChangesSpec : ChangeSpec := { name := "compChanges", fn := fun _ => fun
  | [d1, d2] => { results := [.lit (.bool true)], args := [d1, d2] }
  | _ => none }
def compChangesRow : OpenClaim := { program := "ytpfdbkfjjjiamaa", sum := "6d10a8747b5245d03968b8fcbba1c02d5620bb5698d8b2bf5addd68af94c2478", func := "pinnace/pinnacelaw06.CompChanges", spec := "compChanges", apart := false }
def CompChangesSaid : Prop := compChangesRow.holds Try.pinned (OpenSpec.ofChange compChangesSpec)

/-- ITS FALSE NEIGHBOUR: 'it returns false'. Refute it at one input. -/
def compChangesWrong : ChangeSpec := { name := "compChanges", fn := fun _ => fun
  | [d1, d2] => { results := [.lit (.bool false)], args := [d1, d2] }
  | _ => none }
def CompChangesWrongFalsely : Prop := compChangesRow.holds Try.pinned (OpenSpec.ofChange compChangesWrong)

/-- 'pinnacelaw06.CompGets': WHATEVER THE INPUT: true; the input reads as it did. -/
def compGetsSpec : ChangeSpec := { name := "compGets", fn := fun _ => fun
  | [d1, d2, d3] => { results := [.lit (.bool true)], args := [d1, d2, d3] }
  | _ => none }
def compGetsRow : OpenClaim := { program := "ytpfdbkfjjjiamaa", sum := "6d10a8747b5245d03968b8fcbba1c02d5620bb5698d8b2bf5addd68af94c2478", func := "pinnace/pinnacelaw06.CompGets", spec := "compGets", unfollowed := true, recurses := true, apart := false }
def CompGetsSaid : Prop := compGetsRow.holds Try.pinned (OpenSpec.ofChange compGetsSpec)

/-- ITS FALSE NEIGHBOUR: 'it returns false'. Refute it at one input. -/
def compGetsWrong : ChangeSpec := { name := "compGets", fn := fun _ => fun
  | [d1, d2, d3] => { results := [.lit (.bool false)], args := [d1, d2, d3] }
  | _ => none }
def CompGetsWrongFalsely : Prop := compGetsRow.holds Try.pinned (OpenSpec.ofChange compGetsWrong)

/-- 'pinnacelaw06.CompWhole': WHATEVER THE INPUT: true; the input reads as it did. -/
def compWholeSpec : ChangeSpec := { name := "compWhole", fn := fun _ => fun
  | [d1, d2] => { results := [.lit (.bool true)], args := [d1, d2] }
  | _ => none }
def compWholeRow : OpenClaim := { program := "ytpfdbkfjjjiamaa", sum := "6d10a8747b5245d03968b8fcbba1c02d5620bb5698d8b2bf5addd68af94c2478", func := "pinnace/pinnacelaw06.CompWhole", spec := "compWhole", unfollowed := true, recurses := true, apart := false }
def CompWholeSaid : Prop := compWholeRow.holds Try.pinned (OpenSpec.ofChange compWholeSpec)

/-- ITS FALSE NEIGHBOUR: 'it returns false'. Refute it at one input. -/
def compWholeWrong : ChangeSpec := { name := "compWhole", fn := fun _ => fun
  | [d1, d2] => { results := [.lit (.bool false)], args := [d1, d2] }
  | _ => none }
def CompWholeWrongFalsely : Prop := compWholeRow.holds Try.pinned (OpenSpec.ofChange compWholeWrong)

/-- 'pinnacelaw06.CompNil': WHATEVER THE INPUT: true; the input reads as it did. -/
def compNilSpec : ChangeSpec := { name := "compNil", fn := fun _ => fun
  | [d1, d2] => { results := [.lit (.bool true)], args := [d1, d2] }
  | _ => none }
def compNilRow : OpenClaim := { program := "ytpfdbkfjjjiamaa", sum := "6d10a8747b5245d03968b8fcbba1c02d5620bb5698d8b2bf5addd68af94c2478", func := "pinnace/pinnacelaw06.CompNil", spec := "compNil", unfollowed := true, recurses := true, apart := false }
def CompNilSaid : Prop := compNilRow.holds Try.pinned (OpenSpec.ofChange compNilSpec)

/-- ITS FALSE NEIGHBOUR: 'it returns false'. Refute it at one input. -/
def compNilWrong : ChangeSpec := { name := "compNil", fn := fun _ => fun
  | [d1, d2] => { results := [.lit (.bool false)], args := [d1, d2] }
  | _ => none }
def CompNilWrongFalsely : Prop := compNilRow.holds Try.pinned (OpenSpec.ofChange compNilWrong)

/-- 'pinnacelaw06.CompSteps': WHATEVER THE INPUT: true; the input reads as it did. -/
def compStepsSpec : ChangeSpec := { name := "compSteps", fn := fun _ => fun
  | [d1, d2, d3] => { results := [.lit (.bool true)], args := [d1, d2, d3] }
  | _ => none }
def compStepsRow : OpenClaim := { program := "ytpfdbkfjjjiamaa", sum := "6d10a8747b5245d03968b8fcbba1c02d5620bb5698d8b2bf5addd68af94c2478", func := "pinnace/pinnacelaw06.CompSteps", spec := "compSteps", unfollowed := true, recurses := true, apart := false }
def CompStepsSaid : Prop := compStepsRow.holds Try.pinned (OpenSpec.ofChange compStepsSpec)

/-- ITS FALSE NEIGHBOUR: 'it returns false'. Refute it at one input. -/
def compStepsWrong : ChangeSpec := { name := "compSteps", fn := fun _ => fun
  | [d1, d2, d3] => { results := [.lit (.bool false)], args := [d1, d2, d3] }
  | _ => none }
def CompStepsWrongFalsely : Prop := compStepsRow.holds Try.pinned (OpenSpec.ofChange compStepsWrong)

/- THE SECOND FORM. 'bulk': how many values and letters a reading holds, each counted each time it is reached (what is shared counts as often as it is met; a slice's spare places count too). A statement '..UptoSaid' is the law's where the arguments, and the package variables that the reading takes, are together of bulk at most 1048576: NARROWER than '..Said'. Prove '..Said' where nothing that the law and all that it calls make is longer than what came in: it says more and counts as full. Else prove '..UptoSaid'. A law counts once. -/
mutual
def uptoBulk {H : Type} : DataW H → Nat
  | .lit (.string bytes) => bytes.length + 1
  | .lit _ => 1
  | .nil => 1
  | .ptr d => uptoBulk d + 1
  | .slice elems spare => uptoBulkAll elems + uptoBulkAll spare + 1
  | .agg parts => uptoBulkAll parts + 1
  | .iface _ d => uptoBulk d + 1
  | .map entries => uptoBulkEntries entries + 1
  | .held _ => 1
def uptoBulkAll {H : Type} : List (DataW H) → Nat
  | [] => 0
  | d :: r => uptoBulk d + uptoBulkAll r
def uptoBulkEntries {H : Type} : List (Lit × DataW H) → Nat
  | [] => 0
  | x :: r => uptoBulkEntry x + uptoBulkEntries r
def uptoBulkEntry {H : Type} : Lit × DataW H → Nat
  | (.string bytes, d) => bytes.length + uptoBulk d + 1
  | (_, d) => uptoBulk d + 1
 end
def uptoSmall : (H : Type) → List (DataW H) → Bool := fun _ ds => decide (uptoBulkAll ds ≤ 1048576)
def OpenSpec.upto (s : _root_.Go.ChangeSpec) : _root_.Go.OpenSpec := { _root_.Go.OpenSpec.ofChange s with cond := some uptoSmall }

/-- 'pinnacelaw06.CompChanges', WHERE WHAT IT READS IS OF BULK AT MOST 1048576: true; the input reads as it did. -/
def compChangesUptoRow : OpenClaim := { program := "ytpfdbkfjjjiamaa", sum := "6d10a8747b5245d03968b8fcbba1c02d5620bb5698d8b2bf5addd68af94c2478", func := "pinnace/pinnacelaw06.CompChanges", spec := "compChanges", apart := false, narrowed := true }
def CompChangesUptoSaid : Prop := compChangesUptoRow.holds Try.pinned (OpenSpec.upto compChangesSpec)

/-- 'pinnacelaw06.CompGets', WHERE WHAT IT READS IS OF BULK AT MOST 1048576: true; the input reads as it did. -/
def compGetsUptoRow : OpenClaim := { program := "ytpfdbkfjjjiamaa", sum := "6d10a8747b5245d03968b8fcbba1c02d5620bb5698d8b2bf5addd68af94c2478", func := "pinnace/pinnacelaw06.CompGets", spec := "compGets", unfollowed := true, recurses := true, apart := false, narrowed := true }
def CompGetsUptoSaid : Prop := compGetsUptoRow.holds Try.pinned (OpenSpec.upto compGetsSpec)

/-- 'pinnacelaw06.CompWhole', WHERE WHAT IT READS IS OF BULK AT MOST 1048576: true; the input reads as it did. -/
def compWholeUptoRow : OpenClaim := { program := "ytpfdbkfjjjiamaa", sum := "6d10a8747b5245d03968b8fcbba1c02d5620bb5698d8b2bf5addd68af94c2478", func := "pinnace/pinnacelaw06.CompWhole", spec := "compWhole", unfollowed := true, recurses := true, apart := false, narrowed := true }
def CompWholeUptoSaid : Prop := compWholeUptoRow.holds Try.pinned (OpenSpec.upto compWholeSpec)

/-- 'pinnacelaw06.CompNil', WHERE WHAT IT READS IS OF BULK AT MOST 1048576: true; the input reads as it did. -/
def compNilUptoRow : OpenClaim := { program := "ytpfdbkfjjjiamaa", sum := "6d10a8747b5245d03968b8fcbba1c02d5620bb5698d8b2bf5addd68af94c2478", func := "pinnace/pinnacelaw06.CompNil", spec := "compNil", unfollowed := true, recurses := true, apart := false, narrowed := true }
def CompNilUptoSaid : Prop := compNilUptoRow.holds Try.pinned (OpenSpec.upto compNilSpec)

/-- 'pinnacelaw06.CompSteps', WHERE WHAT IT READS IS OF BULK AT MOST 1048576: true; the input reads as it did. -/
def compStepsUptoRow : OpenClaim := { program := "ytpfdbkfjjjiamaa", sum := "6d10a8747b5245d03968b8fcbba1c02d5620bb5698d8b2bf5addd68af94c2478", func := "pinnace/pinnacelaw06.CompSteps", spec := "compSteps", unfollowed := true, recurses := true, apart := false, narrowed := true }
def CompStepsUptoSaid : Prop := compStepsUptoRow.holds Try.pinned (OpenSpec.upto compStepsSpec)

end Rows
end Go.Proofs.Ytpfdbkfjjjiamaa
