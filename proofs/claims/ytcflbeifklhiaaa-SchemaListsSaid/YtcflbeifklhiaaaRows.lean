/-
  No cell of these rows narrows 'for every input' (looked for: loops, veiled, ifaces, maps, wideKeys, modest, calm, conditions, laid).
  DERIVED. THE GIVEN ROWS OF THIS SEAT. 6 by the template 'for every input the law returns true; each argument reads behind the call as it read before'; 0 by the template 'total and deterministic' (their statements: YtcflbeifklhiaaaTotals.lean).
  GIVEN WITH THE SEED: the statements are not yours to turn. If you find one false, say at which input.
  Laid BY PROGRAM, IN A SANDBOX (cutbox-rows.mjs): the forced cells as the released guide's own fill.sh prints them over the translation b8f741ca66be5ca3… (all of the seat's roots in one cut). By AI agents, Wed Nov 11 2026. No macro, syntax, notation, axiom, sorry.
-/
import Derived.Test.YtcflbeifklhiaaaChecked
import GoSem.Claim
import GoSem.ClaimJoined
import GoSem.ClaimMapViews
import Derived.JoinedTies
import Derived.KernelRfl
namespace Go.Proofs.Ytcflbeifklhiaaa
/- THE CELL 'sum', in the pinned program and in every row, IS THE sha256 OF THE DUMP (.gsa) THAT YtcflbeifklhiaaaProg.lean LOADS. Nothing in Lean hashes anything: it is a label: what it is worth is what the hold of that sum in a sandbox is worth. -/
noncomputable def Try.pinned : Pinned := { name := "ytcflbeifklhiaaa", sum := "b8f741ca66be5ca3521513bb0665bedd4f5bd3eba2524a5c75ca6f4b6e38c7cc", checked := Try.checked }
namespace Rows
def none {H : Type} : Left H := { results := [], args := [] }

/-- 'pinnacelaw05.SchemaChecks': WHATEVER THE INPUT: true; the input reads as it did. -/
def schemaChecksSpec : ChangeSpec := { name := "schemaChecks", fn := fun _ => fun
  | [d] => { results := [.lit (.bool true)], args := [d] }
  | _ => none }
def schemaChecksRow : OpenClaim := { program := "ytcflbeifklhiaaa", sum := "b8f741ca66be5ca3521513bb0665bedd4f5bd3eba2524a5c75ca6f4b6e38c7cc", func := "pinnace/pinnacelaw05.SchemaChecks", spec := "schemaChecks", apart := false }
def SchemaChecksSaid : Prop := schemaChecksRow.holds Try.pinned (OpenSpec.ofChange schemaChecksSpec)

/-- ITS FALSE NEIGHBOUR: 'it returns false'. Refute it at one input. -/
def schemaChecksWrong : ChangeSpec := { name := "schemaChecks", fn := fun _ => fun
  | [d] => { results := [.lit (.bool false)], args := [d] }
  | _ => none }
def SchemaChecksWrongFalsely : Prop := schemaChecksRow.holds Try.pinned (OpenSpec.ofChange schemaChecksWrong)

/-- 'pinnacelaw05.SchemaEnds': WHATEVER THE INPUT: true; the input reads as it did. -/
def schemaEndsSpec : ChangeSpec := { name := "schemaEnds", fn := fun _ => fun
  | [d1, d2] => { results := [.lit (.bool true)], args := [d1, d2] }
  | _ => none }
def schemaEndsRow : OpenClaim := { program := "ytcflbeifklhiaaa", sum := "b8f741ca66be5ca3521513bb0665bedd4f5bd3eba2524a5c75ca6f4b6e38c7cc", func := "pinnace/pinnacelaw05.SchemaEnds", spec := "schemaEnds", apart := false }
def SchemaEndsSaid : Prop := schemaEndsRow.holds Try.pinned (OpenSpec.ofChange schemaEndsSpec)

/-- ITS FALSE NEIGHBOUR: 'it returns false'. Refute it at one input. -/
def schemaEndsWrong : ChangeSpec := { name := "schemaEnds", fn := fun _ => fun
  | [d1, d2] => { results := [.lit (.bool false)], args := [d1, d2] }
  | _ => none }
def SchemaEndsWrongFalsely : Prop := schemaEndsRow.holds Try.pinned (OpenSpec.ofChange schemaEndsWrong)

/-- 'pinnacelaw05.SchemaNames': WHATEVER THE INPUT: true; the input reads as it did. -/
def schemaNamesSpec : ChangeSpec := { name := "schemaNames", fn := fun _ => fun
  | [d] => { results := [.lit (.bool true)], args := [d] }
  | _ => none }
def schemaNamesRow : OpenClaim := { program := "ytcflbeifklhiaaa", sum := "b8f741ca66be5ca3521513bb0665bedd4f5bd3eba2524a5c75ca6f4b6e38c7cc", func := "pinnace/pinnacelaw05.SchemaNames", spec := "schemaNames", apart := false }
def SchemaNamesSaid : Prop := schemaNamesRow.holds Try.pinned (OpenSpec.ofChange schemaNamesSpec)

/-- ITS FALSE NEIGHBOUR: 'it returns false'. Refute it at one input. -/
def schemaNamesWrong : ChangeSpec := { name := "schemaNames", fn := fun _ => fun
  | [d] => { results := [.lit (.bool false)], args := [d] }
  | _ => none }
def SchemaNamesWrongFalsely : Prop := schemaNamesRow.holds Try.pinned (OpenSpec.ofChange schemaNamesWrong)

/-- 'pinnacelaw05.SchemaLists': WHATEVER THE INPUT: true; the input reads as it did. -/
def schemaListsSpec : ChangeSpec := { name := "schemaLists", fn := fun _ => fun
  | [d] => { results := [.lit (.bool true)], args := [d] }
  | _ => none }
def schemaListsRow : OpenClaim := { program := "ytcflbeifklhiaaa", sum := "b8f741ca66be5ca3521513bb0665bedd4f5bd3eba2524a5c75ca6f4b6e38c7cc", func := "pinnace/pinnacelaw05.SchemaLists", spec := "schemaLists", apart := false }
def SchemaListsSaid : Prop := schemaListsRow.holds Try.pinned (OpenSpec.ofChange schemaListsSpec)

/-- ITS FALSE NEIGHBOUR: 'it returns false'. Refute it at one input. -/
def schemaListsWrong : ChangeSpec := { name := "schemaLists", fn := fun _ => fun
  | [d] => { results := [.lit (.bool false)], args := [d] }
  | _ => none }
def SchemaListsWrongFalsely : Prop := schemaListsRow.holds Try.pinned (OpenSpec.ofChange schemaListsWrong)

/-- 'pinnacelaw05.SchemaMasks': WHATEVER THE INPUT: true; the input reads as it did. -/
def schemaMasksSpec : ChangeSpec := { name := "schemaMasks", fn := fun _ => fun
  | [d] => { results := [.lit (.bool true)], args := [d] }
  | _ => none }
def schemaMasksRow : OpenClaim := { program := "ytcflbeifklhiaaa", sum := "b8f741ca66be5ca3521513bb0665bedd4f5bd3eba2524a5c75ca6f4b6e38c7cc", func := "pinnace/pinnacelaw05.SchemaMasks", spec := "schemaMasks", apart := false }
def SchemaMasksSaid : Prop := schemaMasksRow.holds Try.pinned (OpenSpec.ofChange schemaMasksSpec)

/-- ITS FALSE NEIGHBOUR: 'it returns false'. Refute it at one input. -/
def schemaMasksWrong : ChangeSpec := { name := "schemaMasks", fn := fun _ => fun
  | [d] => { results := [.lit (.bool false)], args := [d] }
  | _ => none }
def SchemaMasksWrongFalsely : Prop := schemaMasksRow.holds Try.pinned (OpenSpec.ofChange schemaMasksWrong)

/-- 'pinnacelaw05.SchemaTells': WHATEVER THE INPUT: true; the input reads as it did. -/
def schemaTellsSpec : ChangeSpec := { name := "schemaTells", fn := fun _ => fun
  | [d1, d2] => { results := [.lit (.bool true)], args := [d1, d2] }
  | _ => none }
def schemaTellsRow : OpenClaim := { program := "ytcflbeifklhiaaa", sum := "b8f741ca66be5ca3521513bb0665bedd4f5bd3eba2524a5c75ca6f4b6e38c7cc", func := "pinnace/pinnacelaw05.SchemaTells", spec := "schemaTells", apart := false }
def SchemaTellsSaid : Prop := schemaTellsRow.holds Try.pinned (OpenSpec.ofChange schemaTellsSpec)

/-- ITS FALSE NEIGHBOUR: 'it returns false'. Refute it at one input. -/
def schemaTellsWrong : ChangeSpec := { name := "schemaTells", fn := fun _ => fun
  | [d1, d2] => { results := [.lit (.bool false)], args := [d1, d2] }
  | _ => none }
def SchemaTellsWrongFalsely : Prop := schemaTellsRow.holds Try.pinned (OpenSpec.ofChange schemaTellsWrong)

/- THE SECOND FORM. 'bulk': how many values and letters a reading holds, each counted each time it is reached (what is shared counts as often as it is met; a slice's spare places count too). A statement '..UptoSaid' is the law's where the arguments, and the package variables that the reading takes, are together of bulk at most 1048576: NARROWER than '..Said'. Prove '..Said' where nothing that the law and all that it calls make is longer than what came in: it says more and counts as full. Else prove '..UptoSaid'. A law counts once. -/
mutual
def uptoBulk {H : Type} : DataW H → Nat
  | .lit (.string bytes) => bytes.length + 1
  | .lit _ => 1
  | .nil => 1
  | .ptr d => uptoBulk d + 1
  | .slice elems spare => uptoBulkAll elems + uptoBulkAll spare + 1
  | .agg parts => uptoBulkAll parts + 1
  | .iface _ d => uptoBulk d + 1
  | .map entries => uptoBulkEntries entries + 1
  | .held _ => 1
def uptoBulkAll {H : Type} : List (DataW H) → Nat
  | [] => 0
  | d :: r => uptoBulk d + uptoBulkAll r
def uptoBulkEntries {H : Type} : List (Lit × DataW H) → Nat
  | [] => 0
  | x :: r => uptoBulkEntry x + uptoBulkEntries r
def uptoBulkEntry {H : Type} : Lit × DataW H → Nat
  | (.string bytes, d) => bytes.length + uptoBulk d + 1
  | (_, d) => uptoBulk d + 1
 end
def uptoSmall : (H : Type) → List (DataW H) → Bool := fun _ ds => decide (uptoBulkAll ds ≤ 1048576)
def OpenSpec.upto (s : _root_.Go.ChangeSpec) : _root_.Go.OpenSpec := { _root_.Go.OpenSpec.ofChange s with cond := some uptoSmall }

/-- 'pinnacelaw05.SchemaChecks', WHERE WHAT IT READS IS OF BULK AT MOST 1048576: true; the input reads as it did. -/
def schemaChecksUptoRow : OpenClaim := { program := "ytcflbeifklhiaaa", sum := "b8f741ca66be5ca3521513bb0665bedd4f5bd3eba2524a5c75ca6f4b6e38c7cc", func := "pinnace/pinnacelaw05.SchemaChecks", spec := "schemaChecks", apart := false, narrowed := true }
def SchemaChecksUptoSaid : Prop := schemaChecksUptoRow.holds Try.pinned (OpenSpec.upto schemaChecksSpec)

/-- 'pinnacelaw05.SchemaEnds', WHERE WHAT IT READS IS OF BULK AT MOST 1048576: true; the input reads as it did. -/
def schemaEndsUptoRow : OpenClaim := { program := "ytcflbeifklhiaaa", sum := "b8f741ca66be5ca3521513bb0665bedd4f5bd3eba2524a5c75ca6f4b6e38c7cc", func := "pinnace/pinnacelaw05.SchemaEnds", spec := "schemaEnds", apart := false, narrowed := true }
def SchemaEndsUptoSaid : Prop := schemaEndsUptoRow.holds Try.pinned (OpenSpec.upto schemaEndsSpec)

/-- 'pinnacelaw05.SchemaNames', WHERE WHAT IT READS IS OF BULK AT MOST 1048576: true; the input reads as it did. -/
def schemaNamesUptoRow : OpenClaim := { program := "ytcflbeifklhiaaa", sum := "b8f741ca66be5ca3521513bb0665bedd4f5bd3eba2524a5c75ca6f4b6e38c7cc", func := "pinnace/pinnacelaw05.SchemaNames", spec := "schemaNames", apart := false, narrowed := true }
def SchemaNamesUptoSaid : Prop := schemaNamesUptoRow.holds Try.pinned (OpenSpec.upto schemaNamesSpec)

/-- 'pinnacelaw05.SchemaLists', WHERE WHAT IT READS IS OF BULK AT MOST 1048576: true; the input reads as it did. -/
def schemaListsUptoRow : OpenClaim := { program := "ytcflbeifklhiaaa", sum := "b8f741ca66be5ca3521513bb0665bedd4f5bd3eba2524a5c75ca6f4b6e38c7cc", func := "pinnace/pinnacelaw05.SchemaLists", spec := "schemaLists", apart := false, narrowed := true }
def SchemaListsUptoSaid : Prop := schemaListsUptoRow.holds Try.pinned (OpenSpec.upto schemaListsSpec)

/-- 'pinnacelaw05.SchemaMasks', WHERE WHAT IT READS IS OF BULK AT MOST 1048576: true; the input reads as it did. -/
def schemaMasksUptoRow : OpenClaim := { program := "ytcflbeifklhiaaa", sum := "b8f741ca66be5ca3521513bb0665bedd4f5bd3eba2524a5c75ca6f4b6e38c7cc", func := "pinnace/pinnacelaw05.SchemaMasks", spec := "schemaMasks", apart := false, narrowed := true }
def SchemaMasksUptoSaid : Prop := schemaMasksUptoRow.holds Try.pinned (OpenSpec.upto schemaMasksSpec)

/-- 'pinnacelaw05.SchemaTells', WHERE WHAT IT READS IS OF BULK AT MOST 1048576: true; the input reads as it did. -/
def schemaTellsUptoRow : OpenClaim := { program := "ytcflbeifklhiaaa", sum := "b8f741ca66be5ca3521513bb0665bedd4f5bd3eba2524a5c75ca6f4b6e38c7cc", func := "pinnace/pinnacelaw05.SchemaTells", spec := "schemaTells", apart := false, narrowed := true }
def SchemaTellsUptoSaid : Prop := schemaTellsUptoRow.holds Try.pinned (OpenSpec.upto schemaTellsSpec)

end Rows
end Go.Proofs.Ytcflbeifklhiaaa
