/-
  No cell of these rows narrows 'for every input' (looked for: loops, veiled, ifaces, maps, wideKeys, modest, calm, conditions, laid).
  DERIVED. THE GIVEN ROWS OF THIS SEAT. 5 by the template 'for every input the law returns true; each argument reads behind the call as it read before'; 0 by the template 'total and deterministic' (their statements: YtdnkdmdmekdfkaaTotals.lean).
  GIVEN WITH THE SEED: the statements are not yours to turn. If you find one false, say at which input.
  Laid BY PROGRAM, IN A SANDBOX (cutbox-rows.mjs): the forced cells as the released guide's own fill.sh prints them over the translation 4d8c831ddd71cc03… (all of the seat's roots in one cut). By AI agents, Wed Nov 11 2026. No macro, syntax, notation, axiom, sorry.
-/
import Derived.Test.YtdnkdmdmekdfkaaChecked
import GoSem.Claim
import GoSem.ClaimJoined
import GoSem.ClaimMapViews
import Derived.JoinedTies
import Derived.KernelRfl
namespace Go.Proofs.Ytdnkdmdmekdfkaa
/- THE CELL 'sum', in the pinned program and in every row, IS THE sha256 OF THE DUMP (.gsa) THAT YtdnkdmdmekdfkaaProg.lean LOADS. Nothing in Lean hashes anything: it is a label: what it is worth is what the hold of that sum in a sandbox is worth. -/
noncomputable def Try.pinned : Pinned := { name := "ytdnkdmdmekdfkaa", sum := "4d8c831ddd71cc03be8fe7f232e7546ac887da3fd70aeaf6070f8dc8a6d740f8", checked := Try.checked }
namespace Rows
def none {H : Type} : Left H := { results := [], args := [] }

/-- 'pinnacelaw19.DiffPatches': WHATEVER THE INPUT: true; the input reads as it did. -/
def diffPatchesSpec : ChangeSpec := { name := "diffPatches", fn := fun _ => fun
  | [d1, d2] => { results := [.lit (.bool true)], args := [d1, d2] }
  | _ => none }
def diffPatchesRow : OpenClaim := { program := "ytdnkdmdmekdfkaa", sum := "4d8c831ddd71cc03be8fe7f232e7546ac887da3fd70aeaf6070f8dc8a6d740f8", func := "pinnace/pinnacelaw19.DiffPatches", spec := "diffPatches", unfollowed := true, recurses := true, apart := false }
def DiffPatchesSaid : Prop := diffPatchesRow.holds Try.pinned (OpenSpec.ofChange diffPatchesSpec)

/-- ITS FALSE NEIGHBOUR: 'it returns false'. Refute it at one input. -/
def diffPatchesWrong : ChangeSpec := { name := "diffPatches", fn := fun _ => fun
  | [d1, d2] => { results := [.lit (.bool false)], args := [d1, d2] }
  | _ => none }
def DiffPatchesWrongFalsely : Prop := diffPatchesRow.holds Try.pinned (OpenSpec.ofChange diffPatchesWrong)

/-- 'pinnacelaw19.DiffChain': WHATEVER THE INPUT: true; the input reads as it did. -/
def diffChainSpec : ChangeSpec := { name := "diffChain", fn := fun _ => fun
  | [d1, d2, d3] => { results := [.lit (.bool true)], args := [d1, d2, d3] }
  | _ => none }
def diffChainRow : OpenClaim := { program := "ytdnkdmdmekdfkaa", sum := "4d8c831ddd71cc03be8fe7f232e7546ac887da3fd70aeaf6070f8dc8a6d740f8", func := "pinnace/pinnacelaw19.DiffChain", spec := "diffChain", unfollowed := true, recurses := true, apart := false }
def DiffChainSaid : Prop := diffChainRow.holds Try.pinned (OpenSpec.ofChange diffChainSpec)

/-- ITS FALSE NEIGHBOUR: 'it returns false'. Refute it at one input. -/
def diffChainWrong : ChangeSpec := { name := "diffChain", fn := fun _ => fun
  | [d1, d2, d3] => { results := [.lit (.bool false)], args := [d1, d2, d3] }
  | _ => none }
def DiffChainWrongFalsely : Prop := diffChainRow.holds Try.pinned (OpenSpec.ofChange diffChainWrong)

/-- 'pinnacelaw19.DiffWrong': WHATEVER THE INPUT: true; the input reads as it did. -/
def diffWrongSpec : ChangeSpec := { name := "diffWrong", fn := fun _ => fun
  | [d1, d2, d3] => { results := [.lit (.bool true)], args := [d1, d2, d3] }
  | _ => none }
def diffWrongRow : OpenClaim := { program := "ytdnkdmdmekdfkaa", sum := "4d8c831ddd71cc03be8fe7f232e7546ac887da3fd70aeaf6070f8dc8a6d740f8", func := "pinnace/pinnacelaw19.DiffWrong", spec := "diffWrong", unfollowed := true, recurses := true, apart := false }
def DiffWrongSaid : Prop := diffWrongRow.holds Try.pinned (OpenSpec.ofChange diffWrongSpec)

/-- ITS FALSE NEIGHBOUR: 'it returns false'. Refute it at one input. -/
def diffWrongWrong : ChangeSpec := { name := "diffWrong", fn := fun _ => fun
  | [d1, d2, d3] => { results := [.lit (.bool false)], args := [d1, d2, d3] }
  | _ => none }
def DiffWrongWrongFalsely : Prop := diffWrongRow.holds Try.pinned (OpenSpec.ofChange diffWrongWrong)

/-- 'pinnacelaw19.DiffThere': WHATEVER THE INPUT: true; the input reads as it did. -/
def diffThereSpec : ChangeSpec := { name := "diffThere", fn := fun _ => fun
  | [d1, d2] => { results := [.lit (.bool true)], args := [d1, d2] }
  | _ => none }
def diffThereRow : OpenClaim := { program := "ytdnkdmdmekdfkaa", sum := "4d8c831ddd71cc03be8fe7f232e7546ac887da3fd70aeaf6070f8dc8a6d740f8", func := "pinnace/pinnacelaw19.DiffThere", spec := "diffThere", unfollowed := true, recurses := true, apart := false }
def DiffThereSaid : Prop := diffThereRow.holds Try.pinned (OpenSpec.ofChange diffThereSpec)

/-- ITS FALSE NEIGHBOUR: 'it returns false'. Refute it at one input. -/
def diffThereWrong : ChangeSpec := { name := "diffThere", fn := fun _ => fun
  | [d1, d2] => { results := [.lit (.bool false)], args := [d1, d2] }
  | _ => none }
def DiffThereWrongFalsely : Prop := diffThereRow.holds Try.pinned (OpenSpec.ofChange diffThereWrong)

/-- 'pinnacelaw19.DiffParts': WHATEVER THE INPUT: true; the input reads as it did. -/
def diffPartsSpec : ChangeSpec := { name := "diffParts", fn := fun _ => fun
  | [d1, d2] => { results := [.lit (.bool true)], args := [d1, d2] }
  | _ => none }
def diffPartsRow : OpenClaim := { program := "ytdnkdmdmekdfkaa", sum := "4d8c831ddd71cc03be8fe7f232e7546ac887da3fd70aeaf6070f8dc8a6d740f8", func := "pinnace/pinnacelaw19.DiffParts", spec := "diffParts", unfollowed := true, recurses := true, apart := false }
def DiffPartsSaid : Prop := diffPartsRow.holds Try.pinned (OpenSpec.ofChange diffPartsSpec)

/-- ITS FALSE NEIGHBOUR: 'it returns false'. Refute it at one input. -/
def diffPartsWrong : ChangeSpec := { name := "diffParts", fn := fun _ => fun
  | [d1, d2] => { results := [.lit (.bool false)], args := [d1, d2] }
  | _ => none }
def DiffPartsWrongFalsely : Prop := diffPartsRow.holds Try.pinned (OpenSpec.ofChange diffPartsWrong)

/- THE SECOND FORM. 'bulk': how many values and letters a reading holds, each counted each time it is reached (what is shared counts as often as it is met; a slice's spare places count too). A statement '..UptoSaid' is the law's where the arguments, and the package variables that the reading takes, are together of bulk at most 1048576: NARROWER than '..Said'. Prove '..Said' where nothing that the law and all that it calls make is longer than what came in: it says more and counts as full. Else prove '..UptoSaid'. A law counts once. -/
mutual
def uptoBulk {H : Type} : DataW H → Nat
  | .lit (.string bytes) => bytes.length + 1
  | .lit _ => 1
  | .nil => 1
  | .ptr d => uptoBulk d + 1
  | .slice elems spare => uptoBulkAll elems + uptoBulkAll spare + 1
  | .agg parts => uptoBulkAll parts + 1
  | .iface _ d => uptoBulk d + 1
  | .map entries => uptoBulkEntries entries + 1
  | .held _ => 1
def uptoBulkAll {H : Type} : List (DataW H) → Nat
  | [] => 0
  | d :: r => uptoBulk d + uptoBulkAll r
def uptoBulkEntries {H : Type} : List (Lit × DataW H) → Nat
  | [] => 0
  | x :: r => uptoBulkEntry x + uptoBulkEntries r
def uptoBulkEntry {H : Type} : Lit × DataW H → Nat
  | (.string bytes, d) => bytes.length + uptoBulk d + 1
  | (_, d) => uptoBulk d + 1
 end
def uptoSmall : (H : Type) → List (DataW H) → Bool := fun _ ds => decide (uptoBulkAll ds ≤ 1048576)
def OpenSpec.upto (s : _root_.Go.ChangeSpec) : _root_.Go.OpenSpec := { _root_.Go.OpenSpec.ofChange s with cond := some uptoSmall }

/-- 'pinnacelaw19.DiffPatches', WHERE WHAT IT READS IS OF BULK AT MOST 1048576: true; the input reads as it did. -/
def diffPatchesUptoRow : OpenClaim := { program := "ytdnkdmdmekdfkaa", sum := "4d8c831ddd71cc03be8fe7f232e7546ac887da3fd70aeaf6070f8dc8a6d740f8", func := "pinnace/pinnacelaw19.DiffPatches", spec := "diffPatches", unfollowed := true, recurses := true, apart := false, narrowed := true }
def DiffPatchesUptoSaid : Prop := diffPatchesUptoRow.holds Try.pinned (OpenSpec.upto diffPatchesSpec)

/-- 'pinnacelaw19.DiffChain', WHERE WHAT IT READS IS OF BULK AT MOST 1048576: true; the input reads as it did. -/
def diffChainUptoRow : OpenClaim := { program := "ytdnkdmdmekdfkaa", sum := "4d8c831ddd71cc03be8fe7f232e7546ac887da3fd70aeaf6070f8dc8a6d740f8", func := "pinnace/pinnacelaw19.DiffChain", spec := "diffChain", unfollowed := true, recurses := true, apart := false, narrowed := true }
def DiffChainUptoSaid : Prop := diffChainUptoRow.holds Try.pinned (OpenSpec.upto diffChainSpec)

/-- 'pinnacelaw19.DiffWrong', WHERE WHAT IT READS IS OF BULK AT MOST 1048576: true; the input reads as it did. -/
def diffWrongUptoRow : OpenClaim := { program := "ytdnkdmdmekdfkaa", sum := "4d8c831ddd71cc03be8fe7f232e7546ac887da3fd70aeaf6070f8dc8a6d740f8", func := "pinnace/pinnacelaw19.DiffWrong", spec := "diffWrong", unfollowed := true, recurses := true, apart := false, narrowed := true }
def DiffWrongUptoSaid : Prop := diffWrongUptoRow.holds Try.pinned (OpenSpec.upto diffWrongSpec)

/-- 'pinnacelaw19.DiffThere', WHERE WHAT IT READS IS OF BULK AT MOST 1048576: true; the input reads as it did. -/
def diffThereUptoRow : OpenClaim := { program := "ytdnkdmdmekdfkaa", sum := "4d8c831ddd71cc03be8fe7f232e7546ac887da3fd70aeaf6070f8dc8a6d740f8", func := "pinnace/pinnacelaw19.DiffThere", spec := "diffThere", unfollowed := true, recurses := true, apart := false, narrowed := true }
def DiffThereUptoSaid : Prop := diffThereUptoRow.holds Try.pinned (OpenSpec.upto diffThereSpec)

/-- 'pinnacelaw19.DiffParts', WHERE WHAT IT READS IS OF BULK AT MOST 1048576: true; the input reads as it did. -/
def diffPartsUptoRow : OpenClaim := { program := "ytdnkdmdmekdfkaa", sum := "4d8c831ddd71cc03be8fe7f232e7546ac887da3fd70aeaf6070f8dc8a6d740f8", func := "pinnace/pinnacelaw19.DiffParts", spec := "diffParts", unfollowed := true, recurses := true, apart := false, narrowed := true }
def DiffPartsUptoSaid : Prop := diffPartsUptoRow.holds Try.pinned (OpenSpec.upto diffPartsSpec)

end Rows
end Go.Proofs.Ytdnkdmdmekdfkaa
