/-
  DERIVED. GIVEN WITH THE SEED: THE CARDS: each row of YtefnpkmbjabcmaaDoorRows.lean that lists a variable, with what it lists TIED to the program's text (the seventh form; the later family's looks); each row that meets fmt, with fmt's text TOLD by the authors' own Lean function (tested against real Go, not proved from fmt's source: count such statements apart). THE CARD IS WHAT COUNTS. Prove the row's statement (the work); the ties are given (YtefnpkmbjabcmaaDoorTie.lean); close each card by the builder's one call (the guide's Derived/Test/ToyasCard.lean, 'card_holds'). Laid BY PROGRAM, IN A SANDBOX (cutbox-door.mjs). By AI agents, Wed Nov 11 2026. No macro, syntax, notation, axiom, sorry.
-/
import Derived.Test.YtefnpkmbjabcmaaDoorRows
import GoSem.ClaimSeven
namespace Go.Proofs.YtefnpkmbjabcmaaDoor
namespace Rows

/-- THE TIED CARD OF 'pinnacelaw24.NetTurns'. -/
def netTurnsCard : Claim7 := { stood := { row := netTurnsRow, standIns := [], harness := (true, "6560be2af58d366c1d4f81257c66b306f2e529e137184a0d835c97f94866694b"), looks := false }, kinds := [], alts := [], laidByText := true, laidKinds := [.data], laidTests := true, laidLooks := .later }
def NetTurnsCardSaid : Prop := Claim7.holds Tryd.pinned (.plain (OpenSpec.ofChange netTurnsSpec)) netTurnsCard

/-- THE TIED CARD OF 'pinnacelaw24.NetKeeps'. -/
def netKeepsCard : Claim7 := { stood := { row := netKeepsRow, standIns := [], harness := (true, "6560be2af58d366c1d4f81257c66b306f2e529e137184a0d835c97f94866694b"), looks := false }, kinds := [], alts := [], laidByText := true, laidKinds := [.data], laidTests := true, laidLooks := .later }
def NetKeepsCardSaid : Prop := Claim7.holds Tryd.pinned (.plain (OpenSpec.ofChange netKeepsSpec)) netKeepsCard

/-- THE TIED CARD OF 'pinnacelaw24.NetOrder'. -/
def netOrderCard : Claim7 := { stood := { row := netOrderRow, standIns := [], harness := (true, "6560be2af58d366c1d4f81257c66b306f2e529e137184a0d835c97f94866694b"), looks := false }, kinds := [], alts := [], laidByText := true, laidKinds := [.data], laidTests := true, laidLooks := .later }
def NetOrderCardSaid : Prop := Claim7.holds Tryd.pinned (.plain (OpenSpec.ofChange netOrderSpec)) netOrderCard

/-- THE TIED CARD OF 'pinnacelaw24.NetPlays'. -/
def netPlaysCard : Claim7 := { stood := { row := netPlaysRow, standIns := [], harness := (true, "6560be2af58d366c1d4f81257c66b306f2e529e137184a0d835c97f94866694b"), looks := false }, kinds := [], alts := [], laidByText := true, laidKinds := [.data], laidTests := true, laidLooks := .later }
def NetPlaysCardSaid : Prop := Claim7.holds Tryd.pinned (.plain (OpenSpec.ofChange netPlaysSpec)) netPlaysCard

/-- THE SECOND FORM's CARD OF 'pinnacelaw24.NetTurns'. -/
def netTurnsUptoCard : Claim7 := { stood := { row := netTurnsUptoRow, standIns := [], harness := (true, "6560be2af58d366c1d4f81257c66b306f2e529e137184a0d835c97f94866694b"), looks := false }, kinds := [], alts := [], laidByText := true, laidKinds := [.data], laidTests := true, laidLooks := .later }
def NetTurnsUptoCardSaid : Prop := Claim7.holds Tryd.pinned (.plain (OpenSpec.upto netTurnsSpec)) netTurnsUptoCard

/-- THE SECOND FORM's CARD OF 'pinnacelaw24.NetKeeps'. -/
def netKeepsUptoCard : Claim7 := { stood := { row := netKeepsUptoRow, standIns := [], harness := (true, "6560be2af58d366c1d4f81257c66b306f2e529e137184a0d835c97f94866694b"), looks := false }, kinds := [], alts := [], laidByText := true, laidKinds := [.data], laidTests := true, laidLooks := .later }
def NetKeepsUptoCardSaid : Prop := Claim7.holds Tryd.pinned (.plain (OpenSpec.upto netKeepsSpec)) netKeepsUptoCard

/-- THE SECOND FORM's CARD OF 'pinnacelaw24.NetOrder'. -/
def netOrderUptoCard : Claim7 := { stood := { row := netOrderUptoRow, standIns := [], harness := (true, "6560be2af58d366c1d4f81257c66b306f2e529e137184a0d835c97f94866694b"), looks := false }, kinds := [], alts := [], laidByText := true, laidKinds := [.data], laidTests := true, laidLooks := .later }
def NetOrderUptoCardSaid : Prop := Claim7.holds Tryd.pinned (.plain (OpenSpec.upto netOrderSpec)) netOrderUptoCard

/-- THE SECOND FORM's CARD OF 'pinnacelaw24.NetPlays'. -/
def netPlaysUptoCard : Claim7 := { stood := { row := netPlaysUptoRow, standIns := [], harness := (true, "6560be2af58d366c1d4f81257c66b306f2e529e137184a0d835c97f94866694b"), looks := false }, kinds := [], alts := [], laidByText := true, laidKinds := [.data], laidTests := true, laidLooks := .later }
def NetPlaysUptoCardSaid : Prop := Claim7.holds Tryd.pinned (.plain (OpenSpec.upto netPlaysSpec)) netPlaysUptoCard
end Rows
end Go.Proofs.YtefnpkmbjabcmaaDoor
