/-
  DERIVED. GIVEN WITH THE SEED: THE CARDS: each row of YtcchpcpanogbpaaGreatDoorRows.lean that lists a variable, with what it lists TIED to the program's text (the seventh form; the later family's looks); each row that meets fmt, with fmt's text TOLD by the authors' own Lean function (tested against real Go, not proved from fmt's source: count such statements apart). THE CARD IS WHAT COUNTS. Prove the row's statement (the work); the ties are given (YtcchpcpanogbpaaGreatDoorTie.lean); close each card by the builder's one call (the guide's Derived/Test/ToyasCard.lean, 'card_holds'). Laid BY PROGRAM, IN A SANDBOX (cutbox-door.mjs). By AI agents, Wed Nov 11 2026. No macro, syntax, notation, axiom, sorry.
-/
import Derived.Test.YtcchpcpanogbpaaGreatDoorRows
import GoSem.ClaimSeven
namespace Go.Proofs.YtcchpcpanogbpaaGreatDoor
namespace Rows

/-- THE TIED CARD OF 'scrimlaw21.QueryPixels'. -/
def queryPixelsCard : Claim7 := { stood := { row := queryPixelsRow, standIns := [], harness := (true, "8a802b58fdc92b8b5120379052bfa978423b00ba13d46a8d91d9c8bf8bfe5158"), looks := true }, kinds := [], alts := [], laidByText := true, laidKinds := [.data, .data, .data, .data, .sentinel, .sentinel, .pinned], laidTests := true, laidLooks := .later }
def QueryPixelsCardSaid : Prop := Claim7.holds Tryz.pinned (.plain (OpenSpec.ofChange queryPixelsSpec)) queryPixelsCard

/-- THE TIED CARD OF 'scrimlaw14.BoxSorts'. -/
def boxSortsCard : Claim7 := { stood := { row := boxSortsRow, standIns := [], harness := (true, "8a802b58fdc92b8b5120379052bfa978423b00ba13d46a8d91d9c8bf8bfe5158"), looks := true }, kinds := [], alts := [], laidByText := true, laidKinds := [.data, .data, .data, .data, .sentinel, .sentinel, .pinned], laidTests := true, laidLooks := .later }
def BoxSortsCardSaid : Prop := Claim7.holds Tryz.pinned (.plain (OpenSpec.ofChange boxSortsSpec)) boxSortsCard

/-- THE SECOND FORM's CARD OF 'scrimlaw21.QueryPixels'. -/
def queryPixelsUptoCard : Claim7 := { stood := { row := queryPixelsUptoRow, standIns := [], harness := (true, "8a802b58fdc92b8b5120379052bfa978423b00ba13d46a8d91d9c8bf8bfe5158"), looks := true }, kinds := [], alts := [], laidByText := true, laidKinds := [.data, .data, .data, .data, .sentinel, .sentinel, .pinned], laidTests := true, laidLooks := .later }
def QueryPixelsUptoCardSaid : Prop := Claim7.holds Tryz.pinned (.plain (OpenSpec.upto queryPixelsSpec)) queryPixelsUptoCard

/-- THE SECOND FORM's CARD OF 'scrimlaw14.BoxSorts'. -/
def boxSortsUptoCard : Claim7 := { stood := { row := boxSortsUptoRow, standIns := [], harness := (true, "8a802b58fdc92b8b5120379052bfa978423b00ba13d46a8d91d9c8bf8bfe5158"), looks := true }, kinds := [], alts := [], laidByText := true, laidKinds := [.data, .data, .data, .data, .sentinel, .sentinel, .pinned], laidTests := true, laidLooks := .later }
def BoxSortsUptoCardSaid : Prop := Claim7.holds Tryz.pinned (.plain (OpenSpec.upto boxSortsSpec)) boxSortsUptoCard
end Rows
end Go.Proofs.YtcchpcpanogbpaaGreatDoor
