/-
  DERIVED. GIVEN WITH THE SEED: THE CARDS: each row of YtgocccmoefchaaaGreatDoorRows.lean that lists a variable, with what it lists TIED to the program's text (the seventh form; the later family's looks); each row that meets fmt, with fmt's text TOLD by the authors' own Lean function (tested against real Go, not proved from fmt's source: count such statements apart). THE CARD IS WHAT COUNTS. Prove the row's statement (the work); the ties are given (YtgocccmoefchaaaGreatDoorTie.lean); close each card by the builder's one call (the guide's Derived/Test/ToyasCard.lean, 'card_holds'). Laid BY PROGRAM, IN A SANDBOX (cutbox-door.mjs). By AI agents, Wed Nov 11 2026. No macro, syntax, notation, axiom, sorry.
-/
import Derived.Test.YtgocccmoefchaaaGreatDoorRows
import GoSem.ClaimSeven
namespace Go.Proofs.YtgocccmoefchaaaGreatDoor
namespace Rows

/-- THE TIED CARD OF 'pagewatchlaw09.PrintEdits'. -/
def printEditsCard : Claim7 := { stood := { row := printEditsRow, standIns := [], harness := (true, "ead2f6380323beefef58c20f1ba6e036bc0c8dc10f209f4551db7b0a677e45b3"), looks := true }, kinds := [], alts := [], laidByText := true, laidKinds := [.data, .data, .data, .data, .sentinel, .sentinel, .listed, .data, .pinned], laidTests := true, laidLooks := .later }
def PrintEditsCardSaid : Prop := Claim7.holds Tryz.pinned (.plain (OpenSpec.ofChange printEditsSpec)) printEditsCard

/-- THE SECOND FORM's CARD OF 'pagewatchlaw09.PrintEdits'. -/
def printEditsUptoCard : Claim7 := { stood := { row := printEditsUptoRow, standIns := [], harness := (true, "ead2f6380323beefef58c20f1ba6e036bc0c8dc10f209f4551db7b0a677e45b3"), looks := true }, kinds := [], alts := [], laidByText := true, laidKinds := [.data, .data, .data, .data, .sentinel, .sentinel, .listed, .data, .pinned], laidTests := true, laidLooks := .later }
def PrintEditsUptoCardSaid : Prop := Claim7.holds Tryz.pinned (.plain (OpenSpec.upto printEditsSpec)) printEditsUptoCard
end Rows
end Go.Proofs.YtgocccmoefchaaaGreatDoor
