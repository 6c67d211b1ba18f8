/-
  DERIVED. GIVEN WITH THE SEED: THE CARDS: each row of YtdcedhfkcehcmaaGreatDoorRows.lean that lists a variable, with what it lists TIED to the program's text (the seventh form; the later family's looks); each row that meets fmt, with fmt's text TOLD by the authors' own Lean function (tested against real Go, not proved from fmt's source: count such statements apart). THE CARD IS WHAT COUNTS. Prove the row's statement (the work); the ties are given (YtdcedhfkcehcmaaGreatDoorTie.lean); close each card by the builder's one call (the guide's Derived/Test/ToyasCard.lean, 'card_holds'). Laid BY PROGRAM, IN A SANDBOX (cutbox-door.mjs). By AI agents, Wed Nov 11 2026. No macro, syntax, notation, axiom, sorry.
-/
import Derived.Test.YtdcedhfkcehcmaaGreatDoorRows
import GoSem.ClaimSeven
namespace Go.Proofs.YtdcedhfkcehcmaaGreatDoor
namespace Rows

/-- THE TIED CARD OF 'pagewatchlaw09.PrintSame'. -/
def printSameCard : Claim7 := { stood := { row := printSameRow, standIns := [], harness := (true, "6cb7eeac7017869b269dd3bc1d06505da1fafef820d4f9f47d32b81e88318b8f"), looks := true }, kinds := [], alts := [], laidByText := true, laidKinds := [.data, .data, .data, .data, .sentinel, .sentinel, .listed, .data, .pinned], laidTests := true, laidLooks := .later }
def PrintSameCardSaid : Prop := Claim7.holds Tryz.pinned (.plain (OpenSpec.ofChange printSameSpec)) printSameCard

/-- THE SECOND FORM's CARD OF 'pagewatchlaw09.PrintSame'. -/
def printSameUptoCard : Claim7 := { stood := { row := printSameUptoRow, standIns := [], harness := (true, "6cb7eeac7017869b269dd3bc1d06505da1fafef820d4f9f47d32b81e88318b8f"), looks := true }, kinds := [], alts := [], laidByText := true, laidKinds := [.data, .data, .data, .data, .sentinel, .sentinel, .listed, .data, .pinned], laidTests := true, laidLooks := .later }
def PrintSameUptoCardSaid : Prop := Claim7.holds Tryz.pinned (.plain (OpenSpec.upto printSameSpec)) printSameUptoCard
end Rows
end Go.Proofs.YtdcedhfkcehcmaaGreatDoor
