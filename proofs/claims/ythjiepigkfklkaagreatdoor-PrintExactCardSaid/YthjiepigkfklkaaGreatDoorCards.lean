/-
  DERIVED. GIVEN WITH THE SEED: THE CARDS: each row of YthjiepigkfklkaaGreatDoorRows.lean that lists a variable, with what it lists TIED to the program's text (the seventh form; the later family's looks); each row that meets fmt, with fmt's text TOLD by the authors' own Lean function (tested against real Go, not proved from fmt's source: count such statements apart). THE CARD IS WHAT COUNTS. Prove the row's statement (the work); the ties are given (YthjiepigkfklkaaGreatDoorTie.lean); close each card by the builder's one call (the guide's Derived/Test/ToyasCard.lean, 'card_holds'). Laid BY PROGRAM, IN A SANDBOX (cutbox-door.mjs). By AI agents, Wed Nov 11 2026. No macro, syntax, notation, axiom, sorry.
-/
import Derived.Test.YthjiepigkfklkaaGreatDoorRows
import GoSem.ClaimSeven
namespace Go.Proofs.YthjiepigkfklkaaGreatDoor
namespace Rows

/-- THE TIED CARD OF 'pagewatchlaw09.PrintExact'. -/
def printExactCard : Claim7 := { stood := { row := printExactRow, standIns := [], harness := (true, "3a3e5312096d4560a443533a46ae561b7ec46d7335f2a0ef986dca127eeb8c1d"), looks := true }, kinds := [], alts := [], laidByText := true, laidKinds := [.data, .data, .data, .data, .sentinel, .sentinel, .listed, .data, .pinned], laidTests := true, laidLooks := .later }
def PrintExactCardSaid : Prop := Claim7.holds Tryz.pinned (.plain (OpenSpec.ofChange printExactSpec)) printExactCard

/-- THE SECOND FORM's CARD OF 'pagewatchlaw09.PrintExact'. -/
def printExactUptoCard : Claim7 := { stood := { row := printExactUptoRow, standIns := [], harness := (true, "3a3e5312096d4560a443533a46ae561b7ec46d7335f2a0ef986dca127eeb8c1d"), looks := true }, kinds := [], alts := [], laidByText := true, laidKinds := [.data, .data, .data, .data, .sentinel, .sentinel, .listed, .data, .pinned], laidTests := true, laidLooks := .later }
def PrintExactUptoCardSaid : Prop := Claim7.holds Tryz.pinned (.plain (OpenSpec.upto printExactSpec)) printExactUptoCard
end Rows
end Go.Proofs.YthjiepigkfklkaaGreatDoor
