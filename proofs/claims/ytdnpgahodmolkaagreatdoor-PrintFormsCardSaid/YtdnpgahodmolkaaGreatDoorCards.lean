/-
  DERIVED. GIVEN WITH THE SEED: THE CARDS: each row of YtdnpgahodmolkaaGreatDoorRows.lean that lists a variable, with what it lists TIED to the program's text (the seventh form; the later family's looks); each row that meets fmt, with fmt's text TOLD by the authors' own Lean function (tested against real Go, not proved from fmt's source: count such statements apart). THE CARD IS WHAT COUNTS. Prove the row's statement (the work); the ties are given (YtdnpgahodmolkaaGreatDoorTie.lean); close each card by the builder's one call (the guide's Derived/Test/ToyasCard.lean, 'card_holds'). Laid BY PROGRAM, IN A SANDBOX (cutbox-door.mjs). By AI agents, Wed Nov 11 2026. No macro, syntax, notation, axiom, sorry.
-/
import Derived.Test.YtdnpgahodmolkaaGreatDoorRows
import GoSem.ClaimSeven
namespace Go.Proofs.YtdnpgahodmolkaaGreatDoor
namespace Rows

/-- THE TIED CARD OF 'pagewatchlaw09.PrintForms'. -/
def printFormsCard : Claim7 := { stood := { row := printFormsRow, standIns := [], harness := (true, "1ed9a78cf79e823b520eba423810f4fecf730eebe00e82439ea721820b2fee07"), looks := true }, kinds := [], alts := [], laidByText := true, laidKinds := [.data, .data, .data, .data, .sentinel, .sentinel, .listed, .data, .pinned], laidTests := true, laidLooks := .later }
def PrintFormsCardSaid : Prop := Claim7.holds Tryz.pinned (.plain (OpenSpec.ofChange printFormsSpec)) printFormsCard

/-- THE SECOND FORM's CARD OF 'pagewatchlaw09.PrintForms'. -/
def printFormsUptoCard : Claim7 := { stood := { row := printFormsUptoRow, standIns := [], harness := (true, "1ed9a78cf79e823b520eba423810f4fecf730eebe00e82439ea721820b2fee07"), looks := true }, kinds := [], alts := [], laidByText := true, laidKinds := [.data, .data, .data, .data, .sentinel, .sentinel, .listed, .data, .pinned], laidTests := true, laidLooks := .later }
def PrintFormsUptoCardSaid : Prop := Claim7.holds Tryz.pinned (.plain (OpenSpec.upto printFormsSpec)) printFormsUptoCard
end Rows
end Go.Proofs.YtdnpgahodmolkaaGreatDoor
