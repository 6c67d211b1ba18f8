/-
  DERIVED. GIVEN WITH THE SEED: THE CARDS: each row of YtecdnhcojfdgmaaGreatDoorRows.lean that lists a variable, with what it lists TIED to the program's text (the seventh form; the later family's looks); each row that meets fmt, with fmt's text TOLD by the authors' own Lean function (tested against real Go, not proved from fmt's source: count such statements apart). THE CARD IS WHAT COUNTS. Prove the row's statement (the work); the ties are given (YtecdnhcojfdgmaaGreatDoorTie.lean); close each card by the builder's one call (the guide's Derived/Test/ToyasCard.lean, 'card_holds'). Laid BY PROGRAM, IN A SANDBOX (cutbox-door.mjs). By AI agents, Wed Nov 11 2026. No macro, syntax, notation, axiom, sorry.
-/
import Derived.Test.YtecdnhcojfdgmaaGreatDoorRows
import GoSem.ClaimSeven
namespace Go.Proofs.YtecdnhcojfdgmaaGreatDoor
namespace Rows

/-- THE TIED CARD OF 'pagewatchlaw07.SyntaxLines'. -/
def syntaxLinesCard : Claim7 := { stood := { row := syntaxLinesRow, standIns := [], harness := (true, "4466c946bba658f37f1346ac6de061e1df339babbf6b3edc5ce9f2c5d28d9b05"), looks := true }, kinds := [], alts := [], laidByText := true, laidKinds := [.data, .data, .data, .data, .sentinel, .sentinel, .listed, .data, .pinned], laidTests := true, laidLooks := .later }
def SyntaxLinesCardSaid : Prop := Claim7.holds Tryz.pinned (.plain (OpenSpec.ofChange syntaxLinesSpec)) syntaxLinesCard

/-- THE TIED CARD OF 'pagewatchlaw07.SyntaxBack'. -/
def syntaxBackCard : Claim7 := { stood := { row := syntaxBackRow, standIns := [], harness := (true, "4466c946bba658f37f1346ac6de061e1df339babbf6b3edc5ce9f2c5d28d9b05"), looks := true }, kinds := [], alts := [], laidByText := true, laidKinds := [.data, .data, .data, .data, .sentinel, .sentinel, .listed, .data, .pinned], laidTests := true, laidLooks := .later }
def SyntaxBackCardSaid : Prop := Claim7.holds Tryz.pinned (.plain (OpenSpec.ofChange syntaxBackSpec)) syntaxBackCard

/-- THE SECOND FORM's CARD OF 'pagewatchlaw07.SyntaxLines'. -/
def syntaxLinesUptoCard : Claim7 := { stood := { row := syntaxLinesUptoRow, standIns := [], harness := (true, "4466c946bba658f37f1346ac6de061e1df339babbf6b3edc5ce9f2c5d28d9b05"), looks := true }, kinds := [], alts := [], laidByText := true, laidKinds := [.data, .data, .data, .data, .sentinel, .sentinel, .listed, .data, .pinned], laidTests := true, laidLooks := .later }
def SyntaxLinesUptoCardSaid : Prop := Claim7.holds Tryz.pinned (.plain (OpenSpec.upto syntaxLinesSpec)) syntaxLinesUptoCard

/-- THE SECOND FORM's CARD OF 'pagewatchlaw07.SyntaxBack'. -/
def syntaxBackUptoCard : Claim7 := { stood := { row := syntaxBackUptoRow, standIns := [], harness := (true, "4466c946bba658f37f1346ac6de061e1df339babbf6b3edc5ce9f2c5d28d9b05"), looks := true }, kinds := [], alts := [], laidByText := true, laidKinds := [.data, .data, .data, .data, .sentinel, .sentinel, .listed, .data, .pinned], laidTests := true, laidLooks := .later }
def SyntaxBackUptoCardSaid : Prop := Claim7.holds Tryz.pinned (.plain (OpenSpec.upto syntaxBackSpec)) syntaxBackUptoCard
end Rows
end Go.Proofs.YtecdnhcojfdgmaaGreatDoor
