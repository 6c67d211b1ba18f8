/-
  DERIVED. GIVEN WITH THE SEED: THE CARDS: each row of YtjkjicgdffnmbaaGreatDoorRows.lean that lists a variable, with what it lists TIED to the program's text (the seventh form; the later family's looks); each row that meets fmt, with fmt's text TOLD by the authors' own Lean function (tested against real Go, not proved from fmt's source: count such statements apart). THE CARD IS WHAT COUNTS. Prove the row's statement (the work); the ties are given (YtjkjicgdffnmbaaGreatDoorTie.lean); close each card by the builder's one call (the guide's Derived/Test/ToyasCard.lean, 'card_holds'). Laid BY PROGRAM, IN A SANDBOX (cutbox-door.mjs). By AI agents, Wed Nov 11 2026. No macro, syntax, notation, axiom, sorry.
-/
import Derived.Test.YtjkjicgdffnmbaaGreatDoorRows
import GoSem.ClaimSeven
namespace Go.Proofs.YtjkjicgdffnmbaaGreatDoor
namespace Rows

/-- THE TIED CARD OF 'pagewatchlaw06.LexerExact'. -/
def lexerExactCard : Claim7 := { stood := { row := lexerExactRow, standIns := [], harness := (true, "48f51b0401eb637ea295c5280b8539c59ce19b3d17e081e1f8f989dec3330e28"), looks := true }, kinds := [], alts := [], laidByText := true, laidKinds := [.data, .data, .data, .data, .sentinel, .sentinel, .listed, .data, .pinned], laidTests := true, laidLooks := .later }
def LexerExactCardSaid : Prop := Claim7.holds Tryz.pinned (.plain (OpenSpec.ofChange lexerExactSpec)) lexerExactCard

/-- THE TIED CARD OF 'pagewatchlaw06.LexerBack'. -/
def lexerBackCard : Claim7 := { stood := { row := lexerBackRow, standIns := [], harness := (true, "48f51b0401eb637ea295c5280b8539c59ce19b3d17e081e1f8f989dec3330e28"), looks := true }, kinds := [], alts := [], laidByText := true, laidKinds := [.data, .data, .data, .data, .sentinel, .sentinel, .listed, .data, .pinned], laidTests := true, laidLooks := .later }
def LexerBackCardSaid : Prop := Claim7.holds Tryz.pinned (.plain (OpenSpec.ofChange lexerBackSpec)) lexerBackCard

/-- THE TIED CARD OF 'pagewatchlaw06.LexerLines'. -/
def lexerLinesCard : Claim7 := { stood := { row := lexerLinesRow, standIns := [], harness := (true, "48f51b0401eb637ea295c5280b8539c59ce19b3d17e081e1f8f989dec3330e28"), looks := true }, kinds := [], alts := [], laidByText := true, laidKinds := [.data, .data, .data, .data, .sentinel, .sentinel, .listed, .data, .pinned], laidTests := true, laidLooks := .later }
def LexerLinesCardSaid : Prop := Claim7.holds Tryz.pinned (.plain (OpenSpec.ofChange lexerLinesSpec)) lexerLinesCard

/-- THE SECOND FORM's CARD OF 'pagewatchlaw06.LexerExact'. -/
def lexerExactUptoCard : Claim7 := { stood := { row := lexerExactUptoRow, standIns := [], harness := (true, "48f51b0401eb637ea295c5280b8539c59ce19b3d17e081e1f8f989dec3330e28"), looks := true }, kinds := [], alts := [], laidByText := true, laidKinds := [.data, .data, .data, .data, .sentinel, .sentinel, .listed, .data, .pinned], laidTests := true, laidLooks := .later }
def LexerExactUptoCardSaid : Prop := Claim7.holds Tryz.pinned (.plain (OpenSpec.upto lexerExactSpec)) lexerExactUptoCard

/-- THE SECOND FORM's CARD OF 'pagewatchlaw06.LexerBack'. -/
def lexerBackUptoCard : Claim7 := { stood := { row := lexerBackUptoRow, standIns := [], harness := (true, "48f51b0401eb637ea295c5280b8539c59ce19b3d17e081e1f8f989dec3330e28"), looks := true }, kinds := [], alts := [], laidByText := true, laidKinds := [.data, .data, .data, .data, .sentinel, .sentinel, .listed, .data, .pinned], laidTests := true, laidLooks := .later }
def LexerBackUptoCardSaid : Prop := Claim7.holds Tryz.pinned (.plain (OpenSpec.upto lexerBackSpec)) lexerBackUptoCard

/-- THE SECOND FORM's CARD OF 'pagewatchlaw06.LexerLines'. -/
def lexerLinesUptoCard : Claim7 := { stood := { row := lexerLinesUptoRow, standIns := [], harness := (true, "48f51b0401eb637ea295c5280b8539c59ce19b3d17e081e1f8f989dec3330e28"), looks := true }, kinds := [], alts := [], laidByText := true, laidKinds := [.data, .data, .data, .data, .sentinel, .sentinel, .listed, .data, .pinned], laidTests := true, laidLooks := .later }
def LexerLinesUptoCardSaid : Prop := Claim7.holds Tryz.pinned (.plain (OpenSpec.upto lexerLinesSpec)) lexerLinesUptoCard
end Rows
end Go.Proofs.YtjkjicgdffnmbaaGreatDoor
