/-
  DERIVED. GIVEN WITH THE SEED: THE CARDS: each row of YtegofjgkamhgaaaGreatDoorRows.lean that lists a variable, with what it lists TIED to the program's text (the seventh form; the later family's looks); each row that meets fmt, with fmt's text TOLD by the authors' own Lean function (tested against real Go, not proved from fmt's source: count such statements apart). THE CARD IS WHAT COUNTS. Prove the row's statement (the work); the ties are given (YtegofjgkamhgaaaGreatDoorTie.lean); close each card by the builder's one call (the guide's Derived/Test/ToyasCard.lean, 'card_holds'). Laid BY PROGRAM, IN A SANDBOX (cutbox-door.mjs). By AI agents, Wed Nov 11 2026. No macro, syntax, notation, axiom, sorry.
-/
import Derived.Test.YtegofjgkamhgaaaGreatDoorRows
import GoSem.ClaimSeven
namespace Go.Proofs.YtegofjgkamhgaaaGreatDoor
namespace Rows

/-- THE TIED CARD OF 'pagewatchtop.TopSilence'. -/
def topSilenceCard : Claim7 := { stood := { row := topSilenceRow, standIns := [], harness := (true, "6f4ac0bda69873d9b08404287890b4375dd6ed0dfbf17c3b50b6232254d44b29"), looks := true }, kinds := [], alts := [], laidByText := true, laidKinds := [.data, .data, .data, .data, .sentinel, .sentinel, .listed, .data, .pinned], laidTests := true, laidLooks := .later }
def TopSilenceCardSaid : Prop := Claim7.holds Tryz.pinned (.plain (OpenSpec.ofChange topSilenceSpec)) topSilenceCard

/-- THE SECOND FORM's CARD OF 'pagewatchtop.TopSilence'. -/
def topSilenceUptoCard : Claim7 := { stood := { row := topSilenceUptoRow, standIns := [], harness := (true, "6f4ac0bda69873d9b08404287890b4375dd6ed0dfbf17c3b50b6232254d44b29"), looks := true }, kinds := [], alts := [], laidByText := true, laidKinds := [.data, .data, .data, .data, .sentinel, .sentinel, .listed, .data, .pinned], laidTests := true, laidLooks := .later }
def TopSilenceUptoCardSaid : Prop := Claim7.holds Tryz.pinned (.plain (OpenSpec.upto topSilenceSpec)) topSilenceUptoCard
end Rows
end Go.Proofs.YtegofjgkamhgaaaGreatDoor
