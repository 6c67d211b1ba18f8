/-
  DERIVED. GIVEN WITH THE SEED: THE CARDS: each row of YthcfejpkighedaaGreatDoorRows.lean that lists a variable, with what it lists TIED to the program's text (the seventh form; the later family's looks); each row that meets fmt, with fmt's text TOLD by the authors' own Lean function (tested against real Go, not proved from fmt's source: count such statements apart). THE CARD IS WHAT COUNTS. Prove the row's statement (the work); the ties are given (YthcfejpkighedaaGreatDoorTie.lean); close each card by the builder's one call (the guide's Derived/Test/ToyasCard.lean, 'card_holds'). Laid BY PROGRAM, IN A SANDBOX (cutbox-door.mjs). By AI agents, Wed Nov 11 2026. No macro, syntax, notation, axiom, sorry.
-/
import Derived.Test.YthcfejpkighedaaGreatDoorRows
import GoSem.ClaimSeven
namespace Go.Proofs.YthcfejpkighedaaGreatDoor
namespace Rows

/-- THE TIED CARD OF 'pagewatchlaw08.ResolveLimits'. -/
def resolveLimitsCard : Claim7 := { stood := { row := resolveLimitsRow, standIns := [], harness := (true, "201acd94b98a6f195a794913256c6cd57cf15bfcde5c09f6aaaf1b993214de69"), looks := true }, kinds := [], alts := [], laidByText := true, laidKinds := [.data, .data, .data, .data, .sentinel, .sentinel, .listed, .data, .pinned], laidTests := true, laidLooks := .later }
def ResolveLimitsCardSaid : Prop := Claim7.holds Tryz.pinned (.plain (OpenSpec.ofChange resolveLimitsSpec)) resolveLimitsCard

/-- THE TIED CARD OF 'pagewatchlaw08.ResolveSound'. -/
def resolveSoundCard : Claim7 := { stood := { row := resolveSoundRow, standIns := [], harness := (true, "201acd94b98a6f195a794913256c6cd57cf15bfcde5c09f6aaaf1b993214de69"), looks := true }, kinds := [], alts := [], laidByText := true, laidKinds := [.data, .data, .data, .data, .sentinel, .sentinel, .listed, .data, .pinned], laidTests := true, laidLooks := .later }
def ResolveSoundCardSaid : Prop := Claim7.holds Tryz.pinned (.plain (OpenSpec.ofChange resolveSoundSpec)) resolveSoundCard

/-- THE TIED CARD OF 'pagewatchlaw08.ResolveNames'. -/
def resolveNamesCard : Claim7 := { stood := { row := resolveNamesRow, standIns := [], harness := (true, "201acd94b98a6f195a794913256c6cd57cf15bfcde5c09f6aaaf1b993214de69"), looks := true }, kinds := [], alts := [], laidByText := true, laidKinds := [.data, .data, .data, .data, .sentinel, .sentinel, .listed, .data, .pinned], laidTests := true, laidLooks := .later }
def ResolveNamesCardSaid : Prop := Claim7.holds Tryz.pinned (.plain (OpenSpec.ofChange resolveNamesSpec)) resolveNamesCard

/-- THE SECOND FORM's CARD OF 'pagewatchlaw08.ResolveLimits'. -/
def resolveLimitsUptoCard : Claim7 := { stood := { row := resolveLimitsUptoRow, standIns := [], harness := (true, "201acd94b98a6f195a794913256c6cd57cf15bfcde5c09f6aaaf1b993214de69"), looks := true }, kinds := [], alts := [], laidByText := true, laidKinds := [.data, .data, .data, .data, .sentinel, .sentinel, .listed, .data, .pinned], laidTests := true, laidLooks := .later }
def ResolveLimitsUptoCardSaid : Prop := Claim7.holds Tryz.pinned (.plain (OpenSpec.upto resolveLimitsSpec)) resolveLimitsUptoCard

/-- THE SECOND FORM's CARD OF 'pagewatchlaw08.ResolveSound'. -/
def resolveSoundUptoCard : Claim7 := { stood := { row := resolveSoundUptoRow, standIns := [], harness := (true, "201acd94b98a6f195a794913256c6cd57cf15bfcde5c09f6aaaf1b993214de69"), looks := true }, kinds := [], alts := [], laidByText := true, laidKinds := [.data, .data, .data, .data, .sentinel, .sentinel, .listed, .data, .pinned], laidTests := true, laidLooks := .later }
def ResolveSoundUptoCardSaid : Prop := Claim7.holds Tryz.pinned (.plain (OpenSpec.upto resolveSoundSpec)) resolveSoundUptoCard

/-- THE SECOND FORM's CARD OF 'pagewatchlaw08.ResolveNames'. -/
def resolveNamesUptoCard : Claim7 := { stood := { row := resolveNamesUptoRow, standIns := [], harness := (true, "201acd94b98a6f195a794913256c6cd57cf15bfcde5c09f6aaaf1b993214de69"), looks := true }, kinds := [], alts := [], laidByText := true, laidKinds := [.data, .data, .data, .data, .sentinel, .sentinel, .listed, .data, .pinned], laidTests := true, laidLooks := .later }
def ResolveNamesUptoCardSaid : Prop := Claim7.holds Tryz.pinned (.plain (OpenSpec.upto resolveNamesSpec)) resolveNamesUptoCard
end Rows
end Go.Proofs.YthcfejpkighedaaGreatDoor
