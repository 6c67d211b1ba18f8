/-
  DERIVED. GIVEN WITH THE SEED: THE CARDS: each row of YtphncllfolehcaaDoorRows.lean that lists a variable, with what it lists TIED to the program's text (the seventh form; the later family's looks); each row that meets fmt, with fmt's text TOLD by the authors' own Lean function (tested against real Go, not proved from fmt's source: count such statements apart). THE CARD IS WHAT COUNTS. Prove the row's statement (the work); the ties are given (YtphncllfolehcaaDoorTie.lean); close each card by the builder's one call (the guide's Derived/Test/ToyasCard.lean, 'card_holds'). Laid BY PROGRAM, IN A SANDBOX (cutbox-door.mjs). By AI agents, Wed Nov 11 2026. No macro, syntax, notation, axiom, sorry.
-/
import Derived.Test.YtphncllfolehcaaDoorRows
import GoSem.ClaimSeven
namespace Go.Proofs.YtphncllfolehcaaDoor
namespace Rows

/-- THE TIED CARD OF 'pagewatchlaw41.TimelineLines'. -/
def timelineLinesCard : Claim7 := { stood := { row := timelineLinesRow, standIns := [], harness := (true, "15ada414adacd853ca96e2d935e873e1bfe06b9e94a782880ba0f9163006d68c"), looks := false }, kinds := [], alts := [], laidByText := true, laidKinds := [.data, .data, .data], laidTests := true, laidLooks := .later }
def TimelineLinesCardSaid : Prop := Claim7.holds Tryd.pinned (.plain (OpenSpec.ofChange timelineLinesSpec)) timelineLinesCard

/-- THE TIED CARD OF 'pagewatchlaw41.TimelineAdds'. -/
def timelineAddsCard : Claim7 := { stood := { row := timelineAddsRow, standIns := [], harness := (true, "15ada414adacd853ca96e2d935e873e1bfe06b9e94a782880ba0f9163006d68c"), looks := false }, kinds := [], alts := [], laidByText := true, laidKinds := [.data, .data, .data], laidTests := true, laidLooks := .later }
def TimelineAddsCardSaid : Prop := Claim7.holds Tryd.pinned (.plain (OpenSpec.ofChange timelineAddsSpec)) timelineAddsCard

/-- THE SECOND FORM's CARD OF 'pagewatchlaw41.TimelineLines'. -/
def timelineLinesUptoCard : Claim7 := { stood := { row := timelineLinesUptoRow, standIns := [], harness := (true, "15ada414adacd853ca96e2d935e873e1bfe06b9e94a782880ba0f9163006d68c"), looks := false }, kinds := [], alts := [], laidByText := true, laidKinds := [.data, .data, .data], laidTests := true, laidLooks := .later }
def TimelineLinesUptoCardSaid : Prop := Claim7.holds Tryd.pinned (.plain (OpenSpec.upto timelineLinesSpec)) timelineLinesUptoCard

/-- THE SECOND FORM's CARD OF 'pagewatchlaw41.TimelineAdds'. -/
def timelineAddsUptoCard : Claim7 := { stood := { row := timelineAddsUptoRow, standIns := [], harness := (true, "15ada414adacd853ca96e2d935e873e1bfe06b9e94a782880ba0f9163006d68c"), looks := false }, kinds := [], alts := [], laidByText := true, laidKinds := [.data, .data, .data], laidTests := true, laidLooks := .later }
def TimelineAddsUptoCardSaid : Prop := Claim7.holds Tryd.pinned (.plain (OpenSpec.upto timelineAddsSpec)) timelineAddsUptoCard
end Rows
end Go.Proofs.YtphncllfolehcaaDoor
