/-
  DERIVED. GIVEN WITH THE SEED: THE CARDS: each row of YtphncllfolehcaaGreatDoorRows.lean that lists a variable, with what it lists TIED to the program's text (the seventh form; the later family's looks); each row that meets fmt, with fmt's text TOLD by the authors' own Lean function (tested against real Go, not proved from fmt's source: count such statements apart). THE CARD IS WHAT COUNTS. Prove the row's statement (the work); the ties are given (YtphncllfolehcaaGreatDoorTie.lean); close each card by the builder's one call (the guide's Derived/Test/ToyasCard.lean, 'card_holds'). Laid BY PROGRAM, IN A SANDBOX (cutbox-door.mjs). By AI agents, Wed Nov 11 2026. No macro, syntax, notation, axiom, sorry.
-/
import Derived.Test.YtphncllfolehcaaGreatDoorRows
import GoSem.ClaimSeven
namespace Go.Proofs.YtphncllfolehcaaGreatDoor
namespace Rows

/-- THE TIED CARD OF 'pagewatchlaw41.TimelineMarks'. -/
def timelineMarksCard : Claim7 := { stood := { row := timelineMarksRow, standIns := [], harness := (true, "f21a2613ecfd7612440ce6d58766cbe48baf25ce40f7a35d3d3c158ca919d3fe"), looks := false }, kinds := [], alts := [], laidByText := true, laidKinds := [.data, .data, .data], laidTests := true, laidLooks := .later }
def TimelineMarksCardSaid : Prop := Claim7.holds Tryz.pinned (.plain (OpenSpec.ofChange timelineMarksSpec)) timelineMarksCard

/-- THE TIED CARD OF 'pagewatchlaw41.TimelineMerges'. -/
def timelineMergesCard : Claim7 := { stood := { row := timelineMergesRow, standIns := [], harness := (true, "f21a2613ecfd7612440ce6d58766cbe48baf25ce40f7a35d3d3c158ca919d3fe"), looks := false }, kinds := [], alts := [], laidByText := true, laidKinds := [.data, .data, .data], laidTests := true, laidLooks := .later }
def TimelineMergesCardSaid : Prop := Claim7.holds Tryz.pinned (.plain (OpenSpec.ofChange timelineMergesSpec)) timelineMergesCard

/-- THE TIED CARD OF 'pagewatchlaw41.TimelineHosts'. -/
def timelineHostsCard : Claim7 := { stood := { row := timelineHostsRow, standIns := [], harness := (true, "f21a2613ecfd7612440ce6d58766cbe48baf25ce40f7a35d3d3c158ca919d3fe"), looks := false }, kinds := [], alts := [], laidByText := true, laidKinds := [.data, .data, .data], laidTests := true, laidLooks := .later }
def TimelineHostsCardSaid : Prop := Claim7.holds Tryz.pinned (.plain (OpenSpec.ofChange timelineHostsSpec)) timelineHostsCard

/-- THE SECOND FORM's CARD OF 'pagewatchlaw41.TimelineMarks'. -/
def timelineMarksUptoCard : Claim7 := { stood := { row := timelineMarksUptoRow, standIns := [], harness := (true, "f21a2613ecfd7612440ce6d58766cbe48baf25ce40f7a35d3d3c158ca919d3fe"), looks := false }, kinds := [], alts := [], laidByText := true, laidKinds := [.data, .data, .data], laidTests := true, laidLooks := .later }
def TimelineMarksUptoCardSaid : Prop := Claim7.holds Tryz.pinned (.plain (OpenSpec.upto timelineMarksSpec)) timelineMarksUptoCard

/-- THE SECOND FORM's CARD OF 'pagewatchlaw41.TimelineMerges'. -/
def timelineMergesUptoCard : Claim7 := { stood := { row := timelineMergesUptoRow, standIns := [], harness := (true, "f21a2613ecfd7612440ce6d58766cbe48baf25ce40f7a35d3d3c158ca919d3fe"), looks := false }, kinds := [], alts := [], laidByText := true, laidKinds := [.data, .data, .data], laidTests := true, laidLooks := .later }
def TimelineMergesUptoCardSaid : Prop := Claim7.holds Tryz.pinned (.plain (OpenSpec.upto timelineMergesSpec)) timelineMergesUptoCard

/-- THE SECOND FORM's CARD OF 'pagewatchlaw41.TimelineHosts'. -/
def timelineHostsUptoCard : Claim7 := { stood := { row := timelineHostsUptoRow, standIns := [], harness := (true, "f21a2613ecfd7612440ce6d58766cbe48baf25ce40f7a35d3d3c158ca919d3fe"), looks := false }, kinds := [], alts := [], laidByText := true, laidKinds := [.data, .data, .data], laidTests := true, laidLooks := .later }
def TimelineHostsUptoCardSaid : Prop := Claim7.holds Tryz.pinned (.plain (OpenSpec.upto timelineHostsSpec)) timelineHostsUptoCard
end Rows
end Go.Proofs.YtphncllfolehcaaGreatDoor
