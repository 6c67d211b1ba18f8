/-
  No cell of these rows narrows 'for every input' (looked for: loops, veiled, ifaces, maps, wideKeys, modest, calm, conditions, laid).
  DERIVED. THE GIVEN ROWS OF THIS SEAT. 7 by the template 'for every input the law returns true; each argument reads behind the call as it read before'; 0 by the template 'total and deterministic' (their statements: YtmghopaimcoloaaTotals.lean).
  GIVEN WITH THE SEED: the statements are not yours to turn. If you find one false, say at which input.
  Laid BY PROGRAM, IN A SANDBOX (cutbox-rows.mjs): the forced cells as the released guide's own fill.sh prints them over the translation 29970813ed6cb692… (all of the seat's roots in one cut). By AI agents, Wed Nov 11 2026. No macro, syntax, notation, axiom, sorry.
-/
import Derived.Test.YtmghopaimcoloaaChecked
import GoSem.Claim
import GoSem.ClaimJoined
import GoSem.ClaimMapViews
import Derived.JoinedTies
import Derived.KernelRfl
namespace Go.Proofs.Ytmghopaimcoloaa
/- THE CELL 'sum', in the pinned program and in every row, IS THE sha256 OF THE DUMP (.gsa) THAT YtmghopaimcoloaaProg.lean LOADS. Nothing in Lean hashes anything: it is a label: what it is worth is what the hold of that sum in a sandbox is worth. -/
noncomputable def Try.pinned : Pinned := { name := "ytmghopaimcoloaa", sum := "29970813ed6cb692ed416b746e656c82accdd53f370d6c8f2ffe1fc769f241d2", checked := Try.checked }
namespace Rows
def none {H : Type} : Left H := { results := [], args := [] }

/-- 'pagewatchlaw37.IncidentTasks': WHATEVER THE INPUT: true; the input reads as it did. -/
def incidentTasksSpec : ChangeSpec := { name := "incidentTasks", fn := fun _ => fun
  | [d] => { results := [.lit (.bool true)], args := [d] }
  | _ => none }
def incidentTasksRow : OpenClaim := { program := "ytmghopaimcoloaa", sum := "29970813ed6cb692ed416b746e656c82accdd53f370d6c8f2ffe1fc769f241d2", func := "pagewatch/pagewatchlaw37.IncidentTasks", spec := "incidentTasks", apart := false }
def IncidentTasksSaid : Prop := incidentTasksRow.holds Try.pinned (OpenSpec.ofChange incidentTasksSpec)

/-- ITS FALSE NEIGHBOUR: 'it returns false'. Refute it at one input. -/
def incidentTasksWrong : ChangeSpec := { name := "incidentTasks", fn := fun _ => fun
  | [d] => { results := [.lit (.bool false)], args := [d] }
  | _ => none }
def IncidentTasksWrongFalsely : Prop := incidentTasksRow.holds Try.pinned (OpenSpec.ofChange incidentTasksWrong)

/-- 'pagewatchlaw42.ReviewAdds': WHATEVER THE INPUT: true; the input reads as it did. -/
def reviewAddsSpec : ChangeSpec := { name := "reviewAdds", fn := fun _ => fun
  | [d] => { results := [.lit (.bool true)], args := [d] }
  | _ => none }
def reviewAddsRow : OpenClaim := { program := "ytmghopaimcoloaa", sum := "29970813ed6cb692ed416b746e656c82accdd53f370d6c8f2ffe1fc769f241d2", func := "pagewatch/pagewatchlaw42.ReviewAdds", spec := "reviewAdds", unfollowed := true, recurses := true, apart := false }
def ReviewAddsSaid : Prop := reviewAddsRow.holds Try.pinned (OpenSpec.ofChange reviewAddsSpec)

/-- ITS FALSE NEIGHBOUR: 'it returns false'. Refute it at one input. -/
def reviewAddsWrong : ChangeSpec := { name := "reviewAdds", fn := fun _ => fun
  | [d] => { results := [.lit (.bool false)], args := [d] }
  | _ => none }
def ReviewAddsWrongFalsely : Prop := reviewAddsRow.holds Try.pinned (OpenSpec.ofChange reviewAddsWrong)

/-- 'pagewatchlaw42.ReviewEncloses': WHATEVER THE INPUT: true; the input reads as it did. -/
def reviewEnclosesSpec : ChangeSpec := { name := "reviewEncloses", fn := fun _ => fun
  | [d1, d2, d3] => { results := [.lit (.bool true)], args := [d1, d2, d3] }
  | _ => none }
def reviewEnclosesRow : OpenClaim := { program := "ytmghopaimcoloaa", sum := "29970813ed6cb692ed416b746e656c82accdd53f370d6c8f2ffe1fc769f241d2", func := "pagewatch/pagewatchlaw42.ReviewEncloses", spec := "reviewEncloses", unfollowed := true, recurses := true, apart := false }
def ReviewEnclosesSaid : Prop := reviewEnclosesRow.holds Try.pinned (OpenSpec.ofChange reviewEnclosesSpec)

/-- ITS FALSE NEIGHBOUR: 'it returns false'. Refute it at one input. -/
def reviewEnclosesWrong : ChangeSpec := { name := "reviewEncloses", fn := fun _ => fun
  | [d1, d2, d3] => { results := [.lit (.bool false)], args := [d1, d2, d3] }
  | _ => none }
def ReviewEnclosesWrongFalsely : Prop := reviewEnclosesRow.holds Try.pinned (OpenSpec.ofChange reviewEnclosesWrong)

/-- 'pagewatchlaw42.ReviewWithin': WHATEVER THE INPUT: true; the input reads as it did. -/
def reviewWithinSpec : ChangeSpec := { name := "reviewWithin", fn := fun _ => fun
  | [d1, d2, d3] => { results := [.lit (.bool true)], args := [d1, d2, d3] }
  | _ => none }
def reviewWithinRow : OpenClaim := { program := "ytmghopaimcoloaa", sum := "29970813ed6cb692ed416b746e656c82accdd53f370d6c8f2ffe1fc769f241d2", func := "pagewatch/pagewatchlaw42.ReviewWithin", spec := "reviewWithin", unfollowed := true, recurses := true, apart := false }
def ReviewWithinSaid : Prop := reviewWithinRow.holds Try.pinned (OpenSpec.ofChange reviewWithinSpec)

/-- ITS FALSE NEIGHBOUR: 'it returns false'. Refute it at one input. -/
def reviewWithinWrong : ChangeSpec := { name := "reviewWithin", fn := fun _ => fun
  | [d1, d2, d3] => { results := [.lit (.bool false)], args := [d1, d2, d3] }
  | _ => none }
def ReviewWithinWrongFalsely : Prop := reviewWithinRow.holds Try.pinned (OpenSpec.ofChange reviewWithinWrong)

/-- 'pagewatchlaw37.IncidentMoves': WHATEVER THE INPUT: true; the input reads as it did. -/
def incidentMovesSpec : ChangeSpec := { name := "incidentMoves", fn := fun _ => fun
  | [d] => { results := [.lit (.bool true)], args := [d] }
  | _ => none }
def incidentMovesRow : OpenClaim := { program := "ytmghopaimcoloaa", sum := "29970813ed6cb692ed416b746e656c82accdd53f370d6c8f2ffe1fc769f241d2", func := "pagewatch/pagewatchlaw37.IncidentMoves", spec := "incidentMoves", recurses := true, apart := false }
def IncidentMovesSaid : Prop := incidentMovesRow.holds Try.pinned (OpenSpec.ofChange incidentMovesSpec)

/-- ITS FALSE NEIGHBOUR: 'it returns false'. Refute it at one input. -/
def incidentMovesWrong : ChangeSpec := { name := "incidentMoves", fn := fun _ => fun
  | [d] => { results := [.lit (.bool false)], args := [d] }
  | _ => none }
def IncidentMovesWrongFalsely : Prop := incidentMovesRow.holds Try.pinned (OpenSpec.ofChange incidentMovesWrong)

/-- 'pagewatchlaw37.IncidentMerges': WHATEVER THE INPUT: true; the input reads as it did. -/
def incidentMergesSpec : ChangeSpec := { name := "incidentMerges", fn := fun _ => fun
  | [d1, d2, d3] => { results := [.lit (.bool true)], args := [d1, d2, d3] }
  | _ => none }
def incidentMergesRow : OpenClaim := { program := "ytmghopaimcoloaa", sum := "29970813ed6cb692ed416b746e656c82accdd53f370d6c8f2ffe1fc769f241d2", func := "pagewatch/pagewatchlaw37.IncidentMerges", spec := "incidentMerges", recurses := true, apart := false }
def IncidentMergesSaid : Prop := incidentMergesRow.holds Try.pinned (OpenSpec.ofChange incidentMergesSpec)

/-- ITS FALSE NEIGHBOUR: 'it returns false'. Refute it at one input. -/
def incidentMergesWrong : ChangeSpec := { name := "incidentMerges", fn := fun _ => fun
  | [d1, d2, d3] => { results := [.lit (.bool false)], args := [d1, d2, d3] }
  | _ => none }
def IncidentMergesWrongFalsely : Prop := incidentMergesRow.holds Try.pinned (OpenSpec.ofChange incidentMergesWrong)

/-- 'pagewatchlaw37.IncidentTells': WHATEVER THE INPUT: true; the input reads as it did. -/
def incidentTellsSpec : ChangeSpec := { name := "incidentTells", fn := fun _ => fun
  | [d] => { results := [.lit (.bool true)], args := [d] }
  | _ => none }
def incidentTellsRow : OpenClaim := { program := "ytmghopaimcoloaa", sum := "29970813ed6cb692ed416b746e656c82accdd53f370d6c8f2ffe1fc769f241d2", func := "pagewatch/pagewatchlaw37.IncidentTells", spec := "incidentTells", recurses := true, apart := false }
def IncidentTellsSaid : Prop := incidentTellsRow.holds Try.pinned (OpenSpec.ofChange incidentTellsSpec)

/-- ITS FALSE NEIGHBOUR: 'it returns false'. Refute it at one input. -/
def incidentTellsWrong : ChangeSpec := { name := "incidentTells", fn := fun _ => fun
  | [d] => { results := [.lit (.bool false)], args := [d] }
  | _ => none }
def IncidentTellsWrongFalsely : Prop := incidentTellsRow.holds Try.pinned (OpenSpec.ofChange incidentTellsWrong)

/- THE SECOND FORM. 'bulk': how many values and letters a reading holds, each counted each time it is reached (what is shared counts as often as it is met; a slice's spare places count too). A statement '..UptoSaid' is the law's where the arguments, and the package variables that the reading takes, are together of bulk at most 1048576: NARROWER than '..Said'. Prove '..Said' where nothing that the law and all that it calls make is longer than what came in: it says more and counts as full. Else prove '..UptoSaid'. A law counts once. -/
mutual
def uptoBulk {H : Type} : DataW H → Nat
  | .lit (.string bytes) => bytes.length + 1
  | .lit _ => 1
  | .nil => 1
  | .ptr d => uptoBulk d + 1
  | .slice elems spare => uptoBulkAll elems + uptoBulkAll spare + 1
  | .agg parts => uptoBulkAll parts + 1
  | .iface _ d => uptoBulk d + 1
  | .map entries => uptoBulkEntries entries + 1
  | .held _ => 1
def uptoBulkAll {H : Type} : List (DataW H) → Nat
  | [] => 0
  | d :: r => uptoBulk d + uptoBulkAll r
def uptoBulkEntries {H : Type} : List (Lit × DataW H) → Nat
  | [] => 0
  | x :: r => uptoBulkEntry x + uptoBulkEntries r
def uptoBulkEntry {H : Type} : Lit × DataW H → Nat
  | (.string bytes, d) => bytes.length + uptoBulk d + 1
  | (_, d) => uptoBulk d + 1
 end
def uptoSmall : (H : Type) → List (DataW H) → Bool := fun _ ds => decide (uptoBulkAll ds ≤ 1048576)
def OpenSpec.upto (s : _root_.Go.ChangeSpec) : _root_.Go.OpenSpec := { _root_.Go.OpenSpec.ofChange s with cond := some uptoSmall }

/-- 'pagewatchlaw37.IncidentTasks', WHERE WHAT IT READS IS OF BULK AT MOST 1048576: true; the input reads as it did. -/
def incidentTasksUptoRow : OpenClaim := { program := "ytmghopaimcoloaa", sum := "29970813ed6cb692ed416b746e656c82accdd53f370d6c8f2ffe1fc769f241d2", func := "pagewatch/pagewatchlaw37.IncidentTasks", spec := "incidentTasks", apart := false, narrowed := true }
def IncidentTasksUptoSaid : Prop := incidentTasksUptoRow.holds Try.pinned (OpenSpec.upto incidentTasksSpec)

/-- 'pagewatchlaw42.ReviewAdds', WHERE WHAT IT READS IS OF BULK AT MOST 1048576: true; the input reads as it did. -/
def reviewAddsUptoRow : OpenClaim := { program := "ytmghopaimcoloaa", sum := "29970813ed6cb692ed416b746e656c82accdd53f370d6c8f2ffe1fc769f241d2", func := "pagewatch/pagewatchlaw42.ReviewAdds", spec := "reviewAdds", unfollowed := true, recurses := true, apart := false, narrowed := true }
def ReviewAddsUptoSaid : Prop := reviewAddsUptoRow.holds Try.pinned (OpenSpec.upto reviewAddsSpec)

/-- 'pagewatchlaw42.ReviewEncloses', WHERE WHAT IT READS IS OF BULK AT MOST 1048576: true; the input reads as it did. -/
def reviewEnclosesUptoRow : OpenClaim := { program := "ytmghopaimcoloaa", sum := "29970813ed6cb692ed416b746e656c82accdd53f370d6c8f2ffe1fc769f241d2", func := "pagewatch/pagewatchlaw42.ReviewEncloses", spec := "reviewEncloses", unfollowed := true, recurses := true, apart := false, narrowed := true }
def ReviewEnclosesUptoSaid : Prop := reviewEnclosesUptoRow.holds Try.pinned (OpenSpec.upto reviewEnclosesSpec)

/-- 'pagewatchlaw42.ReviewWithin', WHERE WHAT IT READS IS OF BULK AT MOST 1048576: true; the input reads as it did. -/
def reviewWithinUptoRow : OpenClaim := { program := "ytmghopaimcoloaa", sum := "29970813ed6cb692ed416b746e656c82accdd53f370d6c8f2ffe1fc769f241d2", func := "pagewatch/pagewatchlaw42.ReviewWithin", spec := "reviewWithin", unfollowed := true, recurses := true, apart := false, narrowed := true }
def ReviewWithinUptoSaid : Prop := reviewWithinUptoRow.holds Try.pinned (OpenSpec.upto reviewWithinSpec)

/-- 'pagewatchlaw37.IncidentMoves', WHERE WHAT IT READS IS OF BULK AT MOST 1048576: true; the input reads as it did. -/
def incidentMovesUptoRow : OpenClaim := { program := "ytmghopaimcoloaa", sum := "29970813ed6cb692ed416b746e656c82accdd53f370d6c8f2ffe1fc769f241d2", func := "pagewatch/pagewatchlaw37.IncidentMoves", spec := "incidentMoves", recurses := true, apart := false, narrowed := true }
def IncidentMovesUptoSaid : Prop := incidentMovesUptoRow.holds Try.pinned (OpenSpec.upto incidentMovesSpec)

/-- 'pagewatchlaw37.IncidentMerges', WHERE WHAT IT READS IS OF BULK AT MOST 1048576: true; the input reads as it did. -/
def incidentMergesUptoRow : OpenClaim := { program := "ytmghopaimcoloaa", sum := "29970813ed6cb692ed416b746e656c82accdd53f370d6c8f2ffe1fc769f241d2", func := "pagewatch/pagewatchlaw37.IncidentMerges", spec := "incidentMerges", recurses := true, apart := false, narrowed := true }
def IncidentMergesUptoSaid : Prop := incidentMergesUptoRow.holds Try.pinned (OpenSpec.upto incidentMergesSpec)

/-- 'pagewatchlaw37.IncidentTells', WHERE WHAT IT READS IS OF BULK AT MOST 1048576: true; the input reads as it did. -/
def incidentTellsUptoRow : OpenClaim := { program := "ytmghopaimcoloaa", sum := "29970813ed6cb692ed416b746e656c82accdd53f370d6c8f2ffe1fc769f241d2", func := "pagewatch/pagewatchlaw37.IncidentTells", spec := "incidentTells", recurses := true, apart := false, narrowed := true }
def IncidentTellsUptoSaid : Prop := incidentTellsUptoRow.holds Try.pinned (OpenSpec.upto incidentTellsSpec)

end Rows
end Go.Proofs.Ytmghopaimcoloaa
