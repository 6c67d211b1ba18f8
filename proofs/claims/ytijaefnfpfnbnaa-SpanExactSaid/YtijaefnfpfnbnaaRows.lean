/-
  No cell of these rows narrows 'for every input' (looked for: loops, veiled, ifaces, maps, wideKeys, modest, calm, conditions, laid).
  DERIVED. THE GIVEN ROWS OF THIS SEAT. 5 by the template 'for every input the law returns true; each argument reads behind the call as it read before'; 0 by the template 'total and deterministic' (their statements: YtijaefnfpfnbnaaTotals.lean).
  GIVEN WITH THE SEED: the statements are not yours to turn. If you find one false, say at which input.
  Laid BY PROGRAM, IN A SANDBOX (cutbox-rows.mjs): the forced cells as the released guide's own fill.sh prints them over the translation 1462d6c08e008467… (all of the seat's roots in one cut). By AI agents, Wed Nov 11 2026. No macro, syntax, notation, axiom, sorry.
-/
import Derived.Test.YtijaefnfpfnbnaaChecked
import GoSem.Claim
import GoSem.ClaimJoined
import GoSem.ClaimMapViews
import Derived.JoinedTies
import Derived.KernelRfl
namespace Go.Proofs.Ytijaefnfpfnbnaa
/- THE CELL 'sum', in the pinned program and in every row, IS THE sha256 OF THE DUMP (.gsa) THAT YtijaefnfpfnbnaaProg.lean LOADS. Nothing in Lean hashes anything: it is a label: what it is worth is what the hold of that sum in a sandbox is worth. -/
noncomputable def Try.pinned : Pinned := { name := "ytijaefnfpfnbnaa", sum := "1462d6c08e0084676c6ca79f73034d3f9717eb4fb1e9e0d20834f7b46e2d1008", checked := Try.checked }
namespace Rows
def none {H : Type} : Left H := { results := [], args := [] }

/-- 'pagewatchlaw03.SpanForms': WHATEVER THE INPUT: true; the input reads as it did. -/
def spanFormsSpec : ChangeSpec := { name := "spanForms", fn := fun _ => fun
  | [d1, d2] => { results := [.lit (.bool true)], args := [d1, d2] }
  | _ => none }
def spanFormsRow : OpenClaim := { program := "ytijaefnfpfnbnaa", sum := "1462d6c08e0084676c6ca79f73034d3f9717eb4fb1e9e0d20834f7b46e2d1008", func := "pagewatch/pagewatchlaw03.SpanForms", spec := "spanForms", unfollowed := true, recurses := true, apart := false }
def SpanFormsSaid : Prop := spanFormsRow.holds Try.pinned (OpenSpec.ofChange spanFormsSpec)

/-- ITS FALSE NEIGHBOUR: 'it returns false'. Refute it at one input. -/
def spanFormsWrong : ChangeSpec := { name := "spanForms", fn := fun _ => fun
  | [d1, d2] => { results := [.lit (.bool false)], args := [d1, d2] }
  | _ => none }
def SpanFormsWrongFalsely : Prop := spanFormsRow.holds Try.pinned (OpenSpec.ofChange spanFormsWrong)

/-- 'pagewatchlaw03.SpanNext': WHATEVER THE INPUT: true; the input reads as it did. -/
def spanNextSpec : ChangeSpec := { name := "spanNext", fn := fun _ => fun
  | [d1, d2] => { results := [.lit (.bool true)], args := [d1, d2] }
  | _ => none }
def spanNextRow : OpenClaim := { program := "ytijaefnfpfnbnaa", sum := "1462d6c08e0084676c6ca79f73034d3f9717eb4fb1e9e0d20834f7b46e2d1008", func := "pagewatch/pagewatchlaw03.SpanNext", spec := "spanNext", unfollowed := true, recurses := true, apart := false }
def SpanNextSaid : Prop := spanNextRow.holds Try.pinned (OpenSpec.ofChange spanNextSpec)

/-- ITS FALSE NEIGHBOUR: 'it returns false'. Refute it at one input. -/
def spanNextWrong : ChangeSpec := { name := "spanNext", fn := fun _ => fun
  | [d1, d2] => { results := [.lit (.bool false)], args := [d1, d2] }
  | _ => none }
def SpanNextWrongFalsely : Prop := spanNextRow.holds Try.pinned (OpenSpec.ofChange spanNextWrong)

/-- 'pagewatchlaw03.SpanLaws': WHATEVER THE INPUT: true; the input reads as it did. -/
def spanLawsSpec : ChangeSpec := { name := "spanLaws", fn := fun _ => fun
  | [d] => { results := [.lit (.bool true)], args := [d] }
  | _ => none }
def spanLawsRow : OpenClaim := { program := "ytijaefnfpfnbnaa", sum := "1462d6c08e0084676c6ca79f73034d3f9717eb4fb1e9e0d20834f7b46e2d1008", func := "pagewatch/pagewatchlaw03.SpanLaws", spec := "spanLaws", unfollowed := true, recurses := true, apart := false }
def SpanLawsSaid : Prop := spanLawsRow.holds Try.pinned (OpenSpec.ofChange spanLawsSpec)

/-- ITS FALSE NEIGHBOUR: 'it returns false'. Refute it at one input. -/
def spanLawsWrong : ChangeSpec := { name := "spanLaws", fn := fun _ => fun
  | [d] => { results := [.lit (.bool false)], args := [d] }
  | _ => none }
def SpanLawsWrongFalsely : Prop := spanLawsRow.holds Try.pinned (OpenSpec.ofChange spanLawsWrong)

/-- 'pagewatchlaw03.SpanPoints': WHATEVER THE INPUT: true; the input reads as it did. -/
def spanPointsSpec : ChangeSpec := { name := "spanPoints", fn := fun _ => fun
  | [d] => { results := [.lit (.bool true)], args := [d] }
  | _ => none }
def spanPointsRow : OpenClaim := { program := "ytijaefnfpfnbnaa", sum := "1462d6c08e0084676c6ca79f73034d3f9717eb4fb1e9e0d20834f7b46e2d1008", func := "pagewatch/pagewatchlaw03.SpanPoints", spec := "spanPoints", unfollowed := true, recurses := true, apart := false }
def SpanPointsSaid : Prop := spanPointsRow.holds Try.pinned (OpenSpec.ofChange spanPointsSpec)

/-- ITS FALSE NEIGHBOUR: 'it returns false'. Refute it at one input. -/
def spanPointsWrong : ChangeSpec := { name := "spanPoints", fn := fun _ => fun
  | [d] => { results := [.lit (.bool false)], args := [d] }
  | _ => none }
def SpanPointsWrongFalsely : Prop := spanPointsRow.holds Try.pinned (OpenSpec.ofChange spanPointsWrong)

/-- 'pagewatchlaw03.SpanExact': WHATEVER THE INPUT: true; the input reads as it did. -/
def spanExactSpec : ChangeSpec := { name := "spanExact", fn := fun _ => fun
  | [d1, d2, d3, d4, d5] => { results := [.lit (.bool true)], args := [d1, d2, d3, d4, d5] }
  | _ => none }
def spanExactRow : OpenClaim := { program := "ytijaefnfpfnbnaa", sum := "1462d6c08e0084676c6ca79f73034d3f9717eb4fb1e9e0d20834f7b46e2d1008", func := "pagewatch/pagewatchlaw03.SpanExact", spec := "spanExact", unfollowed := true, recurses := true, apart := false }
def SpanExactSaid : Prop := spanExactRow.holds Try.pinned (OpenSpec.ofChange spanExactSpec)

/-- ITS FALSE NEIGHBOUR: 'it returns false'. Refute it at one input. -/
def spanExactWrong : ChangeSpec := { name := "spanExact", fn := fun _ => fun
  | [d1, d2, d3, d4, d5] => { results := [.lit (.bool false)], args := [d1, d2, d3, d4, d5] }
  | _ => none }
def SpanExactWrongFalsely : Prop := spanExactRow.holds Try.pinned (OpenSpec.ofChange spanExactWrong)

/- THE SECOND FORM. 'bulk': how many values and letters a reading holds, each counted each time it is reached (what is shared counts as often as it is met; a slice's spare places count too). A statement '..UptoSaid' is the law's where the arguments, and the package variables that the reading takes, are together of bulk at most 1048576: NARROWER than '..Said'. Prove '..Said' where nothing that the law and all that it calls make is longer than what came in: it says more and counts as full. Else prove '..UptoSaid'. A law counts once. -/
mutual
def uptoBulk {H : Type} : DataW H → Nat
  | .lit (.string bytes) => bytes.length + 1
  | .lit _ => 1
  | .nil => 1
  | .ptr d => uptoBulk d + 1
  | .slice elems spare => uptoBulkAll elems + uptoBulkAll spare + 1
  | .agg parts => uptoBulkAll parts + 1
  | .iface _ d => uptoBulk d + 1
  | .map entries => uptoBulkEntries entries + 1
  | .held _ => 1
def uptoBulkAll {H : Type} : List (DataW H) → Nat
  | [] => 0
  | d :: r => uptoBulk d + uptoBulkAll r
def uptoBulkEntries {H : Type} : List (Lit × DataW H) → Nat
  | [] => 0
  | x :: r => uptoBulkEntry x + uptoBulkEntries r
def uptoBulkEntry {H : Type} : Lit × DataW H → Nat
  | (.string bytes, d) => bytes.length + uptoBulk d + 1
  | (_, d) => uptoBulk d + 1
 end
def uptoSmall : (H : Type) → List (DataW H) → Bool := fun _ ds => decide (uptoBulkAll ds ≤ 1048576)
def OpenSpec.upto (s : _root_.Go.ChangeSpec) : _root_.Go.OpenSpec := { _root_.Go.OpenSpec.ofChange s with cond := some uptoSmall }

/-- 'pagewatchlaw03.SpanForms', WHERE WHAT IT READS IS OF BULK AT MOST 1048576: true; the input reads as it did. -/
def spanFormsUptoRow : OpenClaim := { program := "ytijaefnfpfnbnaa", sum := "1462d6c08e0084676c6ca79f73034d3f9717eb4fb1e9e0d20834f7b46e2d1008", func := "pagewatch/pagewatchlaw03.SpanForms", spec := "spanForms", unfollowed := true, recurses := true, apart := false, narrowed := true }
def SpanFormsUptoSaid : Prop := spanFormsUptoRow.holds Try.pinned (OpenSpec.upto spanFormsSpec)

/-- 'pagewatchlaw03.SpanNext', WHERE WHAT IT READS IS OF BULK AT MOST 1048576: true; the input reads as it did. -/
def spanNextUptoRow : OpenClaim := { program := "ytijaefnfpfnbnaa", sum := "1462d6c08e0084676c6ca79f73034d3f9717eb4fb1e9e0d20834f7b46e2d1008", func := "pagewatch/pagewatchlaw03.SpanNext", spec := "spanNext", unfollowed := true, recurses := true, apart := false, narrowed := true }
def SpanNextUptoSaid : Prop := spanNextUptoRow.holds Try.pinned (OpenSpec.upto spanNextSpec)

/-- 'pagewatchlaw03.SpanLaws', WHERE WHAT IT READS IS OF BULK AT MOST 1048576: true; the input reads as it did. -/
def spanLawsUptoRow : OpenClaim := { program := "ytijaefnfpfnbnaa", sum := "1462d6c08e0084676c6ca79f73034d3f9717eb4fb1e9e0d20834f7b46e2d1008", func := "pagewatch/pagewatchlaw03.SpanLaws", spec := "spanLaws", unfollowed := true, recurses := true, apart := false, narrowed := true }
def SpanLawsUptoSaid : Prop := spanLawsUptoRow.holds Try.pinned (OpenSpec.upto spanLawsSpec)

/-- 'pagewatchlaw03.SpanPoints', WHERE WHAT IT READS IS OF BULK AT MOST 1048576: true; the input reads as it did. -/
def spanPointsUptoRow : OpenClaim := { program := "ytijaefnfpfnbnaa", sum := "1462d6c08e0084676c6ca79f73034d3f9717eb4fb1e9e0d20834f7b46e2d1008", func := "pagewatch/pagewatchlaw03.SpanPoints", spec := "spanPoints", unfollowed := true, recurses := true, apart := false, narrowed := true }
def SpanPointsUptoSaid : Prop := spanPointsUptoRow.holds Try.pinned (OpenSpec.upto spanPointsSpec)

/-- 'pagewatchlaw03.SpanExact', WHERE WHAT IT READS IS OF BULK AT MOST 1048576: true; the input reads as it did. -/
def spanExactUptoRow : OpenClaim := { program := "ytijaefnfpfnbnaa", sum := "1462d6c08e0084676c6ca79f73034d3f9717eb4fb1e9e0d20834f7b46e2d1008", func := "pagewatch/pagewatchlaw03.SpanExact", spec := "spanExact", unfollowed := true, recurses := true, apart := false, narrowed := true }
def SpanExactUptoSaid : Prop := spanExactUptoRow.holds Try.pinned (OpenSpec.upto spanExactSpec)

end Rows
end Go.Proofs.Ytijaefnfpfnbnaa
