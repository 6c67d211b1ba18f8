/-
  No cell of these rows narrows 'for every input' (looked for: loops, veiled, ifaces, maps, wideKeys, modest, calm, conditions, laid).
  DERIVED. THE GIVEN ROWS OF THIS SEAT. 12 by the template 'for every input the law returns true; each argument reads behind the call as it read before'; 0 by the template 'total and deterministic' (their statements: YtamnjokpncjbfaaTotals.lean).
  GIVEN WITH THE SEED: the statements are not yours to turn. If you find one false, say at which input.
  Laid BY PROGRAM, IN A SANDBOX (cutbox-rows.mjs): the forced cells as the released guide's own fill.sh prints them over the translation 4cecb0c74c940ba9… (all of the seat's roots in one cut). By AI agents, Wed Nov 11 2026. No macro, syntax, notation, axiom, sorry.
-/
import Derived.Test.YtamnjokpncjbfaaChecked
import GoSem.Claim
import GoSem.ClaimJoined
import GoSem.ClaimMapViews
import Derived.JoinedTies
import Derived.KernelRfl
namespace Go.Proofs.Ytamnjokpncjbfaa
/- THE CELL 'sum', in the pinned program and in every row, IS THE sha256 OF THE DUMP (.gsa) THAT YtamnjokpncjbfaaProg.lean LOADS. Nothing in Lean hashes anything: it is a label: what it is worth is what the hold of that sum in a sandbox is worth. -/
noncomputable def Try.pinned : Pinned := { name := "ytamnjokpncjbfaa", sum := "4cecb0c74c940ba9d1fca6b728a75a6ba7700ff1b5fe709cf61fac6d0a8cb6bf", checked := Try.checked }
namespace Rows
def none {H : Type} : Left H := { results := [], args := [] }

/-- 'pagewatchlaw38.ClockWidens': WHATEVER THE INPUT: true; the input reads as it did. -/
def clockWidensSpec : ChangeSpec := { name := "clockWidens", fn := fun _ => fun
  | [d1, d2, d3, d4] => { results := [.lit (.bool true)], args := [d1, d2, d3, d4] }
  | _ => none }
def clockWidensRow : OpenClaim := { program := "ytamnjokpncjbfaa", sum := "4cecb0c74c940ba9d1fca6b728a75a6ba7700ff1b5fe709cf61fac6d0a8cb6bf", func := "pagewatch/pagewatchlaw38.ClockWidens", spec := "clockWidens", unfollowed := true, recurses := true, apart := false }
def ClockWidensSaid : Prop := clockWidensRow.holds Try.pinned (OpenSpec.ofChange clockWidensSpec)

/-- ITS FALSE NEIGHBOUR: 'it returns false'. Refute it at one input. -/
def clockWidensWrong : ChangeSpec := { name := "clockWidens", fn := fun _ => fun
  | [d1, d2, d3, d4] => { results := [.lit (.bool false)], args := [d1, d2, d3, d4] }
  | _ => none }
def ClockWidensWrongFalsely : Prop := clockWidensRow.holds Try.pinned (OpenSpec.ofChange clockWidensWrong)

/-- 'pagewatchlaw38.ClockTrue': WHATEVER THE INPUT: true; the input reads as it did. -/
def clockTrueSpec : ChangeSpec := { name := "clockTrue", fn := fun _ => fun
  | [d1, d2] => { results := [.lit (.bool true)], args := [d1, d2] }
  | _ => none }
def clockTrueRow : OpenClaim := { program := "ytamnjokpncjbfaa", sum := "4cecb0c74c940ba9d1fca6b728a75a6ba7700ff1b5fe709cf61fac6d0a8cb6bf", func := "pagewatch/pagewatchlaw38.ClockTrue", spec := "clockTrue", unfollowed := true, recurses := true, apart := false }
def ClockTrueSaid : Prop := clockTrueRow.holds Try.pinned (OpenSpec.ofChange clockTrueSpec)

/-- ITS FALSE NEIGHBOUR: 'it returns false'. Refute it at one input. -/
def clockTrueWrong : ChangeSpec := { name := "clockTrue", fn := fun _ => fun
  | [d1, d2] => { results := [.lit (.bool false)], args := [d1, d2] }
  | _ => none }
def ClockTrueWrongFalsely : Prop := clockTrueRow.holds Try.pinned (OpenSpec.ofChange clockTrueWrong)

/-- 'pagewatchlaw38.ClockMoves': WHATEVER THE INPUT: true; the input reads as it did. -/
def clockMovesSpec : ChangeSpec := { name := "clockMoves", fn := fun _ => fun
  | [d1, d2] => { results := [.lit (.bool true)], args := [d1, d2] }
  | _ => none }
def clockMovesRow : OpenClaim := { program := "ytamnjokpncjbfaa", sum := "4cecb0c74c940ba9d1fca6b728a75a6ba7700ff1b5fe709cf61fac6d0a8cb6bf", func := "pagewatch/pagewatchlaw38.ClockMoves", spec := "clockMoves", unfollowed := true, recurses := true, apart := false }
def ClockMovesSaid : Prop := clockMovesRow.holds Try.pinned (OpenSpec.ofChange clockMovesSpec)

/-- ITS FALSE NEIGHBOUR: 'it returns false'. Refute it at one input. -/
def clockMovesWrong : ChangeSpec := { name := "clockMoves", fn := fun _ => fun
  | [d1, d2] => { results := [.lit (.bool false)], args := [d1, d2] }
  | _ => none }
def ClockMovesWrongFalsely : Prop := clockMovesRow.holds Try.pinned (OpenSpec.ofChange clockMovesWrong)

/-- 'pagewatchlaw38.ClockExact': WHATEVER THE INPUT: true; the input reads as it did. -/
def clockExactSpec : ChangeSpec := { name := "clockExact", fn := fun _ => fun
  | [d1, d2, d3, d4, d5, d6, d7, d8] => { results := [.lit (.bool true)], args := [d1, d2, d3, d4, d5, d6, d7, d8] }
  | _ => none }
def clockExactRow : OpenClaim := { program := "ytamnjokpncjbfaa", sum := "4cecb0c74c940ba9d1fca6b728a75a6ba7700ff1b5fe709cf61fac6d0a8cb6bf", func := "pagewatch/pagewatchlaw38.ClockExact", spec := "clockExact", unfollowed := true, recurses := true, apart := false }
def ClockExactSaid : Prop := clockExactRow.holds Try.pinned (OpenSpec.ofChange clockExactSpec)

/-- ITS FALSE NEIGHBOUR: 'it returns false'. Refute it at one input. -/
def clockExactWrong : ChangeSpec := { name := "clockExact", fn := fun _ => fun
  | [d1, d2, d3, d4, d5, d6, d7, d8] => { results := [.lit (.bool false)], args := [d1, d2, d3, d4, d5, d6, d7, d8] }
  | _ => none }
def ClockExactWrongFalsely : Prop := clockExactRow.holds Try.pinned (OpenSpec.ofChange clockExactWrong)

/-- 'pagewatchlaw38.ClockMore': WHATEVER THE INPUT: true; the input reads as it did. -/
def clockMoreSpec : ChangeSpec := { name := "clockMore", fn := fun _ => fun
  | [d] => { results := [.lit (.bool true)], args := [d] }
  | _ => none }
def clockMoreRow : OpenClaim := { program := "ytamnjokpncjbfaa", sum := "4cecb0c74c940ba9d1fca6b728a75a6ba7700ff1b5fe709cf61fac6d0a8cb6bf", func := "pagewatch/pagewatchlaw38.ClockMore", spec := "clockMore", unfollowed := true, recurses := true, apart := false }
def ClockMoreSaid : Prop := clockMoreRow.holds Try.pinned (OpenSpec.ofChange clockMoreSpec)

/-- ITS FALSE NEIGHBOUR: 'it returns false'. Refute it at one input. -/
def clockMoreWrong : ChangeSpec := { name := "clockMore", fn := fun _ => fun
  | [d] => { results := [.lit (.bool false)], args := [d] }
  | _ => none }
def ClockMoreWrongFalsely : Prop := clockMoreRow.holds Try.pinned (OpenSpec.ofChange clockMoreWrong)

/-- 'pagewatchlaw40.OrderLaws': WHATEVER THE INPUT: true; the input reads as it did. -/
def orderLawsSpec : ChangeSpec := { name := "orderLaws", fn := fun _ => fun
  | [d] => { results := [.lit (.bool true)], args := [d] }
  | _ => none }
def orderLawsRow : OpenClaim := { program := "ytamnjokpncjbfaa", sum := "4cecb0c74c940ba9d1fca6b728a75a6ba7700ff1b5fe709cf61fac6d0a8cb6bf", func := "pagewatch/pagewatchlaw40.OrderLaws", spec := "orderLaws", unfollowed := true, recurses := true, apart := false }
def OrderLawsSaid : Prop := orderLawsRow.holds Try.pinned (OpenSpec.ofChange orderLawsSpec)

/-- ITS FALSE NEIGHBOUR: 'it returns false'. Refute it at one input. -/
def orderLawsWrong : ChangeSpec := { name := "orderLaws", fn := fun _ => fun
  | [d] => { results := [.lit (.bool false)], args := [d] }
  | _ => none }
def OrderLawsWrongFalsely : Prop := orderLawsRow.holds Try.pinned (OpenSpec.ofChange orderLawsWrong)

/-- 'pagewatchlaw40.OrderOpens': WHATEVER THE INPUT: true; the input reads as it did. -/
def orderOpensSpec : ChangeSpec := { name := "orderOpens", fn := fun _ => fun
  | [d] => { results := [.lit (.bool true)], args := [d] }
  | _ => none }
def orderOpensRow : OpenClaim := { program := "ytamnjokpncjbfaa", sum := "4cecb0c74c940ba9d1fca6b728a75a6ba7700ff1b5fe709cf61fac6d0a8cb6bf", func := "pagewatch/pagewatchlaw40.OrderOpens", spec := "orderOpens", unfollowed := true, recurses := true, apart := false }
def OrderOpensSaid : Prop := orderOpensRow.holds Try.pinned (OpenSpec.ofChange orderOpensSpec)

/-- ITS FALSE NEIGHBOUR: 'it returns false'. Refute it at one input. -/
def orderOpensWrong : ChangeSpec := { name := "orderOpens", fn := fun _ => fun
  | [d] => { results := [.lit (.bool false)], args := [d] }
  | _ => none }
def OrderOpensWrongFalsely : Prop := orderOpensRow.holds Try.pinned (OpenSpec.ofChange orderOpensWrong)

/-- 'pagewatchlaw40.OrderMoves': WHATEVER THE INPUT: true; the input reads as it did. -/
def orderMovesSpec : ChangeSpec := { name := "orderMoves", fn := fun _ => fun
  | [d1, d2] => { results := [.lit (.bool true)], args := [d1, d2] }
  | _ => none }
def orderMovesRow : OpenClaim := { program := "ytamnjokpncjbfaa", sum := "4cecb0c74c940ba9d1fca6b728a75a6ba7700ff1b5fe709cf61fac6d0a8cb6bf", func := "pagewatch/pagewatchlaw40.OrderMoves", spec := "orderMoves", unfollowed := true, recurses := true, apart := false }
def OrderMovesSaid : Prop := orderMovesRow.holds Try.pinned (OpenSpec.ofChange orderMovesSpec)

/-- ITS FALSE NEIGHBOUR: 'it returns false'. Refute it at one input. -/
def orderMovesWrong : ChangeSpec := { name := "orderMoves", fn := fun _ => fun
  | [d1, d2] => { results := [.lit (.bool false)], args := [d1, d2] }
  | _ => none }
def OrderMovesWrongFalsely : Prop := orderMovesRow.holds Try.pinned (OpenSpec.ofChange orderMovesWrong)

/-- 'pagewatchlaw40.OrderMore': WHATEVER THE INPUT: true; the input reads as it did. -/
def orderMoreSpec : ChangeSpec := { name := "orderMore", fn := fun _ => fun
  | [d] => { results := [.lit (.bool true)], args := [d] }
  | _ => none }
def orderMoreRow : OpenClaim := { program := "ytamnjokpncjbfaa", sum := "4cecb0c74c940ba9d1fca6b728a75a6ba7700ff1b5fe709cf61fac6d0a8cb6bf", func := "pagewatch/pagewatchlaw40.OrderMore", spec := "orderMore", unfollowed := true, recurses := true, apart := false }
def OrderMoreSaid : Prop := orderMoreRow.holds Try.pinned (OpenSpec.ofChange orderMoreSpec)

/-- ITS FALSE NEIGHBOUR: 'it returns false'. Refute it at one input. -/
def orderMoreWrong : ChangeSpec := { name := "orderMore", fn := fun _ => fun
  | [d] => { results := [.lit (.bool false)], args := [d] }
  | _ => none }
def OrderMoreWrongFalsely : Prop := orderMoreRow.holds Try.pinned (OpenSpec.ofChange orderMoreWrong)

/-- 'pagewatchlaw40.OrderTrue': WHATEVER THE INPUT: true; the input reads as it did. -/
def orderTrueSpec : ChangeSpec := { name := "orderTrue", fn := fun _ => fun
  | [d] => { results := [.lit (.bool true)], args := [d] }
  | _ => none }
def orderTrueRow : OpenClaim := { program := "ytamnjokpncjbfaa", sum := "4cecb0c74c940ba9d1fca6b728a75a6ba7700ff1b5fe709cf61fac6d0a8cb6bf", func := "pagewatch/pagewatchlaw40.OrderTrue", spec := "orderTrue", unfollowed := true, recurses := true, apart := false }
def OrderTrueSaid : Prop := orderTrueRow.holds Try.pinned (OpenSpec.ofChange orderTrueSpec)

/-- ITS FALSE NEIGHBOUR: 'it returns false'. Refute it at one input. -/
def orderTrueWrong : ChangeSpec := { name := "orderTrue", fn := fun _ => fun
  | [d] => { results := [.lit (.bool false)], args := [d] }
  | _ => none }
def OrderTrueWrongFalsely : Prop := orderTrueRow.holds Try.pinned (OpenSpec.ofChange orderTrueWrong)

/-- 'pagewatchlaw40.OrderCausal': WHATEVER THE INPUT: true; the input reads as it did. -/
def orderCausalSpec : ChangeSpec := { name := "orderCausal", fn := fun _ => fun
  | [d] => { results := [.lit (.bool true)], args := [d] }
  | _ => none }
def orderCausalRow : OpenClaim := { program := "ytamnjokpncjbfaa", sum := "4cecb0c74c940ba9d1fca6b728a75a6ba7700ff1b5fe709cf61fac6d0a8cb6bf", func := "pagewatch/pagewatchlaw40.OrderCausal", spec := "orderCausal", unfollowed := true, recurses := true, apart := false }
def OrderCausalSaid : Prop := orderCausalRow.holds Try.pinned (OpenSpec.ofChange orderCausalSpec)

/-- ITS FALSE NEIGHBOUR: 'it returns false'. Refute it at one input. -/
def orderCausalWrong : ChangeSpec := { name := "orderCausal", fn := fun _ => fun
  | [d] => { results := [.lit (.bool false)], args := [d] }
  | _ => none }
def OrderCausalWrongFalsely : Prop := orderCausalRow.holds Try.pinned (OpenSpec.ofChange orderCausalWrong)

/-- 'pagewatchlaw40.OrderSorts': WHATEVER THE INPUT: true; the input reads as it did. -/
def orderSortsSpec : ChangeSpec := { name := "orderSorts", fn := fun _ => fun
  | [d] => { results := [.lit (.bool true)], args := [d] }
  | _ => none }
def orderSortsRow : OpenClaim := { program := "ytamnjokpncjbfaa", sum := "4cecb0c74c940ba9d1fca6b728a75a6ba7700ff1b5fe709cf61fac6d0a8cb6bf", func := "pagewatch/pagewatchlaw40.OrderSorts", spec := "orderSorts", unfollowed := true, recurses := true, apart := false }
def OrderSortsSaid : Prop := orderSortsRow.holds Try.pinned (OpenSpec.ofChange orderSortsSpec)

/-- ITS FALSE NEIGHBOUR: 'it returns false'. Refute it at one input. -/
def orderSortsWrong : ChangeSpec := { name := "orderSorts", fn := fun _ => fun
  | [d] => { results := [.lit (.bool false)], args := [d] }
  | _ => none }
def OrderSortsWrongFalsely : Prop := orderSortsRow.holds Try.pinned (OpenSpec.ofChange orderSortsWrong)

/- THE SECOND FORM. 'bulk': how many values and letters a reading holds, each counted each time it is reached (what is shared counts as often as it is met; a slice's spare places count too). A statement '..UptoSaid' is the law's where the arguments, and the package variables that the reading takes, are together of bulk at most 1048576: NARROWER than '..Said'. Prove '..Said' where nothing that the law and all that it calls make is longer than what came in: it says more and counts as full. Else prove '..UptoSaid'. A law counts once. -/
mutual
def uptoBulk {H : Type} : DataW H → Nat
  | .lit (.string bytes) => bytes.length + 1
  | .lit _ => 1
  | .nil => 1
  | .ptr d => uptoBulk d + 1
  | .slice elems spare => uptoBulkAll elems + uptoBulkAll spare + 1
  | .agg parts => uptoBulkAll parts + 1
  | .iface _ d => uptoBulk d + 1
  | .map entries => uptoBulkEntries entries + 1
  | .held _ => 1
def uptoBulkAll {H : Type} : List (DataW H) → Nat
  | [] => 0
  | d :: r => uptoBulk d + uptoBulkAll r
def uptoBulkEntries {H : Type} : List (Lit × DataW H) → Nat
  | [] => 0
  | x :: r => uptoBulkEntry x + uptoBulkEntries r
def uptoBulkEntry {H : Type} : Lit × DataW H → Nat
  | (.string bytes, d) => bytes.length + uptoBulk d + 1
  | (_, d) => uptoBulk d + 1
 end
def uptoSmall : (H : Type) → List (DataW H) → Bool := fun _ ds => decide (uptoBulkAll ds ≤ 1048576)
def OpenSpec.upto (s : _root_.Go.ChangeSpec) : _root_.Go.OpenSpec := { _root_.Go.OpenSpec.ofChange s with cond := some uptoSmall }

/-- 'pagewatchlaw38.ClockWidens', WHERE WHAT IT READS IS OF BULK AT MOST 1048576: true; the input reads as it did. -/
def clockWidensUptoRow : OpenClaim := { program := "ytamnjokpncjbfaa", sum := "4cecb0c74c940ba9d1fca6b728a75a6ba7700ff1b5fe709cf61fac6d0a8cb6bf", func := "pagewatch/pagewatchlaw38.ClockWidens", spec := "clockWidens", unfollowed := true, recurses := true, apart := false, narrowed := true }
def ClockWidensUptoSaid : Prop := clockWidensUptoRow.holds Try.pinned (OpenSpec.upto clockWidensSpec)

/-- 'pagewatchlaw38.ClockTrue', WHERE WHAT IT READS IS OF BULK AT MOST 1048576: true; the input reads as it did. -/
def clockTrueUptoRow : OpenClaim := { program := "ytamnjokpncjbfaa", sum := "4cecb0c74c940ba9d1fca6b728a75a6ba7700ff1b5fe709cf61fac6d0a8cb6bf", func := "pagewatch/pagewatchlaw38.ClockTrue", spec := "clockTrue", unfollowed := true, recurses := true, apart := false, narrowed := true }
def ClockTrueUptoSaid : Prop := clockTrueUptoRow.holds Try.pinned (OpenSpec.upto clockTrueSpec)

/-- 'pagewatchlaw38.ClockMoves', WHERE WHAT IT READS IS OF BULK AT MOST 1048576: true; the input reads as it did. -/
def clockMovesUptoRow : OpenClaim := { program := "ytamnjokpncjbfaa", sum := "4cecb0c74c940ba9d1fca6b728a75a6ba7700ff1b5fe709cf61fac6d0a8cb6bf", func := "pagewatch/pagewatchlaw38.ClockMoves", spec := "clockMoves", unfollowed := true, recurses := true, apart := false, narrowed := true }
def ClockMovesUptoSaid : Prop := clockMovesUptoRow.holds Try.pinned (OpenSpec.upto clockMovesSpec)

/-- 'pagewatchlaw38.ClockExact', WHERE WHAT IT READS IS OF BULK AT MOST 1048576: true; the input reads as it did. -/
def clockExactUptoRow : OpenClaim := { program := "ytamnjokpncjbfaa", sum := "4cecb0c74c940ba9d1fca6b728a75a6ba7700ff1b5fe709cf61fac6d0a8cb6bf", func := "pagewatch/pagewatchlaw38.ClockExact", spec := "clockExact", unfollowed := true, recurses := true, apart := false, narrowed := true }
def ClockExactUptoSaid : Prop := clockExactUptoRow.holds Try.pinned (OpenSpec.upto clockExactSpec)

/-- 'pagewatchlaw38.ClockMore', WHERE WHAT IT READS IS OF BULK AT MOST 1048576: true; the input reads as it did. -/
def clockMoreUptoRow : OpenClaim := { program := "ytamnjokpncjbfaa", sum := "4cecb0c74c940ba9d1fca6b728a75a6ba7700ff1b5fe709cf61fac6d0a8cb6bf", func := "pagewatch/pagewatchlaw38.ClockMore", spec := "clockMore", unfollowed := true, recurses := true, apart := false, narrowed := true }
def ClockMoreUptoSaid : Prop := clockMoreUptoRow.holds Try.pinned (OpenSpec.upto clockMoreSpec)

/-- 'pagewatchlaw40.OrderLaws', WHERE WHAT IT READS IS OF BULK AT MOST 1048576: true; the input reads as it did. -/
def orderLawsUptoRow : OpenClaim := { program := "ytamnjokpncjbfaa", sum := "4cecb0c74c940ba9d1fca6b728a75a6ba7700ff1b5fe709cf61fac6d0a8cb6bf", func := "pagewatch/pagewatchlaw40.OrderLaws", spec := "orderLaws", unfollowed := true, recurses := true, apart := false, narrowed := true }
def OrderLawsUptoSaid : Prop := orderLawsUptoRow.holds Try.pinned (OpenSpec.upto orderLawsSpec)

/-- 'pagewatchlaw40.OrderOpens', WHERE WHAT IT READS IS OF BULK AT MOST 1048576: true; the input reads as it did. -/
def orderOpensUptoRow : OpenClaim := { program := "ytamnjokpncjbfaa", sum := "4cecb0c74c940ba9d1fca6b728a75a6ba7700ff1b5fe709cf61fac6d0a8cb6bf", func := "pagewatch/pagewatchlaw40.OrderOpens", spec := "orderOpens", unfollowed := true, recurses := true, apart := false, narrowed := true }
def OrderOpensUptoSaid : Prop := orderOpensUptoRow.holds Try.pinned (OpenSpec.upto orderOpensSpec)

/-- 'pagewatchlaw40.OrderMoves', WHERE WHAT IT READS IS OF BULK AT MOST 1048576: true; the input reads as it did. -/
def orderMovesUptoRow : OpenClaim := { program := "ytamnjokpncjbfaa", sum := "4cecb0c74c940ba9d1fca6b728a75a6ba7700ff1b5fe709cf61fac6d0a8cb6bf", func := "pagewatch/pagewatchlaw40.OrderMoves", spec := "orderMoves", unfollowed := true, recurses := true, apart := false, narrowed := true }
def OrderMovesUptoSaid : Prop := orderMovesUptoRow.holds Try.pinned (OpenSpec.upto orderMovesSpec)

/-- 'pagewatchlaw40.OrderMore', WHERE WHAT IT READS IS OF BULK AT MOST 1048576: true; the input reads as it did. -/
def orderMoreUptoRow : OpenClaim := { program := "ytamnjokpncjbfaa", sum := "4cecb0c74c940ba9d1fca6b728a75a6ba7700ff1b5fe709cf61fac6d0a8cb6bf", func := "pagewatch/pagewatchlaw40.OrderMore", spec := "orderMore", unfollowed := true, recurses := true, apart := false, narrowed := true }
def OrderMoreUptoSaid : Prop := orderMoreUptoRow.holds Try.pinned (OpenSpec.upto orderMoreSpec)

/-- 'pagewatchlaw40.OrderTrue', WHERE WHAT IT READS IS OF BULK AT MOST 1048576: true; the input reads as it did. -/
def orderTrueUptoRow : OpenClaim := { program := "ytamnjokpncjbfaa", sum := "4cecb0c74c940ba9d1fca6b728a75a6ba7700ff1b5fe709cf61fac6d0a8cb6bf", func := "pagewatch/pagewatchlaw40.OrderTrue", spec := "orderTrue", unfollowed := true, recurses := true, apart := false, narrowed := true }
def OrderTrueUptoSaid : Prop := orderTrueUptoRow.holds Try.pinned (OpenSpec.upto orderTrueSpec)

/-- 'pagewatchlaw40.OrderCausal', WHERE WHAT IT READS IS OF BULK AT MOST 1048576: true; the input reads as it did. -/
def orderCausalUptoRow : OpenClaim := { program := "ytamnjokpncjbfaa", sum := "4cecb0c74c940ba9d1fca6b728a75a6ba7700ff1b5fe709cf61fac6d0a8cb6bf", func := "pagewatch/pagewatchlaw40.OrderCausal", spec := "orderCausal", unfollowed := true, recurses := true, apart := false, narrowed := true }
def OrderCausalUptoSaid : Prop := orderCausalUptoRow.holds Try.pinned (OpenSpec.upto orderCausalSpec)

/-- 'pagewatchlaw40.OrderSorts', WHERE WHAT IT READS IS OF BULK AT MOST 1048576: true; the input reads as it did. -/
def orderSortsUptoRow : OpenClaim := { program := "ytamnjokpncjbfaa", sum := "4cecb0c74c940ba9d1fca6b728a75a6ba7700ff1b5fe709cf61fac6d0a8cb6bf", func := "pagewatch/pagewatchlaw40.OrderSorts", spec := "orderSorts", unfollowed := true, recurses := true, apart := false, narrowed := true }
def OrderSortsUptoSaid : Prop := orderSortsUptoRow.holds Try.pinned (OpenSpec.upto orderSortsSpec)

end Rows
end Go.Proofs.Ytamnjokpncjbfaa
