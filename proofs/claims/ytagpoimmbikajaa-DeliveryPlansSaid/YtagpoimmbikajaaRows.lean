/-
  No cell of these rows narrows 'for every input' (looked for: loops, veiled, ifaces, maps, wideKeys, modest, calm, conditions, laid).
  DERIVED. THE GIVEN ROWS OF THIS SEAT. 6 by the template 'for every input the law returns true; each argument reads behind the call as it read before'; 0 by the template 'total and deterministic' (their statements: YtagpoimmbikajaaTotals.lean).
  GIVEN WITH THE SEED: the statements are not yours to turn. If you find one false, say at which input.
  Laid BY PROGRAM, IN A SANDBOX (cutbox-rows.mjs): the forced cells as the released guide's own fill.sh prints them over the translation aa68aca23a796be8… (all of the seat's roots in one cut). By AI agents, Wed Nov 11 2026. No macro, syntax, notation, axiom, sorry.
-/
import Derived.Test.YtagpoimmbikajaaChecked
import GoSem.Claim
import GoSem.ClaimJoined
import GoSem.ClaimMapViews
import Derived.JoinedTies
import Derived.KernelRfl
namespace Go.Proofs.Ytagpoimmbikajaa
/- THE CELL 'sum', in the pinned program and in every row, IS THE sha256 OF THE DUMP (.gsa) THAT YtagpoimmbikajaaProg.lean LOADS. Nothing in Lean hashes anything: it is a label: what it is worth is what the hold of that sum in a sandbox is worth. -/
noncomputable def Try.pinned : Pinned := { name := "ytagpoimmbikajaa", sum := "aa68aca23a796be864d9c5c21c42cd82e0aa9d8008eccd72085054b9c033dea3", checked := Try.checked }
namespace Rows
def none {H : Type} : Left H := { results := [], args := [] }

/-- 'pagewatchlaw27.DeliveryPlans': WHATEVER THE INPUT: true; the input reads as it did. -/
def deliveryPlansSpec : ChangeSpec := { name := "deliveryPlans", fn := fun _ => fun
  | [d1, d2, d3] => { results := [.lit (.bool true)], args := [d1, d2, d3] }
  | _ => none }
def deliveryPlansRow : OpenClaim := { program := "ytagpoimmbikajaa", sum := "aa68aca23a796be864d9c5c21c42cd82e0aa9d8008eccd72085054b9c033dea3", func := "pagewatch/pagewatchlaw27.DeliveryPlans", spec := "deliveryPlans", unfollowed := true, recurses := true, plainKeys := false, apart := false }
def DeliveryPlansSaid : Prop := deliveryPlansRow.holds Try.pinned (OpenSpec.ofChange deliveryPlansSpec)

/-- ITS FALSE NEIGHBOUR: 'it returns false'. Refute it at one input. -/
def deliveryPlansWrong : ChangeSpec := { name := "deliveryPlans", fn := fun _ => fun
  | [d1, d2, d3] => { results := [.lit (.bool false)], args := [d1, d2, d3] }
  | _ => none }
def DeliveryPlansWrongFalsely : Prop := deliveryPlansRow.holds Try.pinned (OpenSpec.ofChange deliveryPlansWrong)

/-- 'pagewatchlaw27.DeliveryRuns': WHATEVER THE INPUT: true; the input reads as it did. -/
def deliveryRunsSpec : ChangeSpec := { name := "deliveryRuns", fn := fun _ => fun
  | [d1, d2, d3] => { results := [.lit (.bool true)], args := [d1, d2, d3] }
  | _ => none }
def deliveryRunsRow : OpenClaim := { program := "ytagpoimmbikajaa", sum := "aa68aca23a796be864d9c5c21c42cd82e0aa9d8008eccd72085054b9c033dea3", func := "pagewatch/pagewatchlaw27.DeliveryRuns", spec := "deliveryRuns", unfollowed := true, recurses := true, plainKeys := false, apart := false }
def DeliveryRunsSaid : Prop := deliveryRunsRow.holds Try.pinned (OpenSpec.ofChange deliveryRunsSpec)

/-- ITS FALSE NEIGHBOUR: 'it returns false'. Refute it at one input. -/
def deliveryRunsWrong : ChangeSpec := { name := "deliveryRuns", fn := fun _ => fun
  | [d1, d2, d3] => { results := [.lit (.bool false)], args := [d1, d2, d3] }
  | _ => none }
def DeliveryRunsWrongFalsely : Prop := deliveryRunsRow.holds Try.pinned (OpenSpec.ofChange deliveryRunsWrong)

/-- 'pagewatchlaw27.DeliveryReaches': WHATEVER THE INPUT: true; the input reads as it did. -/
def deliveryReachesSpec : ChangeSpec := { name := "deliveryReaches", fn := fun _ => fun
  | [d1, d2] => { results := [.lit (.bool true)], args := [d1, d2] }
  | _ => none }
def deliveryReachesRow : OpenClaim := { program := "ytagpoimmbikajaa", sum := "aa68aca23a796be864d9c5c21c42cd82e0aa9d8008eccd72085054b9c033dea3", func := "pagewatch/pagewatchlaw27.DeliveryReaches", spec := "deliveryReaches", unfollowed := true, recurses := true, plainKeys := false, apart := false }
def DeliveryReachesSaid : Prop := deliveryReachesRow.holds Try.pinned (OpenSpec.ofChange deliveryReachesSpec)

/-- ITS FALSE NEIGHBOUR: 'it returns false'. Refute it at one input. -/
def deliveryReachesWrong : ChangeSpec := { name := "deliveryReaches", fn := fun _ => fun
  | [d1, d2] => { results := [.lit (.bool false)], args := [d1, d2] }
  | _ => none }
def DeliveryReachesWrongFalsely : Prop := deliveryReachesRow.holds Try.pinned (OpenSpec.ofChange deliveryReachesWrong)

/-- 'pagewatchlaw27.DeliverySends': WHATEVER THE INPUT: true; the input reads as it did. -/
def deliverySendsSpec : ChangeSpec := { name := "deliverySends", fn := fun _ => fun
  | [d1, d2, d3] => { results := [.lit (.bool true)], args := [d1, d2, d3] }
  | _ => none }
def deliverySendsRow : OpenClaim := { program := "ytagpoimmbikajaa", sum := "aa68aca23a796be864d9c5c21c42cd82e0aa9d8008eccd72085054b9c033dea3", func := "pagewatch/pagewatchlaw27.DeliverySends", spec := "deliverySends", unfollowed := true, recurses := true, plainKeys := false, apart := false }
def DeliverySendsSaid : Prop := deliverySendsRow.holds Try.pinned (OpenSpec.ofChange deliverySendsSpec)

/-- ITS FALSE NEIGHBOUR: 'it returns false'. Refute it at one input. -/
def deliverySendsWrong : ChangeSpec := { name := "deliverySends", fn := fun _ => fun
  | [d1, d2, d3] => { results := [.lit (.bool false)], args := [d1, d2, d3] }
  | _ => none }
def DeliverySendsWrongFalsely : Prop := deliverySendsRow.holds Try.pinned (OpenSpec.ofChange deliverySendsWrong)

/-- 'pagewatchlaw27.DeliveryOnce': WHATEVER THE INPUT: true; the input reads as it did. -/
def deliveryOnceSpec : ChangeSpec := { name := "deliveryOnce", fn := fun _ => fun
  | [d] => { results := [.lit (.bool true)], args := [d] }
  | _ => none }
def deliveryOnceRow : OpenClaim := { program := "ytagpoimmbikajaa", sum := "aa68aca23a796be864d9c5c21c42cd82e0aa9d8008eccd72085054b9c033dea3", func := "pagewatch/pagewatchlaw27.DeliveryOnce", spec := "deliveryOnce", unfollowed := true, recurses := true, plainKeys := false, apart := false }
def DeliveryOnceSaid : Prop := deliveryOnceRow.holds Try.pinned (OpenSpec.ofChange deliveryOnceSpec)

/-- ITS FALSE NEIGHBOUR: 'it returns false'. Refute it at one input. -/
def deliveryOnceWrong : ChangeSpec := { name := "deliveryOnce", fn := fun _ => fun
  | [d] => { results := [.lit (.bool false)], args := [d] }
  | _ => none }
def DeliveryOnceWrongFalsely : Prop := deliveryOnceRow.holds Try.pinned (OpenSpec.ofChange deliveryOnceWrong)

/-- 'pagewatchlaw27.DeliverySteps': WHATEVER THE INPUT: true; the input reads as it did. -/
def deliveryStepsSpec : ChangeSpec := { name := "deliverySteps", fn := fun _ => fun
  | [d1, d2, d3, d4, d5, d6] => { results := [.lit (.bool true)], args := [d1, d2, d3, d4, d5, d6] }
  | _ => none }
def deliveryStepsRow : OpenClaim := { program := "ytagpoimmbikajaa", sum := "aa68aca23a796be864d9c5c21c42cd82e0aa9d8008eccd72085054b9c033dea3", func := "pagewatch/pagewatchlaw27.DeliverySteps", spec := "deliverySteps", unfollowed := true, recurses := true, plainKeys := false, apart := false }
def DeliveryStepsSaid : Prop := deliveryStepsRow.holds Try.pinned (OpenSpec.ofChange deliveryStepsSpec)

/-- ITS FALSE NEIGHBOUR: 'it returns false'. Refute it at one input. -/
def deliveryStepsWrong : ChangeSpec := { name := "deliverySteps", fn := fun _ => fun
  | [d1, d2, d3, d4, d5, d6] => { results := [.lit (.bool false)], args := [d1, d2, d3, d4, d5, d6] }
  | _ => none }
def DeliveryStepsWrongFalsely : Prop := deliveryStepsRow.holds Try.pinned (OpenSpec.ofChange deliveryStepsWrong)

/- THE SECOND FORM. 'bulk': how many values and letters a reading holds, each counted each time it is reached (what is shared counts as often as it is met; a slice's spare places count too). A statement '..UptoSaid' is the law's where the arguments, and the package variables that the reading takes, are together of bulk at most 1048576: NARROWER than '..Said'. Prove '..Said' where nothing that the law and all that it calls make is longer than what came in: it says more and counts as full. Else prove '..UptoSaid'. A law counts once. -/
mutual
def uptoBulk {H : Type} : DataW H → Nat
  | .lit (.string bytes) => bytes.length + 1
  | .lit _ => 1
  | .nil => 1
  | .ptr d => uptoBulk d + 1
  | .slice elems spare => uptoBulkAll elems + uptoBulkAll spare + 1
  | .agg parts => uptoBulkAll parts + 1
  | .iface _ d => uptoBulk d + 1
  | .map entries => uptoBulkEntries entries + 1
  | .held _ => 1
def uptoBulkAll {H : Type} : List (DataW H) → Nat
  | [] => 0
  | d :: r => uptoBulk d + uptoBulkAll r
def uptoBulkEntries {H : Type} : List (Lit × DataW H) → Nat
  | [] => 0
  | x :: r => uptoBulkEntry x + uptoBulkEntries r
def uptoBulkEntry {H : Type} : Lit × DataW H → Nat
  | (.string bytes, d) => bytes.length + uptoBulk d + 1
  | (_, d) => uptoBulk d + 1
 end
def uptoSmall : (H : Type) → List (DataW H) → Bool := fun _ ds => decide (uptoBulkAll ds ≤ 1048576)
def OpenSpec.upto (s : _root_.Go.ChangeSpec) : _root_.Go.OpenSpec := { _root_.Go.OpenSpec.ofChange s with cond := some uptoSmall }

/-- 'pagewatchlaw27.DeliveryPlans', WHERE WHAT IT READS IS OF BULK AT MOST 1048576: true; the input reads as it did. -/
def deliveryPlansUptoRow : OpenClaim := { program := "ytagpoimmbikajaa", sum := "aa68aca23a796be864d9c5c21c42cd82e0aa9d8008eccd72085054b9c033dea3", func := "pagewatch/pagewatchlaw27.DeliveryPlans", spec := "deliveryPlans", unfollowed := true, recurses := true, plainKeys := false, apart := false, narrowed := true }
def DeliveryPlansUptoSaid : Prop := deliveryPlansUptoRow.holds Try.pinned (OpenSpec.upto deliveryPlansSpec)

/-- 'pagewatchlaw27.DeliveryRuns', WHERE WHAT IT READS IS OF BULK AT MOST 1048576: true; the input reads as it did. -/
def deliveryRunsUptoRow : OpenClaim := { program := "ytagpoimmbikajaa", sum := "aa68aca23a796be864d9c5c21c42cd82e0aa9d8008eccd72085054b9c033dea3", func := "pagewatch/pagewatchlaw27.DeliveryRuns", spec := "deliveryRuns", unfollowed := true, recurses := true, plainKeys := false, apart := false, narrowed := true }
def DeliveryRunsUptoSaid : Prop := deliveryRunsUptoRow.holds Try.pinned (OpenSpec.upto deliveryRunsSpec)

/-- 'pagewatchlaw27.DeliveryReaches', WHERE WHAT IT READS IS OF BULK AT MOST 1048576: true; the input reads as it did. -/
def deliveryReachesUptoRow : OpenClaim := { program := "ytagpoimmbikajaa", sum := "aa68aca23a796be864d9c5c21c42cd82e0aa9d8008eccd72085054b9c033dea3", func := "pagewatch/pagewatchlaw27.DeliveryReaches", spec := "deliveryReaches", unfollowed := true, recurses := true, plainKeys := false, apart := false, narrowed := true }
def DeliveryReachesUptoSaid : Prop := deliveryReachesUptoRow.holds Try.pinned (OpenSpec.upto deliveryReachesSpec)

/-- 'pagewatchlaw27.DeliverySends', WHERE WHAT IT READS IS OF BULK AT MOST 1048576: true; the input reads as it did. -/
def deliverySendsUptoRow : OpenClaim := { program := "ytagpoimmbikajaa", sum := "aa68aca23a796be864d9c5c21c42cd82e0aa9d8008eccd72085054b9c033dea3", func := "pagewatch/pagewatchlaw27.DeliverySends", spec := "deliverySends", unfollowed := true, recurses := true, plainKeys := false, apart := false, narrowed := true }
def DeliverySendsUptoSaid : Prop := deliverySendsUptoRow.holds Try.pinned (OpenSpec.upto deliverySendsSpec)

/-- 'pagewatchlaw27.DeliveryOnce', WHERE WHAT IT READS IS OF BULK AT MOST 1048576: true; the input reads as it did. -/
def deliveryOnceUptoRow : OpenClaim := { program := "ytagpoimmbikajaa", sum := "aa68aca23a796be864d9c5c21c42cd82e0aa9d8008eccd72085054b9c033dea3", func := "pagewatch/pagewatchlaw27.DeliveryOnce", spec := "deliveryOnce", unfollowed := true, recurses := true, plainKeys := false, apart := false, narrowed := true }
def DeliveryOnceUptoSaid : Prop := deliveryOnceUptoRow.holds Try.pinned (OpenSpec.upto deliveryOnceSpec)

/-- 'pagewatchlaw27.DeliverySteps', WHERE WHAT IT READS IS OF BULK AT MOST 1048576: true; the input reads as it did. -/
def deliveryStepsUptoRow : OpenClaim := { program := "ytagpoimmbikajaa", sum := "aa68aca23a796be864d9c5c21c42cd82e0aa9d8008eccd72085054b9c033dea3", func := "pagewatch/pagewatchlaw27.DeliverySteps", spec := "deliverySteps", unfollowed := true, recurses := true, plainKeys := false, apart := false, narrowed := true }
def DeliveryStepsUptoSaid : Prop := deliveryStepsUptoRow.holds Try.pinned (OpenSpec.upto deliveryStepsSpec)

end Rows
end Go.Proofs.Ytagpoimmbikajaa
