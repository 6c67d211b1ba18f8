/- Part4: LiftY. -/
import Derived.Test.YtfgmlgnpnoijcadGreatPart3
set_option linter.unusedVariables false
set_option linter.unusedSimpArgs false
namespace Go.Lift
open Go.RowKit
@[reducible] def Qov (e : Ty) (bytes : Nat) {β : Type} (l : List e.den) (k : List e.den → Option β) : Option β :=
 cond (decide (l.length * bytes ≤ Q5)) (k l) none
end Go.Lift
