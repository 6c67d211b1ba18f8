/- Part15 -/
import Derived.Test.YthjiepigkfklkaaGreatDoorPart14
set_option linter.unusedVariables false
set_option linter.unusedSectionVars false
set_option linter.unusedSimpArgs false
open _root_ renaming Option → Ya
namespace Go.Lift
open Go.RowKit
@[reducible] def AvM(fn:Ya FuncId):List (Bool×List CT):=
 (false,[.rowh 0])::(match fn with|none=>[]|some g=>[(false,[.fn g []])])
@[reducible] def rowS(t:TypeId)(e:Ty)(fn:Ya FuncId)(c:{β:Type}->List e.den->(List e.den->Ya β)->Ya β):Spec:=
 ⟨AvM fn,[.row t e],[(false,[.rowh 0])],[.row t e],λx k=>c x.2.1 (λr=>k (((),()),(r,())))⟩
end Go.Lift
