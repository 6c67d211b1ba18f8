/- Part11: LiftTr. -/
import Derived.Test.YtgocccmoefchaaaGreatDoorPart10
set_option linter.unusedVariables false
set_option linter.unusedSectionVars false
set_option linter.unusedSimpArgs false
namespace Go.Lift
open Go.RowKit
@[reducible] def Amu(fn:Option FuncId):List (Bool×List CT):=
 (false,[.rowh 0])::(match fn with|none=>[]|some g=>[(false,[.fn g []])])
@[reducible] def rowS(t:TypeId)(e:Ty)(fn:Option FuncId)(c:{β:Type}->List e.den->(List e.den->Option β)->Option β):Spec:=
 ⟨Amu fn,[.row t e],[(false,[.rowh 0])],[.row t e],λx k=>c x.2.1 (λr=>k (((),()),(r,())))⟩
end Go.Lift
