/- Part3: LiftXl. -/
import Derived.Lay
import Derived.MakeChecks
import Derived.Stop.LaidErr
import Derived.HandedShaped
import Derived.Stop.Joined
import Derived.Test.YtfgmlgnpnoijcadGreatPart2
set_option linter.unusedVariables false
set_option linter.unusedSimpArgs false
namespace Go.Lift
open Go.RowKit Go.ChangeShapes
theorem Qgp {P : Program} {W : World} (hsh : W.ShapedOpen P) (h1 : (knownTabs.all fun x => (P.globalNamed x.1).isNone) = true) (h2 : (knownErrs.all fun x => (P.globalNamed x).isNone) = true) (h3 : (P.globalNamed "unicode.White_Space").isNone = true) : Opened P W := by
 refine ⟨hsh, fun x hx hn => ?_, fun x hx hn => ?_, fun g hg => by rw [hg] at h3; cases h3⟩
 ·have := List.all_eq_true.1 h1 x hx
  rw [Option.isNone_iff_eq_none] at this
  rw [this] at hn; cases hn
 ·have := List.all_eq_true.1 h2 x hx
  rw [Option.isNone_iff_eq_none] at this
  rw [this] at hn; cases hn
end Go.Lift
