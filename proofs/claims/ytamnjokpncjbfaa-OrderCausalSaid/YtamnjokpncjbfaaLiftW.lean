/- The lifter, part W: the rounds of a loop. -/
import Derived.Test.YtamnjokpncjbfaaLiftV
import Derived.IntWalk
namespace Go.Lift
open Go.RowKit Go.IntWalk

/-- The rounds of a loop. -/
def fuel : Nat := 18446744073709551616
theorem lt_fuel {n : Nat} (h : n < 18446744073709551616) : n < fuel := h

end Go.Lift
