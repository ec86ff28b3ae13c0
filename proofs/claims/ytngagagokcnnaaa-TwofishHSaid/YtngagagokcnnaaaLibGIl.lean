/- The plain law of GIl. -/
import Derived.Test.YtngagagokcnnaaaXDeep3
import Derived.Test.YtngagagokcnnaaaLibNum
import Derived.Test.YtngagagokcnnaaaLibIl
import Derived.Test.YtngagagokcnnaaaLibFill
set_option linter.unusedVariables false
set_option linter.unusedSimpArgs false
set_option linter.unnecessarySimpa false
namespace Go.Scr.S
theorem il_range (n : Nat) (F : Nat → Nat) : il ((List.range n).map F) = fill n (fun j => ((F j : Nat) : Int)) := by simp [il, fill]
end Go.Scr.S
