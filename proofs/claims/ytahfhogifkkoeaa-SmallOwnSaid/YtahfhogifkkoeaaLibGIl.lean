/- The plain law of GIl. -/
import Derived.Test.YtahfhogifkkoeaaXDeep3
import Derived.Test.YtahfhogifkkoeaaLibNum
import Derived.Test.YtahfhogifkkoeaaLibIl
import Derived.Test.YtahfhogifkkoeaaLibFill
set_option linter.unusedVariables false
set_option linter.unusedSimpArgs false
set_option linter.unnecessarySimpa false
namespace Go.Scr.S
theorem il_range (n : Nat) (F : Nat → Nat) : il ((List.range n).map F) = fill n (fun j => ((F j : Nat) : Int)) := by simp [il, fill]
end Go.Scr.S
