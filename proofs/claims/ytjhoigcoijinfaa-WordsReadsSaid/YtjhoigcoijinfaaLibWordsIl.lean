/- The plain law of WordsIl. -/
import Derived.Test.YtjhoigcoijinfaaFnWordsReads
import Derived.Test.YtjhoigcoijinfaaLibNum
import Derived.Test.YtjhoigcoijinfaaLibWordsBase
import Derived.Test.YtjhoigcoijinfaaLibWordsLoad
import Derived.Test.YtjhoigcoijinfaaLibFill
set_option linter.unusedVariables false
set_option linter.unusedSimpArgs false
set_option linter.unnecessarySimpa false
namespace Go.Scr.S
theorem il_range (n : Nat) (F : Nat → Nat) : il ((List.range n).map F) = fill n (fun j => ((F j : Nat) : Int)) := by simp [il, fill]
end Go.Scr.S
