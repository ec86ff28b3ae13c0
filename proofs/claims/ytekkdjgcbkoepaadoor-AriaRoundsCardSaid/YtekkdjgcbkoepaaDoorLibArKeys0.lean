/- The plain law of ArKeys0. -/
import Derived.Test.YtekkdjgcbkoepaaDoorFnAriaRounds
import Derived.Test.YtekkdjgcbkoepaaDoorLibNum
import Derived.Test.YtekkdjgcbkoepaaDoorLibIl
import Derived.Test.YtekkdjgcbkoepaaDoorLibArLit
set_option linter.unusedVariables false
set_option linter.unusedSimpArgs false
set_option linter.unnecessarySimpa false
namespace Go.Scr.S
theorem keys0_eq {k : Nat} (hk : 600 ≤ k) : aria_boxes_keys.f k tabs zero16 = some keys0 := by
  obtain ⟨j, rfl⟩ : ∃ j, k = j + 600 := ⟨k - 600, by omega⟩
  kernel_rfl
end Go.Scr.S
