/- The plain law of ArBlk0. -/
import Derived.Test.YtekkdjgcbkoepaaDoorFnAriaRounds
import Derived.Test.YtekkdjgcbkoepaaDoorLibNum
import Derived.Test.YtekkdjgcbkoepaaDoorLibIl
import Derived.Test.YtekkdjgcbkoepaaDoorLibArLit
set_option linter.unusedVariables false
set_option linter.unusedSimpArgs false
set_option linter.unnecessarySimpa false
namespace Go.Scr.S
theorem enc0_eq {k : Nat} (hk : 600 ≤ k) : aria_Aria_Block.f k (tabs, keys0) zero16 false = some (enc0, 0) := by
  obtain ⟨j, rfl⟩ : ∃ j, k = j + 600 := ⟨k - 600, by omega⟩
  kernel_rfl
theorem dec0_eq {k : Nat} (hk : 600 ≤ k) : aria_Aria_Block.f k (tabs, keys0) enc0 true = some (zero16, 0) := by
  obtain ⟨j, rfl⟩ : ∃ j, k = j + 600 := ⟨k - 600, by omega⟩
  kernel_rfl
end Go.Scr.S
