/- The plain law of TwK. -/
import Derived.Test.YtngagagokcnnaaaFnTwofishH
import Derived.Test.YtngagagokcnnaaaLibNum
set_option linter.unusedVariables false
set_option linter.unusedSimpArgs false
set_option linter.unnecessarySimpa false
namespace Go.Scr.S
theorem known9_eq {k : Nat} (hk : 700 ≤ k) : scrimlaw9_known.f k = some true := by
  obtain ⟨j, rfl⟩ : ∃ j, k = j + 700 := ⟨k - 700, by omega⟩
  kernel_rfl
end Go.Scr.S
