/- The plain law of BoxKnown0. -/
import Derived.Test.YtfffmmpibebpcaaDoorFnBoxIs
import Derived.Test.YtfffmmpibebpcaaDoorLibNum
set_option linter.unusedVariables false
set_option linter.unusedSimpArgs false
set_option linter.unnecessarySimpa false
namespace Go.Scr.S
theorem known4_eq {k : Nat} (hk : 600 ≤ k) : scrimlaw4_known.f k = some true := by
  obtain ⟨j, rfl⟩ : ∃ j, k = j + 600 := ⟨k - 600, by omega⟩
  kernel_rfl
end Go.Scr.S
