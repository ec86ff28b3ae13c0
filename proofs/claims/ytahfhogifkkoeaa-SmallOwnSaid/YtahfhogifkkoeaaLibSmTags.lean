/- The plain law of SmTags. -/
import Derived.Test.YtahfhogifkkoeaaFnSmallOwn
import Derived.Test.YtahfhogifkkoeaaLibNum
set_option linter.unusedVariables false
set_option linter.unusedSimpArgs false
set_option linter.unnecessarySimpa false
namespace Go.Scr.S
def sz : Nat → Nat | 1 => 32 | _ => 16
def tagN : Nat → Nat | 0 => 4 | 1 => 5 | _ => 8
theorem tags_at {k : Nat} {j : Nat} (hj : j < 3) : ∃ l, scrimlaw8_tags.f k = some l ∧ l.length = 3 ∧ rd l (j : Int) = (tagN j : Int) := by
  refine ⟨[4, 5, 8], rfl, rfl, ?_⟩
  match j, hj with
  | 0, _ => rfl
  | 1, _ => rfl
  | 2, _ => rfl
theorem size_at {k : Nat} {j : Nat} (hj : j < 3) : scrimlaw8_size.f k (j : Int) = some (sz j : Int) := by
  match j, hj with
  | 0, _ => rfl
  | 1, _ => rfl
  | 2, _ => rfl
theorem sz_le (j : Nat) : sz j ≤ 32 := by unfold sz; split <;> decide
end Go.Scr.S
