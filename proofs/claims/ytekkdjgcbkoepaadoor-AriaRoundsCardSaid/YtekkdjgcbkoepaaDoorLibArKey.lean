/- The plain law of ArKey. -/
import Derived.Test.YtekkdjgcbkoepaaDoorFnAriaRounds
import Derived.Test.YtekkdjgcbkoepaaDoorLibNum
import Derived.Test.YtekkdjgcbkoepaaDoorLibIl
import Derived.Test.YtekkdjgcbkoepaaDoorLibAriaBytes
import Derived.Test.YtekkdjgcbkoepaaDoorLibArW
set_option linter.unusedVariables false
set_option linter.unusedSimpArgs false
set_option linter.unnecessarySimpa false
namespace Go.Scr.S
theorem key10 {l : List Nat} (hl : ∀ x ∈ l, x < 256) (a1 : Int) {k : Nat} (hk : 100 ≤ k) : ∃ (e : Nat) (m : List Nat), e < 3 ∧ m.length = 16 + 8 * e ∧ (∀ x ∈ m, x < 256) ∧ scrimlaw10_key.f k (il l) a1 = some (il m) := by
  obtain ⟨j, hj, ej⟩ : ∃ i : Nat, i < 3 ∧ a1 % 3 = i := ⟨(a1 % 3).toNat, by omega, by omega⟩
  have w1 := within10_eq (k := k) a1 3 (by decide) (by decide)
  rw [ej] at w1
  obtain ⟨m, b, hm, hmb⟩ := bytes10_eq (n := 16 + 8 * j) (by omega) hl (k := k) (by omega)
  refine ⟨j, m, hj, hm, hmb, ?_⟩
  have r : rd ([16, 24, 32] : List Int) (j : Int) = ((16 + 8 * j : Nat) : Int) := by
    have : j = 0 ∨ j = 1 ∨ j = 2 := by omega
    rcases this with rfl | rfl | rfl <;> rfl
  unfold scrimlaw10_key.f
  rw [w1, Option.bind_some, if_pos (by rw [decide_eq_true_eq]; omega), if_pos (by rw [decide_eq_true_eq]; omega), r, b, Option.bind_some]
end Go.Scr.S
