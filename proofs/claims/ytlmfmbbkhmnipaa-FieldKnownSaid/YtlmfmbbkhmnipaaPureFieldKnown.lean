/- The plain law of FieldKnown. -/
import Derived.Test.YtlmfmbbkhmnipaaFnFieldKnown
import Derived.Test.YtlmfmbbkhmnipaaLibNum
import Derived.Test.YtlmfmbbkhmnipaaLibGf
import Derived.Test.YtlmfmbbkhmnipaaLibFieldPw0
import Derived.Test.YtlmfmbbkhmnipaaLibFieldWithin
set_option linter.unusedVariables false
set_option linter.unusedSimpArgs false
set_option linter.unnecessarySimpa false
namespace Go.Scr.S
theorem FieldKnown (a0 : Int) (h0 : In .i64 a0) : ∃ k, scrimlaw3_FieldKnown.f k a0 = some true := by
  obtain ⟨n, hn, en⟩ : ∃ i : Nat, i < 10 ∧ a0 % 10 = i := ⟨(a0 % 10).toNat, by omega, by omega⟩
  refine ⟨600, ?_⟩
  have w := within_eq (k := 600) a0 10 (by decide) (by decide)
  rw [en] at w
  unfold scrimlaw3_FieldKnown.f
  rw [w]
  have : n = 0 ∨ n = 1 ∨ n = 2 ∨ n = 3 ∨ n = 4 ∨ n = 5 ∨ n = 6 ∨ n = 7 ∨ n = 8 ∨ n = 9 := by omega
  rcases this with rfl | rfl | rfl | rfl | rfl | rfl | rfl | rfl | rfl | rfl  <;> (refine Eq.trans ?_ (Eq.refl (some true)); kernel_rfl)
end Go.Scr.S
