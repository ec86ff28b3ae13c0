/- The plain law of FieldWithin. -/
import Derived.Test.YtlmfmbbkhmnipaaFnFieldKnown
import Derived.Test.YtlmfmbbkhmnipaaLibNum
import Derived.Test.YtlmfmbbkhmnipaaLibGf
set_option linter.unusedVariables false
set_option linter.unusedSimpArgs false
set_option linter.unnecessarySimpa false
namespace Go.Scr.S
theorem within_eq {k : Nat} (a n : Int) (h : 0 < n) (h1 : n < 9223372036854775808) : scrimlaw3_within.f k a n = some (a % n) := by
  unfold scrimlaw3_within.f
  have e := tmod_fix a n h
  have := Int.emod_lt_of_pos a h
  have := Int.emod_nonneg a (Int.ne_of_gt h)
  rw [if_neg (by simp; omega)]
  by_cases c : a.tmod n < 0
  · rw [if_pos c] at e
    rw [if_pos (by simp; omega), I64_id (by omega) (by omega), e]
  · rw [if_neg c] at e
    rw [if_neg (by simp; omega), e]
/-- Any rest of the law's. -/
theorem rest_eq (z : Int) : ∃ m : Nat, Rst m ∧ I64 (256 + z % 256) = (m : Int) := by
  have := Int.emod_lt_of_pos z (show (0 : Int) < 256 by decide)
  have := Int.emod_nonneg z (show (256 : Int) ≠ 0 by decide)
  refine ⟨256 + (z % 256).toNat, ⟨by omega, by omega⟩, ?_⟩
  rw [I64_id (by omega) (by omega)]; omega
end Go.Scr.S
