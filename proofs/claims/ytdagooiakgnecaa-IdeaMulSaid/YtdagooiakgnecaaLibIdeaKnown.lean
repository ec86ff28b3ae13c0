/- The plain law of IdeaKnown. -/
import Derived.Test.YtdagooiakgnecaaFnIdeaMul
import Derived.Test.YtdagooiakgnecaaLibNum
set_option linter.unusedVariables false
set_option linter.unusedSimpArgs false
set_option linter.unnecessarySimpa false
namespace Go.Scr.S
theorem within7_eq {k : Nat} (a n : Int) (h : 0 < n) (h1 : n < 9223372036854775808) : scrimlaw7_within.f k a n = some (a % n) := by
  unfold scrimlaw7_within.f
  have e := tmod_fix a n h
  have := Int.emod_lt_of_pos a h
  have := Int.emod_nonneg a (Int.ne_of_gt h)
  rw [if_neg (by simp; omega)]
  by_cases c : a.tmod n < 0
  · rw [if_pos c] at e
    rw [if_pos (by simp; omega), I64_id (by omega) (by omega), e]
  · rw [if_neg c] at e
    rw [if_neg (by simp; omega), e]
theorem known7_eq {k : Nat} (hk : 600 ≤ k) : scrimlaw7_known.f k = some true := by
  obtain ⟨j, rfl⟩ : ∃ j, k = j + 600 := ⟨k - 600, by omega⟩
  kernel_rfl
theorem beq_nat (a b : Nat) : (((a : Int) == (b : Int)) : Bool) = decide (a = b) := by
  by_cases h : a = b
  · subst h; simp
  · rw [decide_eq_false h, beq_eq_false_iff_ne]; omega
theorem res7 (z : Int) : ∃ n : Nat, n < 65536 ∧ z % 65536 = n := ⟨(z % 65536).toNat, by omega, by omega⟩
end Go.Scr.S
