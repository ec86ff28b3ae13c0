/- The plain law of WordsWithin. -/
import Derived.Test.YtjhoigcoijinfaaFnWordsKnown
import Derived.Test.YtjhoigcoijinfaaLibNum
set_option linter.unusedVariables false
set_option linter.unusedSimpArgs false
set_option linter.unnecessarySimpa false
namespace Go.Scr.S
theorem within1_eq {k : Nat} (a n : Int) (h : 0 < n) (h1 : n < 9223372036854775808) : scrimlaw1_within.f k a n = some (a % n) := by
  unfold scrimlaw1_within.f
  have e := tmod_fix a n h
  have := Int.emod_lt_of_pos a h
  have := Int.emod_nonneg a (Int.ne_of_gt h)
  rw [if_neg (by simp; omega)]
  by_cases c : a.tmod n < 0
  · rw [if_pos c] at e
    rw [if_pos (by simp; omega), I64_id (by omega) (by omega), e]
  · rw [if_neg c] at e
    rw [if_neg (by simp; omega), e]
end Go.Scr.S
