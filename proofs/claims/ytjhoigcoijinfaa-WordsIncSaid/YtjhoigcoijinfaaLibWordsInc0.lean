/- The plain law of WordsInc0. -/
import Derived.Test.YtjhoigcoijinfaaFnWordsInc
import Derived.Test.YtjhoigcoijinfaaXLaw
import Derived.Test.YtjhoigcoijinfaaLibNum
import Derived.Test.YtjhoigcoijinfaaLibWordsBase
set_option linter.unusedVariables false
set_option linter.unusedSimpArgs false
set_option linter.unnecessarySimpa false
namespace Go.Scr.S
theorem rinc_l0 (k : Nat) (a x : List Int) (i : Int) : scrimref1_Inc.l0 k a x i = words_Inc.l0 k a x i := by
  induction k generalizing x i with
  | zero => rfl
  | succ k ih =>
    simp only [scrimref1_Inc.l0, words_Inc.l0, ih, List.replicate_zero]
    simp only [Option.bind_some]
    generalize rd (List.set x (I64 (i - 1)).toNat (U8 (rd x (I64 (i - 1)) + 1))) (I64 (i - 1)) = z
    by_cases h : z = 0
    · subst h; simp
    · have e1 : (z == 0) = false := by simp [h]
      have e2 : (z != 0) = true := by simp [h]
      simp only [e1, e2, Bool.false_eq_true, if_false, if_true]
theorem rinc_eq {a0 : List Int} {k : Nat} (hl : a0.length < 1000000000) (hk : a0.length < k) : scrimref1_Inc.f k a0 = some (incW a0) := by
  unfold scrimref1_Inc.f
  rw [if_pos (by simp; omega), rinc_l0]
  have := inc_l0 (a0 := a0) a0.length (p := a0) (s := []) rfl (by simp) hl hk
  rw [List.append_nil, List.append_nil] at this
  exact this
end Go.Scr.S
