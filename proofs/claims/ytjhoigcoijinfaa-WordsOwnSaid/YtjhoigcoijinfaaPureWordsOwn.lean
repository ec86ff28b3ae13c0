/- The plain law of WordsOwn. -/
import Derived.Test.YtjhoigcoijinfaaFnWordsOwn
import Derived.Test.YtjhoigcoijinfaaXLaw
import Derived.Test.YtjhoigcoijinfaaLibNum
import Derived.Test.YtjhoigcoijinfaaLibWordsBase
import Derived.Test.YtjhoigcoijinfaaLibWordsLoad
import Derived.Test.YtjhoigcoijinfaaLibFill
import Derived.Test.YtjhoigcoijinfaaLibWordsIl
import Derived.Test.YtjhoigcoijinfaaLibWordsTurn
import Derived.Test.YtjhoigcoijinfaaLibWordsBits
import Derived.Test.YtjhoigcoijinfaaLibWordsXorEq
set_option linter.unusedVariables false
set_option linter.unusedSimpArgs false
set_option linter.unnecessarySimpa false
namespace Go.Scr.S
theorem WordsOwn (a0 : List Int) (a1 : Int) (h0 : a0.length ≤ maxLen) (h1 : ∀ x ∈ a0, In .u8 x) (h2 : In .u8 a1) : ∃ k, scrimlaw1_WordsOwn.f k a0 a1 = some true := by
  obtain ⟨l, rfl, hl⟩ := il_of h1
  obtain ⟨k, hk⟩ : ∃ k : Nat, 1000 ≤ k := ⟨1000, Nat.le_refl _⟩
  refine ⟨k, ?_⟩
  unfold scrimlaw1_WordsOwn.f
  simp only [known1_eq (k := k) (by omega), Option.bind_some, Bool.not_true, Bool.false_eq_true, if_false, il_length, List.nil_append]
  by_cases l0 : l.length ≤ 60
  case neg => rw [if_pos (by rw [decide_eq_true_eq]; omega)]
  rw [if_neg (by rw [decide_eq_true_eq]; omega)]
  by_cases lz : l.length = 0
  · rw [if_pos (by rw [beq_iff_eq]; omega)]
  rw [if_neg (by rw [beq_iff_eq]; omega)]
  have i1 := inc_eq (a0 := il l) (k := k) (by rw [il_length]; omega) (by rw [il_length]; omega)
  have t1 := turn_eq (k := k) hl (by omega) (by omega) 0
  rw [turn_zero hl 0 (by simp)] at t1
  have x1 := xor_eq (a := il l) (b := List.replicate ((l.length : Int)).toNat 0) (k := k) (by rw [il_length, List.length_replicate]; omega) (by rw [il_length]; omega) (by rw [il_length]; omega)
  have c1 : decide (0 ≤ (l.length : Int)) = true := by rw [decide_eq_true_eq]; omega
  have c2 : decide ((l.length : Int) ≤ 1000000000) = true := by rw [decide_eq_true_eq]; omega
  have c3 : decide (0 < (l.length : Int)) = true := by rw [decide_eq_true_eq]; omega
  have c4 : decide (([] : List Int).length + l.length ≤ 1000000000) = true := by rw [decide_eq_true_eq]; simp; omega
  simp only [c1, c2, c3, c4, i1, t1, x1, incW_length, fill_length, il_length, Option.bind_some, if_true, bne_self_eq_false, Bool.false_eq_true, if_false, beq_self_eq_true]
end Go.Scr.S
