/- The plain law of FieldRules. -/
import Derived.Test.YtlmfmbbkhmnipaaFnFieldRules
import Derived.Test.YtlmfmbbkhmnipaaXLaw
import Derived.Test.YtlmfmbbkhmnipaaLibNum
import Derived.Test.YtlmfmbbkhmnipaaLibGf
import Derived.Test.YtlmfmbbkhmnipaaLibFieldMul
set_option linter.unusedVariables false
set_option linter.unusedSimpArgs false
set_option linter.unnecessarySimpa false
namespace Go.Scr.S
theorem FieldRules (a0 : Int) (a1 : Int) (a2 : Int) (a3 : Int) (h0 : In .u8 a0) (h1 : In .u8 a1) (h2 : In .u8 a2) (h3 : In .i64 a3) : ∃ k, scrimlaw3_FieldRules.f k a0 a1 a2 a3 = some true := by
  obtain ⟨a, ha, rfl⟩ := u8_of h0
  obtain ⟨b, hb, rfl⟩ := u8_of h1
  obtain ⟨c, hc, rfl⟩ := u8_of h2
  obtain ⟨m, hm, hz⟩ := rest_eq a3
  obtain ⟨k, hk⟩ : ∃ k : Nat, 300 ≤ k := ⟨300, Nat.le_refl _⟩
  refine ⟨k, ?_⟩
  have hw := within_eq (k := k) a3 256 (by decide) (by decide)
  have hbc : b ^^^ c < 256 := Nat.xor_lt_two_pow (n := 8) hb hc
  have f1 := fm_eq (k := k) hm (by omega) ha hb
  have f2 := fm_eq (k := k) hm (by omega) hb ha
  have f3 := fm_eq (k := k) hm (by omega) (mu_lt hm ha b) hc
  have f4 := fm_eq (k := k) hm (by omega) hb hc
  have f5 := fm_eq (k := k) hm (by omega) ha (mu_lt hm hb c)
  have f6 := fm_eq (k := k) hm (by omega) ha hbc
  have f7 := fm_eq (k := k) hm (by omega) ha hc
  have f8 := fm_eq (k := k) (b := 1) hm (by omega) ha (by decide)
  have f9 := fm_eq (k := k) (b := 0) hm (by omega) ha (by decide)
  have b1 := bx8 hb hc
  have b2 := bx8 (mu_lt hm ha b) (mu_lt hm ha c)
  rw [mu_one m ha] at f8
  rw [mu_zero] at f9
  simp only [Int.cast_ofNat_Int] at f8 f9
  unfold scrimlaw3_FieldRules.f
  simp only [known_eq hk, hw, Option.bind_some, Bool.not_true, Bool.false_eq_true, if_false, hz, f1, f2, f3, f4, f5, b1, f6, f7, f8, f9, b2]
  rw [mu_comm m hb ha, mu_assoc hm ha hb hc, mu_right]
  simp
end Go.Scr.S
