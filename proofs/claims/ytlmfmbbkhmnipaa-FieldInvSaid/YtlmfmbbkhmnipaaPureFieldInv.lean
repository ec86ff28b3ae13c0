/- The plain law of FieldInv. -/
import Derived.Test.YtlmfmbbkhmnipaaFnFieldInv
import Derived.Test.YtlmfmbbkhmnipaaXLaw
import Derived.Test.YtlmfmbbkhmnipaaLibNum
import Derived.Test.YtlmfmbbkhmnipaaLibGf
import Derived.Test.YtlmfmbbkhmnipaaLibFieldMul
import Derived.Test.YtlmfmbbkhmnipaaLibFieldMod
set_option linter.unusedVariables false
set_option linter.unusedSimpArgs false
set_option linter.unnecessarySimpa false
namespace Go.Scr.S
theorem FieldInv (a0 : Int) (a1 : Int) (a2 : Int) (h0 : In .u8 a0) (h1 : In .u8 a1) (h2 : In .i64 a2) : ∃ k, scrimlaw3_FieldInv.f k a0 a1 a2 = some true := by
  obtain ⟨a, ha, rfl⟩ := u8_of h0
  obtain ⟨b, hb, rfl⟩ := u8_of h1
  obtain ⟨m, hf, hz⟩ := fmod_eq a2
  have hm := hf.rst
  obtain ⟨k, hk⟩ : ∃ k : Nat, 300 ≤ k := ⟨300, Nat.le_refl _⟩
  refine ⟨k, ?_⟩
  have f1 := fi_eq (k := k) hm (by omega) ha
  have f2 := fi_eq (k := k) hm (by omega) hb
  have f3 := fm_eq (k := k) hm (by omega) ha (iv_lt m a)
  have f4 := fp_eq (k := k) (n := 254) hm (by omega) ha (by decide)
  have f5 := fi_eq (k := k) hm (by omega) (iv_lt m a)
  have f6 := fm_eq (k := k) hm (by omega) ha hb
  have f7 := fi_eq (k := k) hm (by omega) (mu_lt hm ha b)
  have f8 := fm_eq (k := k) hm (by omega) (iv_lt m a) (iv_lt m b)
  simp only [Int.cast_ofNat_Int] at f4
  unfold scrimlaw3_FieldInv.f
  by_cases ha0 : a = 0
  · subst ha0
    rw [iv_zero] at f1
    simp only [Int.cast_ofNat_Int] at f1
    simp only [known_eq hk, Option.bind_some, Bool.not_true, Bool.false_eq_true, if_false, hz, Int.cast_ofNat_Int, f1, f2]
    simp
  have e3 := fld_mu hf ha ha0
  have e4 := fld_iv hf ha ha0
  have e5 : iv m (iv m a) = a := iv_eq hm (iv_lt m a) ha (by rw [mu_comm m (iv_lt m a) ha, e3])
  have e7 : iv m (mu m a b) = mu m (iv m a) (iv m b) := by
    by_cases hb0 : b = 0
    · subst hb0; rw [mu_zero, iv_zero, mu_zero]
    · refine iv_eq hm (mu_lt hm ha b) (mu_lt hm (iv_lt m a) _) ?_
      rw [← mu_assoc hm (mu_lt hm ha b) (iv_lt m a) (iv_lt m b), mu_comm m ha hb, mu_assoc hm hb ha (iv_lt m a), e3, mu_one m hb, fld_mu hf hb hb0]
  rw [← e4] at f4
  rw [e3] at f3
  rw [e5] at f5
  rw [e7] at f7
  have hz0 : (((a : Nat) : Int) == 0) = false := by simp; omega
  simp only [Int.cast_ofNat_Int] at f3
  simp only [known_eq hk, Option.bind_some, Bool.not_true, Bool.false_eq_true, if_false, hz, f1, f2, hz0, f3, f4, f5, f6, f7, f8]
  simp
end Go.Scr.S
