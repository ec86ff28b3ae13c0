/- The plain law of FieldPows. -/
import Derived.Test.YtlmfmbbkhmnipaaFnFieldPows
import Derived.Test.YtlmfmbbkhmnipaaXLaw
import Derived.Test.YtlmfmbbkhmnipaaLibNum
import Derived.Test.YtlmfmbbkhmnipaaLibGf
import Derived.Test.YtlmfmbbkhmnipaaLibFieldMul
import Derived.Test.YtlmfmbbkhmnipaaLibFieldMod
set_option linter.unusedVariables false
set_option linter.unusedSimpArgs false
set_option linter.unnecessarySimpa false
namespace Go.Scr.S
theorem FieldPows (a0 : Int) (a1 : Int) (a2 : Int) (a3 : Int) (h0 : In .u8 a0) (h1 : In .i64 a1) (h2 : In .i64 a2) (h3 : In .i64 a3) : ∃ k, scrimlaw3_FieldPows.f k a0 a1 a2 a3 = some true := by
  obtain ⟨a, ha, rfl⟩ := u8_of h0
  obtain ⟨m, hf, hz⟩ := fmod_eq a3
  have hm := hf.rst
  obtain ⟨k, hk⟩ : ∃ k : Nat, 300 ≤ k := ⟨300, Nat.le_refl _⟩
  refine ⟨k, ?_⟩
  have w1 := within_eq (k := k) a1 400000 (by decide) (by decide)
  have w2 := within_eq (k := k) a2 400000 (by decide) (by decide)
  obtain ⟨i, hi, ei⟩ : ∃ i : Nat, i < 400000 ∧ a1 % 400000 = i := ⟨(a1 % 400000).toNat, by omega, by omega⟩
  obtain ⟨j, hj, ej⟩ : ∃ i : Nat, i < 400000 ∧ a2 % 400000 = i := ⟨(a2 % 400000).toNat, by omega, by omega⟩
  rw [ei] at w1; rw [ej] at w2
  have s1 : I64 ((i : Int) + (j : Int)) = ((i + j : Nat) : Int) := by rw [I64_id (by omega) (by omega)]; simp
  have s2 : I64 (1 + (i : Int)) = ((i + 1 : Nat) : Int) := by rw [I64_id (by omega) (by omega)]; omega
  have f1 := fp_eq (k := k) (n := i) hm (by omega) ha (by omega)
  have f2 := fp_eq (k := k) (n := j) hm (by omega) ha (by omega)
  have f3 := fm_eq (k := k) hm (by omega) (pw_lt hm ha i) (pw_lt hm ha j)
  have f4 := fp_eq (k := k) (n := i + j) hm (by omega) ha (by omega)
  have f5 := fp_eq (k := k) (n := 1) hm (by omega) ha (by decide)
  have f6 := fp_eq (k := k) (a := 0) (n := i + 1) hm (by omega) (by decide) (by omega)
  have f7 := fp_eq (k := k) (n := 7) hm (by omega) ha (by decide)
  have f8 := fm_eq (k := k) hm (by omega) (pw_lt hm ha 7) ha
  have f9 := fp_eq (k := k) (n := 8) hm (by omega) ha (by decide)
  have fa := fp_eq (k := k) (n := 255) hm (by omega) ha (by decide)
  rw [pw_add hm ha] at f4
  rw [pw_one m ha] at f5
  rw [pw_zero] at f6
  rw [show pw m a 8 = mu m (pw m a 7) a from rfl] at f9
  simp only [Int.cast_ofNat_Int, Int.natCast_zero, Int.natCast_one] at f5 f6 f7 f9 fa
  unfold scrimlaw3_FieldPows.f
  by_cases ha0 : a = 0
  · subst ha0
    simp only [Int.cast_ofNat_Int, Int.natCast_zero, Int.natCast_one] at *
    simp only [known_eq hk, Option.bind_some, Bool.not_true, Bool.false_eq_true, if_false, hz, w1, w2, s1, s2, f1, f2, f3, f4, f5, f6, f7, f8, f9, beq_self_eq_true, if_true]
  · have ea : pw m a 255 = 1 := by
      show mu m (pw m a 254) a = 1
      rw [mu_comm m (pw_lt hm ha _) ha]; exact fld_pow hf ha ha0
    rw [ea] at fa
    simp only [Int.cast_ofNat_Int, Int.natCast_one] at fa
    have hz0 : (((a : Nat) : Int) == 0) = false := by simp; omega
    simp only [known_eq hk, Option.bind_some, Bool.not_true, Bool.false_eq_true, if_false, hz, w1, w2, s1, s2, f1, f2, f3, f4, f5, f6, f7, f8, f9, fa, hz0, beq_self_eq_true, if_true]
end Go.Scr.S
