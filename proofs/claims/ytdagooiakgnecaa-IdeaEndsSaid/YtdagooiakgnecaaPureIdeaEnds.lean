/- The plain law of IdeaEnds. -/
import Derived.Test.YtdagooiakgnecaaFnIdeaEnds
import Derived.Test.YtdagooiakgnecaaLibNum
import Derived.Test.YtdagooiakgnecaaLibIdeaNum
import Derived.Test.YtdagooiakgnecaaLibIdeaKnown
import Derived.Test.YtdagooiakgnecaaLibIdeaMulL
set_option linter.unusedVariables false
set_option linter.unusedSimpArgs false
set_option linter.unnecessarySimpa false
namespace Go.Scr.S
theorem im_zero {x : Nat} (hx : x < 65536) : im 0 x = if x = 0 then 1 else (65537 - x) % 65536 := by
  by_cases h : x = 0
  · subst h; rfl
  · rw [if_neg h]
    unfold im st
    rw [if_pos rfl, if_neg h]
    have e1 : 65536 * x = (65537 - x) + 65537 * (x - 1) := by omega
    have e2 : 65536 * x % 65537 = 65537 - x := by rw [e1, Nat.add_mul_mod_self_left, Nat.mod_eq_of_lt (by omega)]
    rw [e2]
theorem IdeaEnds (a0 : Int) (a1 : Int) (h0 : In .i64 a0) (h1 : In .i64 a1) : ∃ k, scrimlaw7_IdeaEnds.f k a0 a1 = some true := by
  obtain ⟨n, hn, en⟩ : ∃ i : Nat, i < 10 ∧ a0 % 10 = i := ⟨(a0 % 10).toNat, by omega, by omega⟩
  obtain ⟨x, hx, ex⟩ := res7 a1
  refine ⟨600, ?_⟩
  have w0 := within7_eq (k := 600) a0 10 (by decide) (by decide)
  have w1 := within7_eq (k := 600) a1 65536 (by decide) (by decide)
  rw [en] at w0; rw [ex] at w1
  have m0 := mul7_eq (k := 600) (a := 0) (by decide) hx
  simp only [Int.cast_ofNat_Int] at m0
  have e1 : ((x : Int) == 0) = decide (x = 0) := beq_nat x 0
  unfold scrimlaw7_IdeaEnds.f
  rw [known7_eq (Nat.le_refl _), w0, w1]
  simp only [Option.bind_some, m0, im_zero hx, e1]
  by_cases h : x = 0
  · subst h
    have : n = 0 ∨ n = 1 ∨ n = 2 ∨ n = 3 ∨ n = 4 ∨ n = 5 ∨ n = 6 ∨ n = 7 ∨ n = 8 ∨ n = 9 := by omega
    rcases this with rfl | rfl | rfl | rfl | rfl | rfl | rfl | rfl | rfl | rfl <;> (refine Eq.trans ?_ (Eq.refl (some true)); kernel_rfl)
  · have e2 : ((((65537 - x) % 65536 : Nat) : Int) == Int.tmod (I64 (65537 - (x : Int))) 65536) = true := by
      have : (65537 - (x : Int)) = ((65537 - x : Nat) : Int) := by omega
      rw [this, I64_nat (by omega), beq_iff_eq]; rfl
    simp only [if_neg h, e2, decide_eq_false h]
    generalize ((65537 - x) % 65536 : Nat) = y
    have : n = 0 ∨ n = 1 ∨ n = 2 ∨ n = 3 ∨ n = 4 ∨ n = 5 ∨ n = 6 ∨ n = 7 ∨ n = 8 ∨ n = 9 := by omega
    rcases this with rfl | rfl | rfl | rfl | rfl | rfl | rfl | rfl | rfl | rfl <;> (refine Eq.trans ?_ (Eq.refl (some true)); kernel_rfl)
end Go.Scr.S
