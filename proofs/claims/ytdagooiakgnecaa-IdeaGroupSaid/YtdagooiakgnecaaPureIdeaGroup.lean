/- The plain law of IdeaGroup. -/
import Derived.Test.YtdagooiakgnecaaFnIdeaGroup
import Derived.Test.YtdagooiakgnecaaLibNum
import Derived.Test.YtdagooiakgnecaaLibIdeaNum
import Derived.Test.YtdagooiakgnecaaLibIdeaKnown
import Derived.Test.YtdagooiakgnecaaLibIdeaMulL
set_option linter.unusedVariables false
set_option linter.unusedSimpArgs false
set_option linter.unnecessarySimpa false
namespace Go.Scr.S
theorem beq_nat (a b : Nat) : (((a : Int) == (b : Int)) : Bool) = decide (a = b) := by
  by_cases h : a = b
  · subst h; simp
  · rw [decide_eq_false h, beq_eq_false_iff_ne]; omega
theorem res7 (z : Int) : ∃ n : Nat, n < 65536 ∧ z % 65536 = n := ⟨(z % 65536).toNat, by omega, by omega⟩
theorem IdeaGroup (a0 : Int) (a1 : Int) (a2 : Int) (h0 : In .i64 a0) (h1 : In .i64 a1) (h2 : In .i64 a2) : ∃ k, scrimlaw7_IdeaGroup.f k a0 a1 a2 = some true := by
  obtain ⟨x, hx, ex⟩ := res7 a0
  obtain ⟨y, hy, ey⟩ := res7 a1
  obtain ⟨z, hz, ez⟩ := res7 a2
  obtain ⟨k, hk⟩ : ∃ k : Nat, 600 ≤ k := ⟨600, Nat.le_refl _⟩
  refine ⟨k, ?_⟩
  have w0 := within7_eq (k := k) a0 65536 (by decide) (by decide)
  have w1 := within7_eq (k := k) a1 65536 (by decide) (by decide)
  have w2 := within7_eq (k := k) a2 65536 (by decide) (by decide)
  rw [ex] at w0; rw [ey] at w1; rw [ez] at w2
  have i1 := inv7_eq (k := k) (by omega) hx
  have i2 := inv7_eq (k := k) (by omega) (iv_lt7 x)
  have m1 := mul7_eq (k := k) hx hy
  have m2 := mul7_eq (k := k) hy hx
  have m3 := mul7_eq (k := k) (im_lt x y) hz
  have m4 := mul7_eq (k := k) hy hz
  have m5 := mul7_eq (k := k) hx (im_lt y z)
  have m6 := mul7_eq (k := k) (b := 1) hx (by decide)
  have m7 := mul7_eq (k := k) hx (iv_lt7 x)
  have m8 := mul7_eq (k := k) hx hz
  simp only [Int.cast_ofNat_Int] at m6
  unfold scrimlaw7_IdeaGroup.f
  simp only [known7_eq hk, w0, w1, w2, i1, i2, m1, m2, m3, m4, m5, m6, m7, m8, Option.bind_some, Bool.not_true, Bool.false_eq_true, if_false]
  rw [im_comm y x, im_assoc hx hy hz, im_one hx, im_iv hx, iv_iv hx]
  simp only [beq_self_eq_true, if_true, beq_nat, im_cancel hx hy hz]
  simp
end Go.Scr.S
