/- The plain law of FieldSquare. -/
import Derived.Test.YtlmfmbbkhmnipaaFnFieldSquare
import Derived.Test.YtlmfmbbkhmnipaaXLaw
import Derived.Test.YtlmfmbbkhmnipaaLibNum
import Derived.Test.YtlmfmbbkhmnipaaLibGf
import Derived.Test.YtlmfmbbkhmnipaaLibFieldMul
set_option linter.unusedVariables false
set_option linter.unusedSimpArgs false
set_option linter.unnecessarySimpa false
namespace Go.Scr.S
theorem FieldSquare (a0 : Int) (a1 : Int) (a2 : Int) (h0 : In .u8 a0) (h1 : In .u8 a1) (h2 : In .i64 a2) : ∃ k, scrimlaw3_FieldSquare.f k a0 a1 a2 = some true := by
  obtain ⟨a, ha, rfl⟩ := u8_of h0
  obtain ⟨b, hb, rfl⟩ := u8_of h1
  obtain ⟨m, hm, hz⟩ := rest_eq a2
  obtain ⟨k, hk⟩ : ∃ k : Nat, 300 ≤ k := ⟨300, Nat.le_refl _⟩
  have hab : a ^^^ b < 256 := Nat.xor_lt_two_pow (n := 8) ha hb
  have hp : field_Pow.f k (a : Int) 2 (m : Int) = some ((mu m a a : Nat) : Int) := by
    have e := fp_eq (n := 2) hm (k := k) (by omega) ha (by decide)
    have e' : pw m a 2 = mu m a a := by show mu m (mu m 1 a) a = _; rw [one_mu m ha]
    rw [e'] at e; exact e
  refine ⟨k, ?_⟩
  unfold scrimlaw3_FieldSquare.f
  have e : mu m (a ^^^ b) (a ^^^ b) = mu m a a ^^^ mu m b b := by
    rw [mu_left, mu_right, mu_right, mu_comm m hb ha, xor4, Nat.xor_comm (mu m a b) (mu m b b), ← xor4, Nat.xor_self, Nat.xor_zero]
  have hw := within_eq (k := k) a2 256 (by decide) (by decide)
  have f1 := fm_eq (k := k) hm (by omega) hab hab
  have f2 := fm_eq (k := k) hm (by omega) ha ha
  have f3 := fm_eq (k := k) hm (by omega) hb hb
  have b1 := bx8 ha hb
  have b2 := bx8 (mu_lt hm ha a) (mu_lt hm hb b)
  simp only [known_eq hk, hw, Option.bind_some, Bool.not_true, Bool.false_eq_true, if_false, hz, hp, b1, f1, f2, f3, b2, e]
  simp
end Go.Scr.S
