/- The plain law of IdeaMulL. -/
import Derived.Test.YtdagooiakgnecaaFnIdeaRounds
import Derived.Test.YtdagooiakgnecaaLibNum
import Derived.Test.YtdagooiakgnecaaLibIdeaNum
set_option linter.unusedVariables false
set_option linter.unusedSimpArgs false
set_option linter.unnecessarySimpa false
namespace Go.Scr.S
theorem mul7_eq {k a b : Nat} (ha : a < 65536) (hb : b < 65536) : idea_Mul.f k (a : Int) (b : Int) = some ((im a b : Nat) : Int) := by
  have key : ∀ x y : Nat, x < 65537 → y < 65537 → Int.tmod (Int.tmod (I64 ((x : Int) * (y : Int))) 65537) 65536 = ((x * y % 65537 % 65536 : Nat) : Int) := by
    intro x y hx hy
    have : x * y ≤ 65536 * 65536 := Nat.mul_le_mul (by omega) (by omega)
    rw [← Int.natCast_mul, I64_nat (by omega)]; rfl
  unfold idea_Mul.f im
  have e0 : ∀ n : Nat, (((n : Int) == 0) : Bool) = decide (n = 0) := fun n => by
    by_cases h : n = 0
    · subst h; rfl
    · rw [decide_eq_false h, beq_eq_false_iff_ne]; omega
  rw [e0, e0]
  unfold st
  by_cases h1 : a = 0
  · by_cases h2 : b = 0
    · simp only [h1, h2, decide_true, if_true]; rfl
    · simp only [h1, h2, decide_true, decide_false, if_true, if_false, Bool.false_eq_true]
      exact congrArg some (key 65536 b (by omega) (by omega))
  · by_cases h2 : b = 0
    · simp only [h1, h2, decide_true, decide_false, if_true, if_false, Bool.false_eq_true]
      exact congrArg some (key a 65536 (by omega) (by omega))
    · simp only [h1, h2, decide_false, if_false, Bool.false_eq_true]
      exact congrArg some (key a b (by omega) (by omega))
theorem inv7_l0 {k : Nat} (f : Nat) {a o n : Nat} (hf : f < k) (ha : a < 65536) (ho : o < 65536) (hn : n < 2 ^ f) (hb : n < 65536) :
    idea_Inv.l0 k (a : Int) (o : Int) (n : Int) = some (((st o * st a ^ n) % 65537 % 65536 : Nat) : Int) := by
  induction f generalizing k a o n with
  | zero =>
    obtain ⟨k, rfl⟩ : ∃ j, k = j + 1 := ⟨k - 1, by omega⟩
    have : n = 0 := by omega
    subst this
    simp only [idea_Inv.l0]
    rw [if_neg (by simp)]
    congr 2
    simp
    unfold st; split <;> omega
  | succ f ih =>
    obtain ⟨k, rfl⟩ : ∃ j, k = j + 1 := ⟨k - 1, by omega⟩
    simp only [idea_Inv.l0]
    by_cases h0 : n = 0
    · subst h0
      rw [if_neg (by simp)]
      congr 2
      simp
      unfold st; split <;> omega
    · rw [if_pos (by rw [decide_eq_true_eq]; omega)]
      have e1 : Int.tmod (n : Int) 2 = ((n % 2 : Nat) : Int) := rfl
      have e2 : I64 (Int.tdiv (n : Int) 2) = ((n / 2 : Nat) : Int) := I64_nat (n := n / 2) (by omega)
      have hn2 : n / 2 < 2 ^ f := by rw [Nat.pow_succ] at hn; omega
      have hsq : st (im a a) = st a * st a % 65537 := st_im ha ha
      have m1 := mul7_eq (k := k) ho ha
      have m2 := mul7_eq (k := k) ha ha
      rw [e1, e2, m1, m2]
      simp only [Option.bind_some]
      by_cases h1 : n % 2 = 1
      · rw [if_pos (by rw [decide_eq_true_eq]; omega), ih (by omega) (im_lt _ _) (im_lt _ _) hn2 (by omega)]
        congr 2
        rw [st_im ho ha, hsq, Nat.mod_mul_mod, Nat.mul_mod, Nat.pow_mod (st a * st a % 65537), Nat.mod_mod, ← Nat.pow_mod, ← Nat.mul_mod, ← Nat.pow_two, ← Nat.pow_mul, Nat.mul_assoc, ← Nat.pow_succ', show Nat.succ (2 * (n / 2)) = n by omega]
      · rw [if_neg (by rw [decide_eq_true_eq]; omega), ih (by omega) (im_lt _ _) ho hn2 (by omega)]
        congr 2
        rw [hsq, Nat.mul_mod, Nat.pow_mod (st a * st a % 65537), Nat.mod_mod, ← Nat.pow_mod, ← Nat.mul_mod, ← Nat.pow_two, ← Nat.pow_mul, show 2 * (n / 2) = n by omega]
theorem inv7_eq {k a : Nat} (hk : 20 < k) (ha : a < 65536) : idea_Inv.f k (a : Int) = some ((iv a : Nat) : Int) := by
  unfold idea_Inv.f iv
  have := inv7_l0 (k := k) 16 (o := 1) (n := eA) (by omega) ha (by decide) (by decide) (by decide)
  rw [show st 1 = 1 by decide, Nat.one_mul] at this
  exact this
end Go.Scr.S
