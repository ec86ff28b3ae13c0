/- The plain law of TwAl. -/
import Derived.Test.YtngagagokcnnaaaFnTwofishKeys
import Derived.Test.YtngagagokcnnaaaLibNum
set_option linter.unusedVariables false
set_option linter.unusedSimpArgs false
set_option linter.unnecessarySimpa false
namespace Go.Scr.S
theorem alike_l0 {l : List Int} (hl : l.length < 1000) (d : Nat) : ∀ {i k : Nat}, i + d = l.length → d < k → scrimlaw9_alike.l0 k l l (i : Int) = some true := by
  induction d with
  | zero =>
    intro i k hi hk
    obtain ⟨k, rfl⟩ : ∃ j, k = j + 1 := ⟨k - 1, by omega⟩
    rw [scrimlaw9_alike.l0, if_neg (by rw [decide_eq_true_eq]; omega)]
  | succ d ih =>
    intro i k hi hk
    obtain ⟨k, rfl⟩ : ∃ j, k = j + 1 := ⟨k - 1, by omega⟩
    have c0 : decide (0 ≤ (i : Int)) = true := by rw [decide_eq_true_eq]; omega
    have c1 : decide ((i : Int) < (l.length : Int)) = true := by rw [decide_eq_true_eq]; omega
    have a2 : I64 ((i : Int) + 1) = ((i + 1 : Nat) : Int) := I64_nat (n := i + 1) (by omega)
    rw [scrimlaw9_alike.l0, if_pos c1, if_pos c0, if_pos c1, if_pos c0, if_pos c1, if_neg (by simp), a2]
    exact ih (by omega) (by omega)
theorem alike_eq {l : List Int} (hl : l.length < 1000) {k : Nat} (hk : l.length < k) : scrimlaw9_alike.f k l l = some true := by
  unfold scrimlaw9_alike.f
  rw [if_neg (by simp)]
  exact alike_l0 hl l.length (i := 0) (by omega) hk
end Go.Scr.S
