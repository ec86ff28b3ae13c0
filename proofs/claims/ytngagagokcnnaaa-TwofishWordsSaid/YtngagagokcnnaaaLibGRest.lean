/- The plain law of GRest. -/
import Derived.Test.YtngagagokcnnaaaFnTwofishWords
import Derived.Test.YtngagagokcnnaaaLibNum
set_option linter.unusedVariables false
set_option linter.unusedSimpArgs false
set_option linter.unnecessarySimpa false
namespace Go.Scr.S
/-- A rest that is never less than nought. -/
theorem rest_fix (n : Int) (by_ : Nat) (h : 0 < by_) (h1 : by_ < 4611686018427387904) : Int.tmod (I64 (Int.tmod n (by_ : Int) + (by_ : Int))) (by_ : Int) = ((n % (by_ : Int)).toNat : Nat) := by
  have e := Int.tmod_eq_emod (a := n) (b := (by_ : Int))
  have h2 := Int.emod_nonneg n (show (by_ : Int) ≠ 0 by omega)
  have h3 := Int.emod_lt_of_pos n (show (0 : Int) < by_ by omega)
  have h4 : 0 ≤ Int.tmod n (by_ : Int) + (by_ : Int) ∧ Int.tmod n (by_ : Int) + (by_ : Int) < 2 * by_ := by rw [e]; split <;> omega
  rw [I64_id (by omega) (by omega), Int.tmod_eq_emod_of_nonneg h4.1, e]
  split
  · rw [show n % (by_ : Int) - ((0 : Nat) : Int) + (by_ : Int) = n % (by_ : Int) + (by_ : Int) by omega, Int.add_emod_right, Int.emod_emod]; omega
  · rw [Int.natAbs_natCast]
    rw [show n % (by_ : Int) - (by_ : Int) + (by_ : Int) = n % (by_ : Int) by omega, Int.emod_emod]; omega
theorem wrest_eq {k : Nat} (n : Int) {b : Nat} (h : 0 < b) (h1 : b < 4611686018427387904) : words_rest.f k n (b : Int) = some (((n % (b : Int)).toNat : Nat) : Int) := by
  unfold words_rest.f
  rw [if_neg (by simp; omega), if_neg (by simp; omega), rest_fix n b h h1]
end Go.Scr.S
