/- The plain law of GXor. -/
import Derived.Test.YtngagagokcnnaaaFnTwofishH
import Derived.Test.YtngagagokcnnaaaLibNum
import Derived.Test.YtngagagokcnnaaaLibIl
import Derived.Test.YtngagagokcnnaaaLibFill
set_option linter.unusedVariables false
set_option linter.unusedSimpArgs false
set_option linter.unnecessarySimpa false
namespace Go.Scr.S
def xo (a b : List Int) (j : Nat) : Int := bxor .u8 (rd a (j : Int)) (rd b (j : Int))
theorem xor_l0 {a b : List Int} (h : a.length = b.length) (hl : a.length < 1000000000) (d : Nat) {k i : Nat} {x : List Int} (hi : i + d = a.length) (hk : d < k) (hx : Fl (xo a b) a.length i x) :
    words_Xor.l0 k a b x (i : Int) = some (fill a.length (xo a b), true) := by
  induction d generalizing k i x with
  | zero =>
    obtain ⟨k, rfl⟩ : ∃ j, k = j + 1 := ⟨k - 1, by omega⟩
    have : i = a.length := by omega
    subst this
    simp only [words_Xor.l0]
    rw [if_neg (by simp), hx.done]
  | succ d ih =>
    obtain ⟨k, rfl⟩ : ∃ j, k = j + 1 := ⟨k - 1, by omega⟩
    have c1 : decide ((i : Int) < (a.length : Int)) = true := by rw [decide_eq_true_eq]; omega
    have c2 : decide (0 ≤ (i : Int)) = true := by rw [decide_eq_true_eq]; omega
    have c3 : decide ((i : Int) < (b.length : Int)) = true := by rw [decide_eq_true_eq]; omega
    have c4 : decide ((i : Int) < (((a.length : Int)).toNat : Int)) = true := by rw [decide_eq_true_eq]; omega
    have e5 : I64 ((i : Int) + 1) = ((i + 1 : Nat) : Int) := by rw [I64_id (by omega) (by omega)]; simp
    simp only [words_Xor.l0, c1, c2, c3, c4, if_true, e5, Int.toNat_natCast]
    exact ih (by omega) (by omega) (hx.set (by omega) rfl)
theorem xor_eq {a b : List Int} {k : Nat} (h : a.length = b.length) (hl : a.length < 1000000000) (hk : a.length < k) : words_Xor.f k a b = some (fill a.length (xo a b), true) := by
  unfold words_Xor.f
  rw [if_neg (by simp [h]), if_pos (by simp), if_pos (by rw [decide_eq_true_eq]; omega)]
  exact xor_l0 h hl a.length (i := 0) (by omega) hk (Fl.zero (by simp))
theorem xor_no {a b : List Int} {k : Nat} (h : a.length ≠ b.length) : words_Xor.f k a b = some ([], false) := by
  unfold words_Xor.f
  rw [if_pos (by simp; omega)]
end Go.Scr.S
