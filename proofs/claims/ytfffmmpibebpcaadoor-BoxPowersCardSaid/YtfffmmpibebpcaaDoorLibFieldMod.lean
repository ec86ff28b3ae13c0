/- The plain law of FieldMod. -/
import Derived.Test.YtfffmmpibebpcaaDoorFnBoxPowers
import Derived.Test.YtfffmmpibebpcaaDoorXLaw
import Derived.Test.YtfffmmpibebpcaaDoorLibNum
import Derived.Test.YtfffmmpibebpcaaDoorLibGf
import Derived.Test.YtfffmmpibebpcaaDoorLibFieldPw0
import Derived.Test.YtfffmmpibebpcaaDoorLibFieldWithin
set_option linter.unusedVariables false
set_option linter.unusedSimpArgs false
set_option linter.unnecessarySimpa false
namespace Go.Scr.S
theorem fmod_eq (z : Int) : ∃ m : Nat, Fld m ∧ ∀ k, scrimlaw3_Mod.f k z = some (m : Int) := by
  have h1 := Int.emod_lt_of_pos z (show (0 : Int) < 5 by decide)
  have h0 := Int.emod_nonneg z (show (5 : Int) ≠ 0 by decide)
  have hw := fun k => within_eq (k := k) z 5 (by decide) (by decide)
  generalize hr : z % 5 = r at *
  have key : ∀ m : Nat, rd ([283, 361, 333, 285, 299] : List Int) r = (m : Int) → ∀ k, scrimlaw3_Mod.f k z = some (m : Int) := by
    intro m e k
    unfold scrimlaw3_Mod.f
    rw [hw k]
    show (if _ then _ else _) = _
    rw [if_pos (by simp; omega), if_pos (by simp; omega), e]
  rcases (by omega : r = 0 ∨ r = 1 ∨ r = 2 ∨ r = 3 ∨ r = 4) with h | h | h | h | h <;> subst h
  · exact ⟨283, .inl rfl, key _ rfl⟩
  · exact ⟨361, .inr (.inl rfl), key _ rfl⟩
  · exact ⟨333, .inr (.inr (.inl rfl)), key _ rfl⟩
  · exact ⟨285, .inr (.inr (.inr (.inl rfl))), key _ rfl⟩
  · exact ⟨299, .inr (.inr (.inr (.inr rfl))), key _ rfl⟩
end Go.Scr.S
