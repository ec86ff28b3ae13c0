/- The plain law of TwKey. -/
import Derived.Test.YtngagagokcnnaaaFnTwofishWords
import Derived.Test.YtngagagokcnnaaaLibNum
import Derived.Test.YtngagagokcnnaaaLibIl
import Derived.Test.YtngagagokcnnaaaLibTwW
import Derived.Test.YtngagagokcnnaaaLibTwofishBytes
set_option linter.unusedVariables false
set_option linter.unusedSimpArgs false
set_option linter.unnecessarySimpa false
namespace Go.Scr.S
theorem key9_eq (a : Int) {l : List Nat} (hl : ∀ x ∈ l, x < 256) {k : Nat} (hk : 100 ≤ k) : ∃ (m : List Nat) (n : Nat), scrimlaw9_key.f k (il l) a = some (il m) ∧ (n = 2 ∨ n = 3 ∨ n = 4) ∧ m.length = 8 * n ∧ ∀ x ∈ m, x < 256 := by
  unfold scrimlaw9_key.f
  have w := within9_eq (k := k) a 3 (by decide) (by decide)
  have h0 : 0 ≤ a % 3 := Int.emod_nonneg _ (by decide)
  have h1 : a % 3 < 3 := Int.emod_lt_of_pos _ (by decide)
  rw [w, Option.bind_some, if_pos (by rw [decide_eq_true_eq]; exact h0), if_pos (by rw [decide_eq_true_eq]; exact h1)]
  have h2 : a % 3 = 0 ∨ a % 3 = 1 ∨ a % 3 = 2 := by omega
  rcases h2 with e | e | e
  · obtain ⟨m, em, hm, hb⟩ := bytes9_eq (n := 16) (by decide) hl (k := k) (by omega)
    refine ⟨m, 2, ?_, by omega, hm, hb⟩
    rw [e]
    show (scrimlaw9_Bytes.f k ((16 : Nat) : Int) (il l)).bind _ = _
    rw [em]; rfl
  · obtain ⟨m, em, hm, hb⟩ := bytes9_eq (n := 24) (by decide) hl (k := k) (by omega)
    refine ⟨m, 3, ?_, by omega, hm, hb⟩
    rw [e]
    show (scrimlaw9_Bytes.f k ((24 : Nat) : Int) (il l)).bind _ = _
    rw [em]; rfl
  · obtain ⟨m, em, hm, hb⟩ := bytes9_eq (n := 32) (by decide) hl (k := k) (by omega)
    refine ⟨m, 4, ?_, by omega, hm, hb⟩
    rw [e]
    show (scrimlaw9_Bytes.f k ((32 : Nat) : Int) (il l)).bind _ = _
    rw [em]; rfl
end Go.Scr.S
