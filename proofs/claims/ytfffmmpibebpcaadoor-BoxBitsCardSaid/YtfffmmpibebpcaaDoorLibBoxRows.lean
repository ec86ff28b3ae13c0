/- The plain law of BoxRows. -/
import Derived.Test.YtfffmmpibebpcaaDoorFnBoxBits
import Derived.Test.YtfffmmpibebpcaaDoorXLaw
import Derived.Test.YtfffmmpibebpcaaDoorLibNum
import Derived.Test.YtfffmmpibebpcaaDoorLibIl
set_option linter.unusedVariables false
set_option linter.unusedSimpArgs false
set_option linter.unnecessarySimpa false
namespace Go.Scr.S
theorem rows_l0 {b : List Nat} (hb : ∀ x ∈ b, x < 256) (d : Nat) {k i : Nat} {l : List Nat} (hk : d < k) (hi : i + d = 8) (hl : ∀ x ∈ l, x < 256) (hn : l.length = 8) :
    ∃ m : List Nat, scrimlaw4_rows.l0 k (il b) (il l) (i : Int) = some (il m) ∧ m.length = 8 ∧ ∀ x ∈ m, x < 256 := by
  induction d generalizing k i l with
  | zero =>
    obtain ⟨k, rfl⟩ : ∃ j, k = j + 1 := ⟨k - 1, by omega⟩
    have : i = 8 := by omega
    subst this
    exact ⟨l, by simp [scrimlaw4_rows.l0], hn, hl⟩
  | succ d ih =>
    obtain ⟨k, rfl⟩ : ∃ j, k = j + 1 := ⟨k - 1, by omega⟩
    have c1 : decide ((i : Int) < 8) = true := by rw [decide_eq_true_eq]; omega
    have c2 : decide (0 ≤ (i : Int)) = true := by rw [decide_eq_true_eq]; omega
    have e5 : I64 ((i : Int) + 1) = ((i + 1 : Nat) : Int) := by rw [I64_id (by omega) (by omega)]; simp
    by_cases h : i < b.length
    · have c3 : decide ((i : Int) < (b.length : Int)) = true := by rw [decide_eq_true_eq]; omega
      simp only [scrimlaw4_rows.l0, c1, c2, if_true, il_length, c3, il_rd', Int.toNat_natCast, il_set, e5]
      refine ih (by omega) (by omega) (fun x hx => ?_) (by rw [List.length_set]; exact hn)
      rcases List.mem_or_eq_of_mem_set hx with hx | rfl
      · exact hl x hx
      · exact getD_lt hb i
    · have c3 : decide ((i : Int) < (b.length : Int)) = false := by rw [decide_eq_false_iff_not]; omega
      simp only [scrimlaw4_rows.l0, c1, c2, if_true, il_length, c3, Bool.false_eq_true, if_false]
      exact ⟨l, rfl, hn, hl⟩
theorem rows_eq {b : List Nat} (hb : ∀ x ∈ b, x < 256) {k : Nat} (hk : 8 < k) : ∃ m : List Nat, scrimlaw4_rows.f k (il b) = some (il m) ∧ m.length = 8 ∧ ∀ x ∈ m, x < 256 :=
  rows_l0 hb 8 (i := 0) (l := List.replicate 8 0) (by omega) (by omega) (fun x hx => by rw [List.eq_of_mem_replicate hx]; decide) (by simp)
end Go.Scr.S
