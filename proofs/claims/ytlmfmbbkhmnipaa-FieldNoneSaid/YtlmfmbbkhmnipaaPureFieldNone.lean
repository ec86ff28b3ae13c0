/- The plain law of FieldNone. -/
import Derived.Test.YtlmfmbbkhmnipaaFnFieldNone
import Derived.Test.YtlmfmbbkhmnipaaXLaw
import Derived.Test.YtlmfmbbkhmnipaaLibNum
import Derived.Test.YtlmfmbbkhmnipaaLibGf
import Derived.Test.YtlmfmbbkhmnipaaLibFieldMul
set_option linter.unusedVariables false
set_option linter.unusedSimpArgs false
set_option linter.unnecessarySimpa false
namespace Go.Scr.S
theorem fnone_l0 {m a t4 : Nat} (hm : Rst m) (ha : a < 256) (ht : I64 (256 + (t4 : Int)) = (m : Int)) (hno : ∀ y, y < 256 → mu m a y = 1 → iv m a ≤ y) (hiv : iv m a = 0 ∨ mu m a (iv m a) = 1) (d : Nat) {k x : Nat} (hx : x + d = 256) (hk : d + 9 < k)
    (hle : iv m a = 0 ∨ x ≤ iv m a) (h1 : 1 ≤ x) : scrimlaw3_FieldNone.l0 k (a : Int) (t4 : Int) ((iv m a : Nat) : Int) (x : Int) = some true := by
  induction d generalizing k x with
  | zero =>
    obtain ⟨k, rfl⟩ : ∃ j, k = j + 1 := ⟨k - 1, by omega⟩
    have : x = 256 := by omega
    subst this
    have := iv_lt m a
    have : iv m a = 0 := by omega
    simp [scrimlaw3_FieldNone.l0, this]
  | succ d ih =>
    obtain ⟨k, rfl⟩ : ∃ j, k = j + 1 := ⟨k - 1, by omega⟩
    have hl := iv_lt m a
    simp only [scrimlaw3_FieldNone.l0]
    rw [if_pos (by simp; omega), U8_id (by omega) (by omega), ht, fm_eq hm (by omega) ha (by omega)]
    show (if _ then _ else _) = _
    rw [I64_nat (n := iv m a) (by omega), I64_id (x := (x : Int) + 1) (by omega) (by omega)]
    by_cases h : mu m a x = 1
    · rw [if_pos (by simp [h])]
      have h2 := hno x (by omega) h
      rcases hle with h3 | h3
      · exfalso
        have hz : iv m a ≠ 0 := by
          have := iv_eq hm ha (by omega) h
          omega
        exact hz h3
      · have : iv m a = x := by omega
        rw [this]; simp
    · rw [if_neg (by simp; omega)]
      have e : ((x : Int) + 1) = ((x + 1 : Nat) : Int) := by simp
      rw [e]
      refine ih (by omega) (by omega) ?_ (by omega)
      rcases hle with h3 | h3
      · exact .inl h3
      · by_cases h4 : iv m a = x
        · exfalso
          rcases hiv with h5 | h5
          · omega
          · rw [h4] at h5; exact h h5
        · exact .inr (by omega)
theorem FieldNone (a0 : Int) (a1 : Int) (h0 : In .u8 a0) (h1 : In .i64 a1) : ∃ k, scrimlaw3_FieldNone.f k a0 a1 = some true := by
  obtain ⟨a, ha, rfl⟩ := u8_of h0
  obtain ⟨k, hk⟩ : ∃ k : Nat, 300 ≤ k := ⟨300, Nat.le_refl _⟩
  have hw := within_eq (k := k) a1 256 (by decide) (by decide)
  obtain ⟨t, ht, et⟩ : ∃ i : Nat, i < 256 ∧ a1 % 256 = i := ⟨(a1 % 256).toNat, by omega, by omega⟩
  rw [et] at hw
  have hz : I64 (256 + (t : Int)) = ((256 + t : Nat) : Int) := by rw [I64_id (by omega) (by omega)]; simp
  have hm : Rst (256 + t) := ⟨by omega, by omega⟩
  have f1 := fi_eq (k := k) hm (by omega) ha
  refine ⟨k, ?_⟩
  unfold scrimlaw3_FieldNone.f
  simp only [known_eq hk, hw, Option.bind_some, Bool.not_true, Bool.false_eq_true, if_false, hz, f1]
  refine fnone_l0 (x := 1) hm ha hz ?_ ?_ 255 (by omega) (by omega) (by omega) (by omega)
  · intro y hy h; rw [iv_eq hm ha hy h]; exact Nat.le_refl _
  · cases hf : (List.range 256).find? (fun x => mu (256 + t) a x == 1) with
    | none => left; unfold iv; rw [hf]; rfl
    | some y => right; have h1 := List.find?_some hf; simp at h1; unfold iv; rw [hf]; exact h1
end Go.Scr.S
