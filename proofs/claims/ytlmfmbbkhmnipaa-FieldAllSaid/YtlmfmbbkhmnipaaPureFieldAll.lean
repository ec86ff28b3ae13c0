/- The plain law of FieldAll. -/
import Derived.Test.YtlmfmbbkhmnipaaFnFieldAll
import Derived.Test.YtlmfmbbkhmnipaaXLaw
import Derived.Test.YtlmfmbbkhmnipaaLibNum
import Derived.Test.YtlmfmbbkhmnipaaLibGf
import Derived.Test.YtlmfmbbkhmnipaaLibFieldMul
import Derived.Test.YtlmfmbbkhmnipaaLibFieldMod
import Derived.Test.YtlmfmbbkhmnipaaLibFieldRefMul
import Derived.Test.YtlmfmbbkhmnipaaLibFieldRef
set_option linter.unusedVariables false
set_option linter.unusedSimpArgs false
set_option linter.unnecessarySimpa false
namespace Go.Scr.S
theorem fall_l0 {a b n : Nat} {a3 : Int} (ha : a < 256) (hb : b < 256) (hn : n < 1000001) (hw : a3 % 1000001 = n) (t4 t6 : Int) (h4 : ∃ m : Nat, Rst m ∧ t4 = m) (h6 : ∃ m : Nat, Rst m ∧ I64 (256 + t6) = m)
    (d : Nat) {k i : Nat} (hk : d + 300 < k) (hi : i + d = 2) : scrimlaw3_FieldAll.l0 k (a : Int) (b : Int) a3 t4 t6 (i : Int) = some true := by
  induction d generalizing k i with
  | zero =>
    obtain ⟨k, rfl⟩ : ∃ j, k = j + 1 := ⟨k - 1, by omega⟩
    have : i = 2 := by omega
    subst this
    simp [scrimlaw3_FieldAll.l0]
  | succ d ih =>
    obtain ⟨k, rfl⟩ : ∃ j, k = j + 1 := ⟨k - 1, by omega⟩
    obtain ⟨m, hm, em⟩ : ∃ m : Nat, Rst m ∧ rd ([t4, I64 (256 + t6)] : List Int) (i : Int) = m := by
      rcases (by omega : i = 0 ∨ i = 1) with h | h <;> subst h
      · exact h4
      · exact h6
    have w := within_eq (k := k) a3 1000001 (by decide) (by decide)
    rw [hw] at w
    have f1 := fm_eq (k := k) hm (by omega) ha hb
    have f2 := fp_eq (k := k) (n := n) hm (by omega) ha (by omega)
    have f3 := fi_eq (k := k) hm (by omega) ha
    have r1 := rm_eq (k := k) hm (by omega) ha hb
    have r2 := rp_eq (k := k) (n := n) hm (by omega) ha (by omega)
    have r3 := ri_eq (k := k) hm (by omega) ha
    have e9 : I64 ((i : Int) + 1) = ((i + 1 : Nat) : Int) := by rw [I64_id (by omega) (by omega)]; simp
    have c1 : decide ((i : Int) < 2) = true := by simp; omega
    have c2 : decide (0 ≤ (i : Int)) = true := by simp
    simp only [scrimlaw3_FieldAll.l0, w, em, f1, f2, f3, r1, r2, r3, e9, c1, c2, Option.bind_some, if_true, bne_self_eq_false, Bool.false_eq_true, if_false]
    exact ih (by omega) (by omega)
theorem FieldAll (a0 : Int) (a1 : Int) (a2 : Int) (a3 : Int) (h0 : In .u8 a0) (h1 : In .u8 a1) (h2 : In .i64 a2) (h3 : In .i64 a3) : ∃ k, scrimlaw3_FieldAll.f k a0 a1 a2 a3 = some true := by
  obtain ⟨a, ha, rfl⟩ := u8_of h0
  obtain ⟨b, hb, rfl⟩ := u8_of h1
  obtain ⟨m, hf, hz⟩ := fmod_eq a2
  obtain ⟨m', hm', hz'⟩ := rest_eq a2
  obtain ⟨k, hk⟩ : ∃ k : Nat, 400 ≤ k := ⟨400, Nat.le_refl _⟩
  have hw := within_eq (k := k) a2 256 (by decide) (by decide)
  refine ⟨k, ?_⟩
  unfold scrimlaw3_FieldAll.f
  simp only [known_eq (k := k) (by omega), hw, Option.bind_some, Bool.not_true, Bool.false_eq_true, if_false, hz]
  exact fall_l0 (n := (a3 % 1000001).toNat) ha hb (by omega) (by omega) _ _ ⟨m, hf.rst, rfl⟩ ⟨m', hm', hz'⟩ 2 (i := 0) (by omega) (by omega)
end Go.Scr.S
