/- The plain law of FieldOnce. -/
import Derived.Test.YtlmfmbbkhmnipaaFnFieldOnce
import Derived.Test.YtlmfmbbkhmnipaaXLaw
import Derived.Test.YtlmfmbbkhmnipaaLibNum
import Derived.Test.YtlmfmbbkhmnipaaLibGf
import Derived.Test.YtlmfmbbkhmnipaaLibFieldMul
import Derived.Test.YtlmfmbbkhmnipaaLibFieldMod
set_option linter.unusedVariables false
set_option linter.unusedSimpArgs false
set_option linter.unnecessarySimpa false
namespace Go.Scr.S
theorem once_l0 {m a : Nat} {z : Int} (hf : Fld m) (hz : ∀ k, scrimlaw3_Mod.f k z = some (m : Int)) (ha : a < 256) (h0 : a ≠ 0) (d : Nat) {k x : Nat} {s : List Bool} (hk : d + 300 < k) (hx : x + d = 256) (hl : s.length = 256)
    (hs : ∀ p, s.getD p false = true → ∃ y, y < x ∧ mu m a y = p) : scrimlaw3_FieldOnce.l0 k (a : Int) z s (x : Int) = some true := by
  have hm := hf.rst
  induction d generalizing k x s with
  | zero =>
    obtain ⟨k, rfl⟩ : ∃ j, k = j + 1 := ⟨k - 1, by omega⟩
    have : x = 256 := by omega
    subst this
    simp [scrimlaw3_FieldOnce.l0]
  | succ d ih =>
    obtain ⟨k, rfl⟩ : ∃ j, k = j + 1 := ⟨k - 1, by omega⟩
    have f1 := fm_eq (k := k) hm (by omega) ha (show x < 256 by omega)
    have hp := mu_lt hm ha x
    obtain ⟨p, ep⟩ : ∃ p, p = mu m a x := ⟨_, rfl⟩
    rw [← ep] at f1 hp
    have e1 : U8 (x : Int) = (x : Int) := U8_id (by omega) (by omega)
    have e5 : I64 ((x : Int) + 1) = ((x + 1 : Nat) : Int) := by rw [I64_id (by omega) (by omega)]; simp
    have c1 : decide ((x : Int) < 256) = true := by rw [decide_eq_true_eq]; omega
    have c2 : decide (0 ≤ (p : Int)) = true := by rw [decide_eq_true_eq]; omega
    have c3 : decide ((p : Int) < 256) = true := by rw [decide_eq_true_eq]; omega
    have c4 : rdb s (p : Int) = false := by
      unfold rdb
      rw [Int.toNat_natCast]
      cases hb : s.getD p false
      · rfl
      · obtain ⟨y, hy, e⟩ := hs p hb
        exfalso
        have hi := iv_lt m a
        have e2 : mu m (iv m a) a = 1 := by rw [mu_comm m hi ha]; exact fld_mu hf ha h0
        have e3 : mu m (iv m a) (mu m a y) = y := by rw [← mu_assoc hm hi ha (by omega), e2, one_mu m (by omega)]
        have e4 : mu m (iv m a) (mu m a x) = x := by rw [← mu_assoc hm hi ha (by omega), e2, one_mu m (by omega)]
        rw [e, ep, e4] at e3
        omega
    simp only [scrimlaw3_FieldOnce.l0, c1, if_true, hz, e1, f1, Option.bind_some, c2, c3, c4, Bool.false_eq_true, if_false, e5, Int.toNat_natCast]
    refine ih (by omega) (by omega) (by rw [List.length_set]; exact hl) fun q hq => ?_
    rw [List.getD_eq_getElem?_getD, List.getElem?_set] at hq
    by_cases e : p = q
    · exact ⟨x, by omega, by rw [← e, ep]⟩
    · rw [if_neg e, ← List.getD_eq_getElem?_getD] at hq
      obtain ⟨y, hy, e'⟩ := hs q hq
      exact ⟨y, by omega, e'⟩
theorem FieldOnce (a0 : Int) (a1 : Int) (h0 : In .u8 a0) (h1 : In .i64 a1) : ∃ k, scrimlaw3_FieldOnce.f k a0 a1 = some true := by
  obtain ⟨a, ha, rfl⟩ := u8_of h0
  obtain ⟨m, hf, hz⟩ := fmod_eq a1
  obtain ⟨k, hk⟩ : ∃ k : Nat, 600 ≤ k := ⟨600, Nat.le_refl _⟩
  refine ⟨k, ?_⟩
  unfold scrimlaw3_FieldOnce.f
  simp only [known_eq (k := k) (by omega), Option.bind_some, Bool.not_true, Bool.false_eq_true, if_false]
  by_cases ha0 : a = 0
  · subst ha0
    have f1 := fm_eq (k := k) (a := 0) (b := 77) hf.rst (by omega) (by decide) (by decide)
    rw [zero_mu] at f1
    simp only [Int.cast_ofNat_Int, Int.natCast_zero] at f1
    rw [if_pos (by rfl), hz]
    simp only [Option.bind_some, f1]; rfl
  · rw [if_neg (by rw [beq_iff_eq]; omega)]
    exact once_l0 hf hz ha ha0 256 (x := 0) (by omega) (by omega) (by rw [List.length_replicate]) (fun p hp => by
      rw [List.getD_eq_getElem?_getD, List.getElem?_replicate] at hp
      split at hp <;> cases hp)
end Go.Scr.S
