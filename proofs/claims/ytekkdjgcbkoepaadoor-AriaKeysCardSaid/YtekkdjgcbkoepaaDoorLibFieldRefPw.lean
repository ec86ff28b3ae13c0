/- The plain law of FieldRefPw. -/
import Derived.Test.YtekkdjgcbkoepaaDoorFnAriaKeys
import Derived.Test.YtekkdjgcbkoepaaDoorLibNum
import Derived.Test.YtekkdjgcbkoepaaDoorLibGf
import Derived.Test.YtekkdjgcbkoepaaDoorLibFieldRefMul
set_option linter.unusedVariables false
set_option linter.unusedSimpArgs false
set_option linter.unnecessarySimpa false
namespace Go.Scr.S
theorem rp_l0 {m : Nat} (hm : Rst m) (f : Nat) {k a n s : Nat} (hk : f + 9 < k) (ha : a < 256) (hs : s < 256) (hn : n < 2 ^ f) (hf : f ≤ 62) :
    scrimref3_Pow.l0 k (m : Int) (a : Int) (n : Int) (s : Int) = some ((mu m s (pw m a n) : Nat) : Int) := by
  rw [← pl2_eq hm f ha hs hn]
  induction f generalizing k a n s with
  | zero =>
    obtain ⟨k, rfl⟩ : ∃ j, k = j + 1 := ⟨k - 1, by omega⟩
    have : n = 0 := by simpa using hn
    subst this; simp [scrimref3_Pow.l0, pl2]
  | succ f ih =>
    obtain ⟨k, rfl⟩ : ∃ j, k = j + 1 := ⟨k - 1, by omega⟩
    have hn' : n < 2 ^ 62 := Nat.lt_of_lt_of_le hn (Nat.pow_le_pow_right (by decide) hf)
    simp only [scrimref3_Pow.l0, pl2]
    by_cases h0 : n = 0
    · subst h0; simp
    rw [if_pos (by simp; omega), if_neg h0]
    have e1 : Int.tmod (n : Int) 2 = ((n % 2 : Nat) : Int) := rfl
    have e2 : I64 (Int.tdiv (n : Int) 2) = ((n / 2 : Nat) : Int) := (I64_nat (n := n / 2) (by omega))
    have hn2 : n / 2 < 2 ^ f := by rw [Nat.pow_succ] at hn; omega
    rw [e1, e2, rm_eq hm (by omega) ha ha, rm_eq hm (by omega) hs ha]
    have haa := mu_lt hm ha a
    have hsa := mu_lt hm hs a
    by_cases h1 : n % 2 = 1
    · rw [if_pos (by simp [h1]), if_pos h1]; exact ih (by omega) haa hsa hn2 (by omega)
    · have h1' : n % 2 = 0 := by omega
      rw [if_neg (by simp [h1']), if_neg h1]; exact ih (by omega) haa hs hn2 (by omega)
theorem rp_eq {m a n k : Nat} (hm : Rst m) (hk : 72 ≤ k) (ha : a < 256) (hn : n < 2 ^ 62) : scrimref3_Pow.f k (a : Int) (n : Int) (m : Int) = some ((pw m a n : Nat) : Int) := by
  unfold scrimref3_Pow.f
  have := rp_l0 hm 62 (k := k) (s := 1) (by omega) ha (by decide) hn (by decide)
  rw [one_mu m (pw_lt hm ha n)] at this
  exact this
end Go.Scr.S
