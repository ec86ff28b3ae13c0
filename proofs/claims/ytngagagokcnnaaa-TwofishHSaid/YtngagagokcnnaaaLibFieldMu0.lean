/- The plain law of FieldMu0. -/
import Derived.Test.YtngagagokcnnaaaFnTwofishH
import Derived.Test.YtngagagokcnnaaaLibNum
import Derived.Test.YtngagagokcnnaaaLibGf
set_option linter.unusedVariables false
set_option linter.unusedSimpArgs false
set_option linter.unnecessarySimpa false
namespace Go.Scr.S
theorem fm_l0 {m : Nat} (hm : Rst m) (n : Nat) {k s x y : Nat} (hk : n < k) (hs : s < 256) (hx : x < 256) (hy : y < 2 ^ n) (hn : n ≤ 8) :
    field_Mul.l0 k (m : Int) (s : Int) (x : Int) (y : Int) = some ((s ^^^ gm m n x y : Nat) : Int) := by
  induction n generalizing k s x y with
  | zero =>
    obtain ⟨k, rfl⟩ : ∃ j, k = j + 1 := ⟨k - 1, by omega⟩
    have : y = 0 := by simpa using hy
    subst this
    simp [field_Mul.l0, gm, U8_nat]; omega
  | succ n ih =>
    obtain ⟨k, rfl⟩ : ∃ j, k = j + 1 := ⟨k - 1, by omega⟩
    have hy9 : y < 256 := Nat.lt_of_lt_of_le hy (Nat.pow_le_pow_right (by decide) hn)
    by_cases h0 : y = 0
    · subst h0; simp [field_Mul.l0, gm_none, U8_nat]; omega
    have hm' := hm; obtain ⟨m0, m1⟩ := hm'
    have hxt := xt_lt hm hx
    have e1 : shl .i64 (x : Int) 1 = ((x <<< 1 : Nat) : Int) := shli (by rw [Nat.shiftLeft_eq]; omega)
    have e2 : band .i64 (y : Int) 1 = ((y &&& 1 : Nat) : Int) := bai (by omega) (by decide)
    have e3 : shr (y : Int) 1 = ((y >>> 1 : Nat) : Int) := shr_nat y 1
    have hy2 : y >>> 1 < 2 ^ n := by rw [Nat.shiftRight_eq_div_pow]; rw [Nat.pow_succ] at hy; omega
    have e4 : ((x <<< 1 : Nat) : Int) ≥ 256 ↔ x.testBit 7 = true := by rw [Nat.testBit_eq_decide_div_mod_eq, Nat.shiftLeft_eq]; simp; omega
    have e5 : ((y &&& 1 : Nat) : Int) > 0 ↔ y.testBit 0 = true := by rw [Nat.testBit_zero, Nat.and_one_is_mod]; simp; omega
    have e6 : x.testBit 7 = true → band .i64 (bxor .i64 ((x <<< 1 : Nat) : Int) (m : Int)) 255 = ((xt m x : Nat) : Int) := by
      intro h
      have : xt m x = (x <<< 1) ^^^ m := by simp [xt, h]
      rw [bxi (by rw [Nat.shiftLeft_eq]; omega) (by omega), ← this]
      refine (bai (by omega) (by decide)).trans ?_
      rw [Nat.and_two_pow_sub_one_of_lt_two_pow (n := 8) hxt]
    have e7 : x.testBit 7 = false → band .i64 ((x <<< 1 : Nat) : Int) 255 = ((xt m x : Nat) : Int) := by
      intro h
      have : xt m x = (x <<< 1) := by simp [xt, h]
      rw [← this]
      refine (bai (by omega) (by decide)).trans ?_
      rw [Nat.and_two_pow_sub_one_of_lt_two_pow (n := 8) hxt]
    have e8 : bxor .i64 (s : Int) (x : Int) = ((s ^^^ x : Nat) : Int) := bxi (by omega) (by omega)
    have hsx : s ^^^ x < 256 := Nat.xor_lt_two_pow (n := 8) hs hx
    have hz : ((y : Int) == 0) = false := by simp; omega
    simp only [field_Mul.l0, e1, e2, e3, e8, hz]
    rw [if_neg (by simp)]
    cases hb : y.testBit 0 <;> cases hc : x.testBit 7
    · rw [if_neg (by rw [decide_eq_true_eq, e5, hb]; decide), if_neg (by rw [decide_eq_true_eq, e4, hc]; decide), e7 hc, ih (by omega) hs hxt hy2 (by omega)]; simp [gm, hb]
    · rw [if_neg (by rw [decide_eq_true_eq, e5, hb]; decide), if_pos (by rw [decide_eq_true_eq, e4, hc]), e6 hc]
      show field_Mul.l0 k _ _ _ _ = _
      rw [ih (by omega) hs hxt hy2 (by omega)]; simp [gm, hb]
    · rw [if_pos (by rw [decide_eq_true_eq, e5, hb]), if_neg (by rw [decide_eq_true_eq, e4, hc]; decide), e7 hc, ih (by omega) hsx hxt hy2 (by omega)]; simp only [gm, hb, if_true, Nat.xor_assoc]
    · rw [if_pos (by rw [decide_eq_true_eq, e5, hb]), if_pos (by rw [decide_eq_true_eq, e4, hc]), e6 hc]
      show field_Mul.l0 k _ _ _ _ = _
      rw [ih (by omega) hsx hxt hy2 (by omega)]; simp only [gm, hb, if_true, Nat.xor_assoc]
theorem fm_eq {m a b k : Nat} (hm : Rst m) (hk : 9 ≤ k) (ha : a < 256) (hb : b < 256) : field_Mul.f k (a : Int) (b : Int) (m : Int) = some ((mu m a b : Nat) : Int) := by
  unfold field_Mul.f
  rw [I64_nat (by omega), I64_nat (by omega)]
  have := fm_l0 hm 8 (k := k) (s := 0) (by omega) (by decide) ha hb (by decide)
  rw [Nat.zero_xor] at this
  exact this
end Go.Scr.S
