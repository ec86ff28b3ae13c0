/- The plain law of FieldRMu0. -/
import Derived.Test.YtngagagokcnnaaaFnTwofishH
import Derived.Test.YtngagagokcnnaaaLibNum
import Derived.Test.YtngagagokcnnaaaLibGf
import Derived.Test.YtngagagokcnnaaaLibFieldMu0
set_option linter.unusedVariables false
set_option linter.unusedSimpArgs false
set_option linter.unnecessarySimpa false
namespace Go.Scr.S
theorem rm_l0 {m b : Nat} (hm : Rst m) (hb : b < 256) (d : Nat) {k s x i : Nat} (hk : d < k) (hs : s < 256) (hx : x < 256) (hi : i + d = 8) :
    scrimref3_Mul.l0 k (b : Int) (m : Int) (s : Int) (x : Int) (i : Int) = some ((s ^^^ gm m d x (b >>> i) : Nat) : Int) := by
  induction d generalizing k s x i with
  | zero =>
    obtain ⟨k, rfl⟩ : ∃ j, k = j + 1 := ⟨k - 1, by omega⟩
    have : i = 8 := by omega
    subst this
    simp [scrimref3_Mul.l0, gm, U8_nat]; omega
  | succ d ih =>
    obtain ⟨k, rfl⟩ : ∃ j, k = j + 1 := ⟨k - 1, by omega⟩
    have hm' := hm; obtain ⟨m0, m1⟩ := hm'
    have hxt := xt_lt hm hx
    have e1 : shl .i64 (x : Int) 1 = ((x <<< 1 : Nat) : Int) := shli (by rw [Nat.shiftLeft_eq]; omega)
    have e0 : shrv .u8 (b : Int) (i : Int) = ((b >>> i : Nat) : Int) := by
      show shr (b : Int) (min (i : Int).toNat 8) = _
      rw [shr_nat]; congr 2; rw [Int.toNat_natCast]; omega
    have hbi : b >>> i < 256 := by rw [Nat.shiftRight_eq_div_pow]; exact Nat.lt_of_le_of_lt (Nat.div_le_self _ _) hb
    have e2 : band .u8 ((b >>> i : Nat) : Int) 1 = (((b >>> i) &&& 1 : Nat) : Int) := ba8 hbi (by decide)
    have e4 : ((x <<< 1 : Nat) : Int) ≥ 256 ↔ x.testBit 7 = true := by rw [Nat.testBit_eq_decide_div_mod_eq, Nat.shiftLeft_eq]; simp; omega
    have e5' : ∀ y : Nat, ((((y &&& 1 : Nat) : Int) == 1) = true) ↔ y.testBit 0 = true := by intro y; rw [Nat.testBit_zero, Nat.and_one_is_mod]; simp; omega
    have e5 := e5' (b >>> i)
    have e6 : x.testBit 7 = true → bxor .i64 ((x <<< 1 : Nat) : Int) (m : Int) = ((xt m x : Nat) : Int) := by
      intro h
      have : xt m x = (x <<< 1) ^^^ m := by simp [xt, h]
      rw [bxi (by rw [Nat.shiftLeft_eq]; omega) (by omega), ← this]
    have e7 : x.testBit 7 = false → x <<< 1 = xt m x := by
      intro h
      simp [xt, h]
    have e8 : bxor .i64 (s : Int) (x : Int) = ((s ^^^ x : Nat) : Int) := bxi (by omega) (by omega)
    have hsx : s ^^^ x < 256 := Nat.xor_lt_two_pow (n := 8) hs hx
    have e9 : U64 ((i : Int) + 1) = ((i + 1 : Nat) : Int) := by rw [U64_id (by omega) (by omega)]; simp
    have ea : b >>> (i + 1) = b >>> i >>> 1 := by rw [Nat.shiftRight_add]
    simp only [scrimref3_Mul.l0, e1, e0, e2, e8, e9]
    rw [if_pos (by simp; omega), if_pos (by simp)]
    cases hb' : (b >>> i).testBit 0 <;> cases hc : x.testBit 7
    · rw [if_neg (by rw [e5, hb']; decide), if_neg (by rw [decide_eq_true_eq, e4, hc]; decide), e7 hc, ih (by omega) hs hxt (by omega), ea]; simp [gm, hb']
    · rw [if_neg (by rw [e5, hb']; decide), if_pos (by rw [decide_eq_true_eq, e4, hc]), e6 hc, ih (by omega) hs hxt (by omega), ea]; simp [gm, hb']
    · rw [if_pos (by rw [e5, hb']), if_neg (by rw [decide_eq_true_eq, e4, hc]; decide), e7 hc, ih (by omega) hsx hxt (by omega), ea]; simp only [gm, hb', if_true, Nat.xor_assoc]
    · rw [if_pos (by rw [e5, hb']), if_pos (by rw [decide_eq_true_eq, e4, hc]), e6 hc, ih (by omega) hsx hxt (by omega), ea]; simp only [gm, hb', if_true, Nat.xor_assoc]
theorem rm_eq {m a b k : Nat} (hm : Rst m) (hk : 9 ≤ k) (ha : a < 256) (hb : b < 256) : scrimref3_Mul.f k (a : Int) (b : Int) (m : Int) = some ((mu m a b : Nat) : Int) := by
  unfold scrimref3_Mul.f
  rw [I64_nat (by omega)]
  have := rm_l0 hm hb 8 (k := k) (s := 0) (i := 0) (by omega) (by decide) ha (by decide)
  rw [Nat.zero_xor] at this
  exact this
end Go.Scr.S
