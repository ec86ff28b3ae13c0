/- The plain law of WordsRol. -/
import Derived.Test.YtjhoigcoijinfaaFnWordsAround
import Derived.Test.YtjhoigcoijinfaaLibNum
import Derived.Test.YtjhoigcoijinfaaLibWordsBase
import Derived.Test.YtjhoigcoijinfaaLibWordsLoad
import Derived.Test.YtjhoigcoijinfaaLibFill
import Derived.Test.YtjhoigcoijinfaaLibWordsIl
import Derived.Test.YtjhoigcoijinfaaLibWordsTurn
set_option linter.unusedVariables false
set_option linter.unusedSimpArgs false
set_option linter.unnecessarySimpa false
namespace Go.Scr.S
/-- A word turned. -/
def rolN (a s : Nat) : Nat := ((a <<< s) % 4294967296) ||| (a >>> (32 - s))
def rol8N (a s : Nat) : Nat := ((a <<< s) % 256) ||| (a >>> (8 - s))
theorem rolN_bit {a s i : Nat} (ha : a < 4294967296) (hs : s < 32) (hi : i < 32) : (rolN a s).testBit i = a.testBit ((i + (32 - s)) % 32) := by
  unfold rolN
  rw [Nat.testBit_or, show (4294967296 : Nat) = 2 ^ 32 from rfl, Nat.testBit_mod_two_pow, Nat.testBit_shiftLeft, Nat.testBit_shiftRight]
  have c1 : decide (i < 32) = true := by rw [decide_eq_true_eq]; omega
  have e0 : ∀ j, 32 ≤ j → a.testBit j = false := fun j hj => Nat.testBit_lt_two_pow (Nat.lt_of_lt_of_le (by omega : a < 2 ^ 32) (Nat.pow_le_pow_right (by decide) hj))
  rw [c1, Bool.true_and]
  by_cases h : i ≥ s
  · have c2 : decide (i ≥ s) = true := by rw [decide_eq_true_eq]; exact h
    rw [c2, e0 (32 - s + i) (by omega), Bool.true_and, Bool.or_false]; congr 1; omega
  · have c2 : decide (i ≥ s) = false := by rw [decide_eq_false_iff_not]; exact h
    rw [c2, Bool.false_and, Bool.false_or]; congr 1; omega
theorem rolN_lt {a s : Nat} (ha : a < 4294967296) : rolN a s < 4294967296 := by
  refine Nat.or_lt_two_pow (n := 32) (by omega) ?_
  rw [Nat.shiftRight_eq_div_pow]; exact Nat.lt_of_le_of_lt (Nat.div_le_self _ _) ha
theorem rol8N_lt {a s : Nat} (ha : a < 256) : rol8N a s < 256 := by
  refine Nat.or_lt_two_pow (n := 8) (by omega) ?_
  rw [Nat.shiftRight_eq_div_pow]; exact Nat.lt_of_le_of_lt (Nat.div_le_self _ _) ha
theorem rol8N_bit {a s i : Nat} (ha : a < 256) (hs : s < 8) (hi : i < 8) : (rol8N a s).testBit i = a.testBit ((i + (8 - s)) % 8) := by
  unfold rol8N
  rw [Nat.testBit_or, show (256 : Nat) = 2 ^ 8 from rfl, Nat.testBit_mod_two_pow, Nat.testBit_shiftLeft, Nat.testBit_shiftRight]
  have c1 : decide (i < 8) = true := by rw [decide_eq_true_eq]; omega
  have e0 : ∀ j, 8 ≤ j → a.testBit j = false := fun j hj => Nat.testBit_lt_two_pow (Nat.lt_of_lt_of_le (by omega : a < 2 ^ 8) (Nat.pow_le_pow_right (by decide) hj))
  rw [c1, Bool.true_and]
  by_cases h : i ≥ s
  · have c2 : decide (i ≥ s) = true := by rw [decide_eq_true_eq]; exact h
    rw [c2, e0 (8 - s + i) (by omega), Bool.true_and, Bool.or_false]; congr 1; omega
  · have c2 : decide (i ≥ s) = false := by rw [decide_eq_false_iff_not]; exact h
    rw [c2, Bool.false_and, Bool.false_or]; congr 1; omega
theorem rol8_eq {a k : Nat} (ha : a < 256) (n : Int) : words_Rol8.f k (a : Int) n = some ((rol8N a (n % 8).toNat : Nat) : Int) := by
  unfold words_Rol8.f
  have e2 := wrest_eq (k := k) n (b := 8) (by decide) (by decide)
  simp only [Int.cast_ofNat_Int] at e2
  have h3 := Int.emod_lt_of_pos n (show (0 : Int) < 8 by decide)
  obtain ⟨s, es⟩ : ∃ s, s = (n % 8).toNat := ⟨_, rfl⟩
  have hs : s < 8 := by omega
  rw [e2, ← es]
  clear e2 es h3
  simp only [Option.bind_some]
  have u1 : U64 (s : Int) = (s : Int) := U64_id (by omega) (by omega)
  have u2 : U64 (8 - (s : Int)) = ((8 - s : Nat) : Int) := by rw [U64_id (by omega) (by omega)]; omega
  have e1 : shlv .u8 (a : Int) (s : Int) = (((a <<< s) % 256 : Nat) : Int) := by
    show shl .u8 _ (min ((s : Int)).toNat 8) = _
    rw [shl8, Int.toNat_natCast, Nat.min_eq_left (by omega)]
  have e4 : shrv .u8 (a : Int) ((8 - s : Nat) : Int) = ((a >>> (8 - s) : Nat) : Int) := by
    show shr _ (min (((8 - s : Nat) : Int)).toNat 8) = _
    rw [shr_nat]; congr 2; rw [Int.toNat_natCast]; omega
  have hY : a >>> (8 - s) < 256 := by rw [Nat.shiftRight_eq_div_pow]; exact Nat.lt_of_le_of_lt (Nat.div_le_self _ _) ha
  have e3 := bo8 (a := (a <<< s) % 256) (by omega) hY
  rw [u1, u2, if_pos (by rw [decide_eq_true_eq]; omega), if_pos (by rw [decide_eq_true_eq]; omega), e1, e4, e3]; rfl
theorem rol32_eq {a k : Nat} (ha : a < 4294967296) (n : Int) : words_Rol32.f k (a : Int) n = some ((rolN a (n % 32).toNat : Nat) : Int) := by
  unfold words_Rol32.f
  have e2 := wrest_eq (k := k) n (b := 32) (by decide) (by decide)
  simp only [Int.cast_ofNat_Int] at e2
  have h3 := Int.emod_lt_of_pos n (show (0 : Int) < 32 by decide)
  obtain ⟨s, es⟩ : ∃ s, s = (n % 32).toNat := ⟨_, rfl⟩
  have hs : s < 32 := by omega
  rw [e2, ← es]
  clear e2 es h3
  simp only [Option.bind_some]
  have u1 : U64 (s : Int) = (s : Int) := U64_id (by omega) (by omega)
  have u2 : U64 (32 - (s : Int)) = ((32 - s : Nat) : Int) := by rw [U64_id (by omega) (by omega)]; omega
  have e1 : shlv .u32 (a : Int) (s : Int) = (((a <<< s) % 4294967296 : Nat) : Int) := by
    show shl .u32 _ (min ((s : Int)).toNat 32) = _
    rw [shl32, Int.toNat_natCast, Nat.min_eq_left (by omega)]
  have e4 : shrv .u32 (a : Int) ((32 - s : Nat) : Int) = ((a >>> (32 - s) : Nat) : Int) := by
    show shr _ (min (((32 - s : Nat) : Int)).toNat 32) = _
    rw [shr_nat]; congr 2; rw [Int.toNat_natCast]; omega
  have hY : a >>> (32 - s) < 4294967296 := by rw [Nat.shiftRight_eq_div_pow]; exact Nat.lt_of_le_of_lt (Nat.div_le_self _ _) ha
  have e3 := bo32 (a := (a <<< s) % 4294967296) (by omega) hY
  rw [u1, u2, if_pos (by rw [decide_eq_true_eq]; omega), if_pos (by rw [decide_eq_true_eq]; omega), e1, e4, e3]; rfl
end Go.Scr.S
