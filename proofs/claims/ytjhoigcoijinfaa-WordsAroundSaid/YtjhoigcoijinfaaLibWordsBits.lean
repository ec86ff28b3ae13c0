/- The plain law of WordsBits. -/
import Derived.Test.YtjhoigcoijinfaaFnWordsAround
import Derived.Test.YtjhoigcoijinfaaLibNum
import Derived.Test.YtjhoigcoijinfaaLibWordsBase
import Derived.Test.YtjhoigcoijinfaaLibWordsLoad
import Derived.Test.YtjhoigcoijinfaaLibFill
import Derived.Test.YtjhoigcoijinfaaLibWordsIl
import Derived.Test.YtjhoigcoijinfaaLibWordsTurn
set_option linter.unusedVariables false
set_option linter.unusedSimpArgs false
set_option linter.unnecessarySimpa false
namespace Go.Scr.S
/-- A bit of a row of bytes, the first byte's greatest bit first. -/
def bitOf (l : List Nat) (p : Nat) : Bool := (l.getD (p / 8) 0).testBit (7 - p % 8)
theorem bits_ext {l m : List Nat} (hl : ∀ x ∈ l, x < 256) (hm : ∀ x ∈ m, x < 256) (h : l.length = m.length) (hb : ∀ p, p < 8 * l.length → bitOf l p = bitOf m p) : l = m := by
  refine List.ext_getElem? fun j => ?_
  by_cases hj : j < l.length
  case neg => rw [List.getElem?_eq_none (by omega), List.getElem?_eq_none (by omega)]
  rw [List.getElem?_eq_getElem hj, List.getElem?_eq_getElem (by omega : j < m.length)]
  congr 1
  refine Nat.eq_of_testBit_eq fun i => ?_
  by_cases hi : i < 8
  · have := hb (8 * j + (7 - i)) (by omega)
    unfold bitOf at this
    have e1 : (8 * j + (7 - i)) / 8 = j := by omega
    have e2 : 7 - (8 * j + (7 - i)) % 8 = i := by omega
    rw [e1, e2, List.getD_eq_getElem?_getD, List.getD_eq_getElem?_getD, List.getElem?_eq_getElem hj, List.getElem?_eq_getElem (by omega : j < m.length)] at this
    exact this
  · have a1 := hl l[j] (List.getElem_mem _)
    have a2 := hm m[j] (List.getElem_mem _)
    have e0 : ∀ y : Nat, y < 256 → y.testBit i = false := fun y hy => Nat.testBit_lt_two_pow (Nat.lt_of_lt_of_le (by omega : y < 2 ^ 8) (Nat.pow_le_pow_right (by decide) (by omega)))
    rw [e0 _ a1, e0 _ a2]
theorem turn_bit {l : List Nat} (hl : ∀ x ∈ l, x < 256) (v : Int) {p : Nat} (hp : p < 8 * l.length) :
    bitOf (turnN l v) p = bitOf l ((p + (v % ((8 * l.length : Nat) : Int)).toNat) % (8 * l.length)) := by
  generalize hs : (v % ((8 * l.length : Nat) : Int)).toNat = s
  have hL : 0 < l.length := by omega
  have e0 : (turnN l v).getD (p / 8) 0 = tb l s (p / 8) := by
    unfold turnN
    rw [List.getD_eq_getElem?_getD, List.getElem?_map, List.getElem?_range (by omega), hs]; rfl
  have e1 : (p + s) % (8 * l.length) / 8 = (p + s) / 8 % l.length := Nat.mod_mul_right_div_self _ _ _
  have e2 : (p + s) % (8 * l.length) % 8 = (p + s) % 8 := Nat.mod_mul_right_mod _ _ _
  unfold bitOf
  rw [e0, e1, e2]
  unfold tb
  rw [Nat.testBit_or, show (256 : Nat) = 2 ^ 8 from rfl, Nat.testBit_mod_two_pow, Nat.testBit_shiftLeft, Nat.testBit_shiftRight]
  have hX := getD_lt hl ((p / 8 + s / 8) % l.length)
  have c1 : decide (7 - p % 8 < 8) = true := by rw [decide_eq_true_eq]; omega
  rw [c1, Bool.true_and]
  by_cases h : p % 8 + s % 8 ≤ 7
  · have q1 : (p + s) / 8 = p / 8 + s / 8 := by omega
    have q2 : 7 - p % 8 - s % 8 = 7 - (p + s) % 8 := by omega
    have c2 : decide (7 - p % 8 ≥ s % 8) = true := by rw [decide_eq_true_eq]; omega
    have c3 : ∀ y : Nat, y < 256 → y.testBit (8 - s % 8 + (7 - p % 8)) = false := fun y hy => Nat.testBit_lt_two_pow (Nat.lt_of_lt_of_le (by omega : y < 2 ^ 8) (Nat.pow_le_pow_right (by decide) (by omega)))
    rw [q1, q2, c2, c3 _ (getD_lt hl _), Bool.true_and, Bool.or_false]
  · have q1 : (p + s) / 8 = p / 8 + s / 8 + 1 := by omega
    have q2 : 8 - s % 8 + (7 - p % 8) = 7 - (p + s) % 8 := by omega
    have c2 : decide (7 - p % 8 ≥ s % 8) = false := by rw [decide_eq_false_iff_not]; omega
    rw [q1, q2, c2, Bool.false_and, Bool.false_or]
theorem turn_turn {l : List Nat} (hl : ∀ x ∈ l, x < 256) (v u : Int) : turnN (turnN l v) u = turnN l (v + u) := by
  refine bits_ext (turnN_lt (turnN_lt hl v) u) (turnN_lt hl _) (by simp only [turnN_length]) fun p hp => ?_
  rw [turnN_length, turnN_length] at hp
  have hL : 0 < l.length := by omega
  rw [turn_bit (turnN_lt hl v) u (by rw [turnN_length]; exact hp), turnN_length, turn_bit hl v (Nat.mod_lt _ (by omega)), turn_bit hl (v + u) hp]
  congr 1
  have a1 := Int.emod_nonneg v (show ((8 * l.length : Nat) : Int) ≠ 0 by omega)
  have a2 := Int.emod_nonneg u (show ((8 * l.length : Nat) : Int) ≠ 0 by omega)
  have a3 := Int.emod_nonneg (v + u) (show ((8 * l.length : Nat) : Int) ≠ 0 by omega)
  have e : (((v + u) % ((8 * l.length : Nat) : Int)).toNat) = ((v % ((8 * l.length : Nat) : Int)).toNat + (u % ((8 * l.length : Nat) : Int)).toNat) % (8 * l.length) := by
    have hA : v % ((8 * l.length : Nat) : Int) = ((v % ((8 * l.length : Nat) : Int)).toNat : Int) := (Int.toNat_of_nonneg a1).symm
    have hB : u % ((8 * l.length : Nat) : Int) = ((u % ((8 * l.length : Nat) : Int)).toNat : Int) := (Int.toNat_of_nonneg a2).symm
    generalize (v % ((8 * l.length : Nat) : Int)).toNat = A at *
    generalize (u % ((8 * l.length : Nat) : Int)).toNat = B at *
    rw [Int.add_emod, hA, hB, ← Int.natCast_add, ← Int.natCast_emod, Int.toNat_natCast]
  rw [e, Nat.add_mod_mod, Nat.mod_add_mod]
  congr 1; omega
theorem turn_zero {l : List Nat} (hl : ∀ x ∈ l, x < 256) (v : Int) (h : v % ((8 * l.length : Nat) : Int) = 0) : turnN l v = l := by
  refine bits_ext (turnN_lt hl v) hl (turnN_length l v) fun p hp => ?_
  rw [turnN_length] at hp
  rw [turn_bit hl v hp, h]
  congr 1
  rw [Int.toNat_zero, Nat.add_zero, Nat.mod_eq_of_lt hp]
end Go.Scr.S
