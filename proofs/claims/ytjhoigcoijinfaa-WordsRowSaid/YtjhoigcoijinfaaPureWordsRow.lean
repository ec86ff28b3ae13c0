/- The plain law of WordsRow. -/
import Derived.Test.YtjhoigcoijinfaaFnWordsRow
import Derived.Test.YtjhoigcoijinfaaXLaw
import Derived.Test.YtjhoigcoijinfaaLibNum
import Derived.Test.YtjhoigcoijinfaaLibWordsBase
import Derived.Test.YtjhoigcoijinfaaLibWordsWithin
import Derived.Test.YtjhoigcoijinfaaLibWordsLoad
import Derived.Test.YtjhoigcoijinfaaLibFill
import Derived.Test.YtjhoigcoijinfaaLibWordsIl
import Derived.Test.YtjhoigcoijinfaaLibWordsStore
import Derived.Test.YtjhoigcoijinfaaLibWordsTurn
import Derived.Test.YtjhoigcoijinfaaLibWordsBits
import Derived.Test.YtjhoigcoijinfaaLibWordsRol
set_option linter.unusedVariables false
set_option linter.unusedSimpArgs false
set_option linter.unnecessarySimpa false
namespace Go.Scr.S
theorem dig_bit (v : Nat) {p : Nat} (hp : p < 32) : bitOf (dig v 4) p = v.testBit (31 - p) := by
  unfold bitOf dig
  rw [List.getD_eq_getElem?_getD, List.getElem?_map, List.getElem?_range (by omega)]
  show Nat.testBit ((v >>> (8 * (4 - 1 - p / 8))) % 2 ^ 8) (7 - p % 8) = _
  rw [Nat.testBit_mod_two_pow, Nat.testBit_shiftRight]
  have c1 : decide (7 - p % 8 < 8) = true := by rw [decide_eq_true_eq]; omega
  rw [c1, Bool.true_and]; congr 1; omega
theorem row_word {a : Nat} (ha : a < 4294967296) (n : Int) : turnN (dig a 4) n = dig (rolN a (n % 32).toNat) 4 := by
  refine bits_ext (turnN_lt (dig_lt a 4) n) (dig_lt _ 4) (by rw [turnN_length, dig_length, dig_length]) fun p hp => ?_
  rw [turnN_length, dig_length] at hp
  have h1 := Int.emod_lt_of_pos n (show (0 : Int) < 32 by decide)
  rw [turn_bit (dig_lt a 4) n (by rw [dig_length]; exact hp), dig_length, dig_bit _ (by omega), dig_bit _ (by omega), rolN_bit ha (by omega) (by omega)]
  congr 1
  have h2 : n % ((8 * 4 : Nat) : Int) = n % 32 := rfl
  have hs : (n % 32).toNat < 32 := by omega
  rw [h2]
  generalize (n % 32).toNat = s at *
  omega
theorem row_byte {c : Nat} (hc : c < 256) (n : Int) : turnN [c] n = [rol8N c (n % 8).toNat] := by
  have h0 : ∀ x ∈ [c], x < 256 := by intro x hx; rw [List.mem_singleton.1 hx]; exact hc
  have h1 := Int.emod_lt_of_pos n (show (0 : Int) < 8 by decide)
  refine bits_ext (turnN_lt h0 n) (by intro x hx; rw [List.mem_singleton.1 hx]; exact rol8N_lt hc) (by rw [turnN_length]; rfl) fun p hp => ?_
  rw [turnN_length] at hp
  have hp8 : p < 8 := hp
  have h2 : n % ((8 * [c].length : Nat) : Int) = n % 8 := rfl
  rw [turn_bit h0 n hp, h2]
  have e : ∀ (x q : Nat), q < 8 → bitOf [x] q = x.testBit (7 - q) := by
    intro x q hq; unfold bitOf; rw [show q / 8 = 0 by omega, show q % 8 = q by omega]; rfl
  have e8 : 8 * [c].length = 8 := rfl
  rw [e8, e _ _ (Nat.mod_lt _ (by decide)), e _ _ hp8, rol8N_bit hc (by omega) (by omega)]
  congr 1
  omega
theorem WordsRow (a0 : Int) (a1 : Int) (a2 : Int) (h0 : In .u32 a0) (h1 : In .u8 a1) (h2 : In .i64 a2) : ∃ k, scrimlaw1_WordsRow.f k a0 a1 a2 = some true := by
  obtain ⟨a, ha, rfl⟩ := u32_of h0
  obtain ⟨c, hc, rfl⟩ := u8_of h1
  obtain ⟨k, hk⟩ : ∃ k : Nat, 100 ≤ k := ⟨100, Nat.le_refl _⟩
  refine ⟨k, ?_⟩
  have hw := within1_eq (k := k) a2 500 (by decide) (by decide)
  have h0' : ∀ x ∈ [c], x < 256 := by intro x hx; rw [List.mem_singleton.1 hx]; exact hc
  have p1 := putbe32_eq a ha (k := k) (by omega)
  obtain ⟨n, en⟩ : ∃ n, n = I64 (a2 % 500 - 250) := ⟨_, rfl⟩
  have t1 := turn_eq (k := k) (dig_lt a 4) (by rw [dig_length]; decide) (by rw [dig_length]; omega) n
  have t2 := turn_eq (k := k) (l := [c]) h0' (by simp) (by simp; omega) n
  have t3 := turn_eq (k := k) (l := []) (by simp) (by decide) (by simp; omega) n
  have r1 := rol32_eq (k := k) ha n
  have r2 := rol8_eq (k := k) hc n
  have p2 := putbe32_eq _ (rolN_lt (s := (n % 32).toNat) ha) (k := k) (by omega)
  rw [row_word ha] at t1
  rw [row_byte hc] at t2
  have t2' : words_Turn.f k [(c : Int)] n = some [((rol8N c (n % 8).toNat : Nat) : Int)] := t2
  have t3' : words_Turn.f k [] n = some [] := t3
  unfold scrimlaw1_WordsRow.f
  simp only [known1_eq (k := k) (by omega), Option.bind_some, Bool.not_true, Bool.false_eq_true, if_false, hw, ← en, p1, t1, t2', r1, p2, beq_self_eq_true, if_true, r2, t3']
  generalize ((rol8N c (n % 8).toNat : Nat) : Int) = x
  rw [if_pos (by rfl), if_pos (by rfl), if_pos (by show (x == x) = true; simp)]; rfl
end Go.Scr.S
