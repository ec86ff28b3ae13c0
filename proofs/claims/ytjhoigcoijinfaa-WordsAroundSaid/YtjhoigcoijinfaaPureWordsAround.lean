/- The plain law of WordsAround. -/
import Derived.Test.YtjhoigcoijinfaaFnWordsAround
import Derived.Test.YtjhoigcoijinfaaLibNum
import Derived.Test.YtjhoigcoijinfaaLibWordsBase
import Derived.Test.YtjhoigcoijinfaaLibWordsWithin
import Derived.Test.YtjhoigcoijinfaaLibWordsLoad
import Derived.Test.YtjhoigcoijinfaaLibFill
import Derived.Test.YtjhoigcoijinfaaLibWordsIl
import Derived.Test.YtjhoigcoijinfaaLibWordsTurn
import Derived.Test.YtjhoigcoijinfaaLibWordsBits
import Derived.Test.YtjhoigcoijinfaaLibWordsRol
set_option linter.unusedVariables false
set_option linter.unusedSimpArgs false
set_option linter.unnecessarySimpa false
namespace Go.Scr.S
theorem rol_two {a : Nat} (ha : a < 4294967296) (n m : Int) : rolN (rolN a (n % 32).toNat) (m % 32).toNat = rolN a ((n + m) % 32).toNat := by
  have h1 := Int.emod_nonneg n (show (32 : Int) ≠ 0 by decide)
  have h2 := Int.emod_lt_of_pos n (show (0 : Int) < 32 by decide)
  have h3 := Int.emod_nonneg m (show (32 : Int) ≠ 0 by decide)
  have h4 := Int.emod_lt_of_pos m (show (0 : Int) < 32 by decide)
  have h5 : ((n + m) % 32).toNat = ((n % 32).toNat + (m % 32).toNat) % 32 := by omega
  refine Nat.eq_of_testBit_eq fun i => ?_
  rcases Nat.lt_or_ge i 32 with hi | hi
  · rw [rolN_bit (rolN_lt ha) (by omega) hi, rolN_bit ha (by omega) (Nat.mod_lt _ (by decide)), rolN_bit ha (by omega) hi]
    congr 1; omega
  · have e0 : ∀ y : Nat, y < 4294967296 → y.testBit i = false := fun y hy => Nat.testBit_lt_two_pow (Nat.lt_of_lt_of_le (by omega : y < 2 ^ 32) (Nat.pow_le_pow_right (by decide) hi))
    rw [e0 _ (rolN_lt (rolN_lt ha)), e0 _ (rolN_lt ha)]
theorem rol_nought {a : Nat} (ha : a < 4294967296) : rolN a 0 = a := by
  refine Nat.eq_of_testBit_eq fun i => ?_
  rcases Nat.lt_or_ge i 32 with hi | hi
  · rw [rolN_bit ha (by omega) hi]; congr 1; omega
  · have e0 : ∀ y : Nat, y < 4294967296 → y.testBit i = false := fun y hy => Nat.testBit_lt_two_pow (Nat.lt_of_lt_of_le (by omega : y < 2 ^ 32) (Nat.pow_le_pow_right (by decide) hi))
    rw [e0 _ (rolN_lt ha), e0 _ ha]
theorem rol8_two {a : Nat} (ha : a < 256) (n m : Int) : rol8N (rol8N a (n % 8).toNat) (m % 8).toNat = rol8N a ((n + m) % 8).toNat := by
  have h1 := Int.emod_nonneg n (show (8 : Int) ≠ 0 by decide)
  have h2 := Int.emod_lt_of_pos n (show (0 : Int) < 8 by decide)
  have h3 := Int.emod_nonneg m (show (8 : Int) ≠ 0 by decide)
  have h4 := Int.emod_lt_of_pos m (show (0 : Int) < 8 by decide)
  have h5 : ((n + m) % 8).toNat = ((n % 8).toNat + (m % 8).toNat) % 8 := by omega
  refine Nat.eq_of_testBit_eq fun i => ?_
  rcases Nat.lt_or_ge i 8 with hi | hi
  · rw [rol8N_bit (rol8N_lt ha) (by omega) hi, rol8N_bit ha (by omega) (Nat.mod_lt _ (by decide)), rol8N_bit ha (by omega) hi]
    congr 1; omega
  · have e0 : ∀ y : Nat, y < 256 → y.testBit i = false := fun y hy => Nat.testBit_lt_two_pow (Nat.lt_of_lt_of_le (by omega : y < 2 ^ 8) (Nat.pow_le_pow_right (by decide) hi))
    rw [e0 _ (rol8N_lt (rol8N_lt ha)), e0 _ (rol8N_lt ha)]
theorem rol8_nought {a : Nat} (ha : a < 256) : rol8N a 0 = a := by
  refine Nat.eq_of_testBit_eq fun i => ?_
  rcases Nat.lt_or_ge i 8 with hi | hi
  · rw [rol8N_bit ha (by omega) hi]; congr 1; omega
  · have e0 : ∀ y : Nat, y < 256 → y.testBit i = false := fun y hy => Nat.testBit_lt_two_pow (Nat.lt_of_lt_of_le (by omega : y < 2 ^ 8) (Nat.pow_le_pow_right (by decide) hi))
    rw [e0 _ (rol8N_lt ha), e0 _ ha]
theorem WordsAround (a0 : Int) (a1 : Int) (a2 : List Int) (a3 : Int) (a4 : Int) (h0 : In .u32 a0) (h1 : In .u8 a1) (h2 : a2.length ≤ maxLen) (h3 : ∀ x ∈ a2, In .u8 x) (h4 : In .i64 a3) (h5 : In .i64 a4) : ∃ k, scrimlaw1_WordsAround.f k a0 a1 a2 a3 a4 = some true := by
  obtain ⟨a, ha, rfl⟩ := u32_of h0
  obtain ⟨c, hc, rfl⟩ := u8_of h1
  obtain ⟨l, rfl, hl⟩ := il_of h3
  refine ⟨1000, ?_⟩
  unfold scrimlaw1_WordsAround.f
  rw [known1_eq (k := 1000) (by decide), Option.bind_some, if_neg (by decide), il_length]
  by_cases l0 : l.length ≤ 60
  · have w1 := within1_eq (k := 1000) a3 2000 (by decide) (by decide)
    have w2 := within1_eq (k := 1000) a4 2000 (by decide) (by decide)
    have b1 := Int.emod_nonneg a3 (show (2000 : Int) ≠ 0 by decide)
    have b2 := Int.emod_lt_of_pos a3 (show (0 : Int) < 2000 by decide)
    have b3 := Int.emod_nonneg a4 (show (2000 : Int) ≠ 0 by decide)
    have b4 := Int.emod_lt_of_pos a4 (show (0 : Int) < 2000 by decide)
    rw [if_neg (by rw [decide_eq_true_eq]; omega), w1, Option.bind_some, w2, Option.bind_some, I64_id (x := a3 % 2000 - 1000) (by omega) (by omega), I64_id (x := a4 % 2000 - 1000) (by omega) (by omega)]
    obtain ⟨I, eI⟩ : ∃ I, I = a3 % 2000 - 1000 := ⟨_, rfl⟩
    obtain ⟨J, eJ⟩ : ∃ J, J = a4 % 2000 - 1000 := ⟨_, rfl⟩
    rw [← eI, ← eJ, I64_id (x := I + J) (by omega) (by omega), I64_id (x := 0 - I) (by omega) (by omega)]
    have k8 : I64 (8 * (l.length : Int)) = ((8 * l.length : Nat) : Int) := I64_nat (n := 8 * l.length) (by omega)
    have r1 := rol32_eq (k := 1000) ha I
    have r2 := rol32_eq (k := 1000) (rolN_lt ha (s := (I % 32).toNat)) J
    have r3 := rol32_eq (k := 1000) ha (I + J)
    have r4 := rol32_eq (k := 1000) ha 32
    have s1 := rol8_eq (k := 1000) hc I
    have s2 := rol8_eq (k := 1000) (rol8N_lt hc (s := (I % 8).toNat)) J
    have s3 := rol8_eq (k := 1000) hc (I + J)
    have s4 := rol8_eq (k := 1000) hc (-8)
    have t1 := turn_eq (k := 1000) hl (by omega) (by omega) I
    have t2 := turn_eq (k := 1000) (turnN_lt hl I) (by rw [turnN_length]; omega) (by rw [turnN_length]; omega) J
    have t3 := turn_eq (k := 1000) hl (by omega) (by omega) (I + J)
    have t4 := turn_eq (k := 1000) hl (by omega) (by omega) ((8 * l.length : Nat) : Int)
    have t5 := turn_eq (k := 1000) (turnN_lt hl I) (by rw [turnN_length]; omega) (by rw [turnN_length]; omega) (0 - I)
    rw [rol_two ha] at r2
    rw [rol8_two hc] at s2
    rw [turn_turn hl] at t2
    rw [turn_zero hl _ (Int.emod_self)] at t4
    rw [turn_turn hl, show I + (0 - I) = 0 by omega, turn_zero hl 0 (Int.zero_emod _)] at t5
    have r4' : words_Rol32.f 1000 (a : Int) 32 = some (a : Int) := r4.trans (by rw [show ((32 : Int) % 32).toNat = 0 from rfl, rol_nought ha])
    have s4' : words_Rol8.f 1000 (c : Int) (-8) = some (c : Int) := s4.trans (by rw [show ((-8 : Int) % 8).toNat = 0 from rfl, rol8_nought hc])
    rw [r1, Option.bind_some, r2, Option.bind_some, r3, Option.bind_some, if_pos (beq_self_eq_true _), s1, Option.bind_some, s2, Option.bind_some, s3, Option.bind_some, if_pos (beq_self_eq_true _), t1, Option.bind_some, t2, Option.bind_some, t3, Option.bind_some, if_pos (beq_self_eq_true _), r4', Option.bind_some, if_pos (beq_self_eq_true _), s4', Option.bind_some, if_pos (beq_self_eq_true _), k8, t4, Option.bind_some, if_pos (beq_self_eq_true _), Option.bind_some, t5, Option.bind_some, beq_self_eq_true]
  · rw [if_pos (by rw [decide_eq_true_eq]; omega)]
end Go.Scr.S
