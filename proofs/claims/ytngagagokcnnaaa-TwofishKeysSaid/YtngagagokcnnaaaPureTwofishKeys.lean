/- The plain law of TwofishKeys. -/
import Derived.Test.YtngagagokcnnaaaFnTwofishKeys
import Derived.Test.YtngagagokcnnaaaLibNum
import Derived.Test.YtngagagokcnnaaaLibGf
import Derived.Test.YtngagagokcnnaaaLibFieldMu0
import Derived.Test.YtngagagokcnnaaaLibFieldRMu0
import Derived.Test.YtngagagokcnnaaaLibIl
import Derived.Test.YtngagagokcnnaaaLibGLoad
import Derived.Test.YtngagagokcnnaaaLibFill
import Derived.Test.YtngagagokcnnaaaLibGIl
import Derived.Test.YtngagagokcnnaaaLibGStore
import Derived.Test.YtngagagokcnnaaaLibGXor
import Derived.Test.YtngagagokcnnaaaLibTwQ
import Derived.Test.YtngagagokcnnaaaLibTwH
import Derived.Test.YtngagagokcnnaaaLibTwM
import Derived.Test.YtngagagokcnnaaaLibTwR
import Derived.Test.YtngagagokcnnaaaLibTwF
import Derived.Test.YtngagagokcnnaaaLibGRest
import Derived.Test.YtngagagokcnnaaaLibGRol
import Derived.Test.YtngagagokcnnaaaLibSmNum
import Derived.Test.YtngagagokcnnaaaLibTwRH
import Derived.Test.YtngagagokcnnaaaLibGRRol
import Derived.Test.YtngagagokcnnaaaLibTwKP
import Derived.Test.YtngagagokcnnaaaLibTwKR
import Derived.Test.YtngagagokcnnaaaLibTwW
import Derived.Test.YtngagagokcnnaaaLibTwofishBytes
import Derived.Test.YtngagagokcnnaaaLibTwKey
import Derived.Test.YtngagagokcnnaaaLibTwAl
import Derived.Test.YtngagagokcnnaaaLibTwK
set_option linter.unusedVariables false
set_option linter.unusedSimpArgs false
set_option linter.unnecessarySimpa false
namespace Go.Scr.S
theorem both_eq {l : List Int} (h : ∀ x ∈ l, In .u8 x) {k : Nat} (hk : 300 ≤ k) : ∃ (a s : List Int) (e : Int), twofish_Keys.f k l = some (a, s, e) ∧ scrimref9_Keys.f k l = some (a, s, e) ∧ a.length < 100 ∧ s.length < 100 := by
  obtain ⟨m, rfl, hm⟩ := il_of h
  have H : ∀ n, (n = 2 ∨ n = 3 ∨ n = 4) → m.length = 8 * n → ∃ (a s : List Int) (e : Int), twofish_Keys.f k (il m) = some (a, s, e) ∧ scrimref9_Keys.f k (il m) = some (a, s, e) ∧ a.length < 100 ∧ s.length < 100 := by
    intro n hn hl
    obtain ⟨l1, l2, l3⟩ := esd_len n m hl
    refine ⟨_, _, _, keys_eq hl hn hm hk, rkeys_eq hl hn hm hk, ?_, ?_⟩
    · rw [il_length, ks_length]; decide
    · rw [il_length, List.length_reverse]; omega
  by_cases h2 : m.length = 16
  · exact H 2 (by omega) (by omega)
  by_cases h3 : m.length = 24
  · exact H 3 (by omega) (by omega)
  by_cases h4 : m.length = 32
  · exact H 4 (by omega) (by omega)
  have z : (il m).length = m.length := il_length m
  exact ⟨[], [], 4, keys_no (by omega) (by omega) (by omega), rkeys_no (by omega) (by omega) (by omega), by decide, by decide⟩
theorem in8_il {m : List Nat} (h : ∀ x ∈ m, x < 256) : ∀ x ∈ il m, In .u8 x := by
  intro x hx
  obtain ⟨y, hy, rfl⟩ := List.mem_map.1 hx
  have := h y hy
  exact ⟨by omega, by show (y : Int) < 256; omega⟩
theorem TwofishKeys (a0 : List Int) (a1 : Int) (a2 : List Int) (h0 : a0.length ≤ maxLen) (h1 : ∀ x ∈ a0, In .u8 x) (h2 : In .i64 a1) (h3 : a2.length ≤ maxLen) (h4 : ∀ x ∈ a2, In .u8 x) : ∃ k, scrimlaw9_TwofishKeys.f k a0 a1 a2 = some true := by
  obtain ⟨k, hk⟩ : ∃ k : Nat, 900 ≤ k := ⟨900, Nat.le_refl _⟩
  refine ⟨k, ?_⟩
  unfold scrimlaw9_TwofishKeys.f
  rw [known9_eq (by omega), Option.bind_some, if_neg (by decide)]
  by_cases c : (a2.length : Int) > 60
  · rw [if_pos (by rw [decide_eq_true_eq]; exact c)]
  obtain ⟨l, rfl, hl⟩ := il_of h1
  obtain ⟨m, n, em, hn, hml, hmb⟩ := key9_eq a1 hl (k := k) (by omega)
  obtain ⟨a, s, e, p1, p2, p3, p4⟩ := both_eq (l := il m) (k := k) (in8_il hmb) (by omega)
  obtain ⟨b, t, f, q1, q2, q3, q4⟩ := both_eq h4 (k := k) (by omega)
  have z1 := alike_eq (l := a) (k := k) (by omega) (by omega)
  have z2 := alike_eq (l := s) (k := k) (by omega) (by omega)
  have z3 := alike_eq (l := b) (k := k) (by omega) (by omega)
  have z4 := alike_eq (l := t) (k := k) (by omega) (by omega)
  rw [if_neg (by rw [decide_eq_true_eq]; exact c), em, Option.bind_some, p1, Option.bind_some, Option.bind_some, p2, Option.bind_some, q1, Option.bind_some, q2, Option.bind_some, if_pos (beq_self_eq_true _), z1, Option.bind_some, if_pos rfl, z2, Option.bind_some, if_pos rfl, if_pos (beq_self_eq_true _), z3, Option.bind_some, if_pos rfl, z4, Option.bind_some]
end Go.Scr.S
