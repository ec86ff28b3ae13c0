/- The plain law of TwF2. -/
import Derived.Test.YtngagagokcnnaaaFnTwofishWords
import Derived.Test.YtngagagokcnnaaaLibNum
import Derived.Test.YtngagagokcnnaaaLibGf
import Derived.Test.YtngagagokcnnaaaLibFieldMu0
import Derived.Test.YtngagagokcnnaaaLibIl
import Derived.Test.YtngagagokcnnaaaLibGLoad
import Derived.Test.YtngagagokcnnaaaLibFill
import Derived.Test.YtngagagokcnnaaaLibGIl
import Derived.Test.YtngagagokcnnaaaLibGStore
import Derived.Test.YtngagagokcnnaaaLibGXor
import Derived.Test.YtngagagokcnnaaaLibTwQ
import Derived.Test.YtngagagokcnnaaaLibTwH
import Derived.Test.YtngagagokcnnaaaLibTwM
import Derived.Test.YtngagagokcnnaaaLibTwF
import Derived.Test.YtngagagokcnnaaaLibGRest
import Derived.Test.YtngagagokcnnaaaLibGRol
import Derived.Test.YtngagagokcnnaaaLibSmNum
import Derived.Test.YtngagagokcnnaaaLibTwKP
set_option linter.unusedVariables false
set_option linter.unusedSimpArgs false
set_option linter.unnecessarySimpa false
namespace Go.Scr.S
/-- Of a byte that is not 0 the product in the first row is not 0. -/
theorem cr_inj : ∀ j : Nat, j < 8 → ∀ x : Nat, x < 256 → x ≠ 0 → mu 333 (cr 0 j) x ≠ 0 := by decide +kernel
theorem sm_set (r : Nat) {m : List Nat} {j : Nat} (hj : j < m.length) (b : Nat) : ∀ d i v, sm r (m.set j (m.getD j 0 ^^^ b)) i d v = sm r m i d v ^^^ (if i ≤ j ∧ j < i + d then mu 333 (cr r j) b else 0)
  | 0, i, v => by
    rw [if_neg (by omega)]; simp [sm]
  | d + 1, i, v => by
    have ih := sm_set r hj b d (i + 1)
    rw [sm, sm, ih, sm_at r m d (i + 1) (v ^^^ cm r i (m.set j (m.getD j 0 ^^^ b))), sm_at r m d (i + 1) (v ^^^ cm r i m)]
    by_cases e : i = j
    · subst e
      have : cm r i (m.set i (m.getD i 0 ^^^ b)) = cm r i m ^^^ mu 333 (cr r i) b := by
        unfold cm; rw [getD_set_self hj, mu_right]
      rw [this, if_neg (by omega), if_pos (by omega), Nat.xor_zero]
      simp only [Nat.xor_assoc]; rw [Nat.xor_comm (mu 333 (cr r i) b)]
    · have : cm r i (m.set j (m.getD j 0 ^^^ b)) = cm r i m := by
        unfold cm
        rw [List.getD_eq_getElem?_getD, List.getElem?_set_ne (by omega), ← List.getD_eq_getElem?_getD]
      rw [this]
      by_cases c : i + 1 ≤ j ∧ j < i + 1 + d
      · rw [if_pos c, if_pos (by omega)]
      · rw [if_neg c, if_neg (by omega)]
theorem fd_set {m : List Nat} (hm : B8 m) {j : Nat} (hj : j < 8) {b : Nat} (hb : b < 256) : fd (m.set j (m.getD j 0 ^^^ b)) = fd m ↔ b = 0 := by
  constructor
  · intro h
    by_cases hb0 : b = 0
    · exact hb0
    exfalso
    have low : ∀ x : List Nat, fd x % 256 = sm 0 x 0 8 0 := fun x => by
      have h0 := smr_lt (r := 0) (by omega) x
      show (bigN [sm 3 x 0 8 0, sm 2 x 0 8 0, sm 1 x 0 8 0, sm 0 x 0 8 0]) % 256 = _
      simp only [bigN, List.foldl]; omega
    have e : sm 0 (m.set j (m.getD j 0 ^^^ b)) 0 8 0 = sm 0 m 0 8 0 := by rw [← low, h, low]
    rw [sm_set 0 (by rw [hm.1]; exact hj) b, if_pos (by omega)] at e
    have z : mu 333 (cr 0 j) b = 0 := by
      have : sm 0 m 0 8 0 ^^^ (sm 0 m 0 8 0 ^^^ mu 333 (cr 0 j) b) = 0 := by rw [e, Nat.xor_self]
      rwa [← Nat.xor_assoc, Nat.xor_self, Nat.zero_xor] at this
    exact cr_inj j hj b hb hb0 z
  · rintro rfl
    have : m.set j (m.getD j 0 ^^^ 0) = m := by
      have hr' : j < m.length := by rw [hm.1]; exact hj
      rw [Nat.xor_zero, List.getD_eq_getElem?_getD, List.getElem?_eq_getElem hr', Option.getD_some, List.set_getElem_self]
    rw [this]
theorem sd_at : ∀ (n : Nat) (l : List Nat) (q : Nat), l.length = 8 * n → q < n → (sd l).getD q 0 = fd ((l.drop (8 * q)).take 8)
  | 0, _, _, _, h => by omega
  | n + 1, l, q, h, hq => by
    obtain ⟨a, b, c, d, e, f, g, i, r, rfl, hr⟩ := eight h
    cases q with
    | zero => simp only [sd, List.getD_cons_zero, Nat.mul_zero, List.drop_zero, List.take_succ_cons, List.take_zero]
    | succ q =>
      have := sd_at n r q hr (by omega)
      rw [sd, List.getD_cons_succ, this]
      refine congrArg fd ?_
      rw [show 8 * (q + 1) = 8 * q + 8 by omega]; rfl
theorem sd_set {n : Nat} {m : List Nat} (h : m.length = 8 * n) (hm : ∀ x ∈ m, x < 256) {j : Nat} (hj : j < m.length) {b : Nat} (hb : b < 256) {q : Nat} (hq : q < n) :
    ((sd (m.set j (m.getD j 0 ^^^ b))).getD q 0 = (sd m).getD q 0) ↔ (b = 0 ∨ q ≠ j / 8) := by
  rw [sd_at n _ q (by rw [List.length_set]; exact h) hq, sd_at n _ q h hq, List.drop_set]
  by_cases c : j < 8 * q
  · rw [if_pos c]; constructor
    · intro _; right; omega
    · intro _; rfl
  · rw [if_neg c, List.take_set]
    by_cases c2 : j < 8 * q + 8
    · have e : m.getD j 0 = ((m.drop (8 * q)).take 8).getD (j - 8 * q) 0 := by
        rw [List.getD_eq_getElem?_getD, List.getD_eq_getElem?_getD, List.getElem?_take, if_pos (by omega), List.getElem?_drop]
        congr 2; omega
      rw [e, fd_set ⟨by rw [List.length_take, List.length_drop]; omega, fun v hv => hm v (List.mem_of_mem_drop (List.mem_of_mem_take hv))⟩ (by omega) hb]
      constructor
      · intro h; left; exact h
      · rintro (h | h)
        · exact h
        · exfalso; apply h; omega
    · rw [List.set_eq_of_length_le (by rw [List.length_take, List.length_drop]; omega)]
      constructor
      · intro _; right; omega
      · intro _; rfl
theorem ks_even (E O : List Nat) : ∀ d i j, j < d → (ks E O i d).getD (2 * j) 0 = wa (ka E (i + j)) (kb O (i + j))
  | 0, _, _, h => by omega
  | d + 1, i, 0, _ => by simp only [ks, Nat.mul_zero, Nat.add_zero, List.getD_cons_zero]
  | d + 1, i, j + 1, h => by
    have := ks_even E O d (i + 1) j (by omega)
    rw [ks, show 2 * (j + 1) = 2 * j + 1 + 1 by omega, List.getD_cons_succ, List.getD_cons_succ, this, show i + 1 + j = i + (j + 1) by omega]
theorem ks_odd (E O : List Nat) : ∀ d i j, j < d → (ks E O i d).getD (2 * j + 1) 0 = kc E O (i + j)
  | 0, _, _, h => by omega
  | d + 1, i, 0, _ => by simp only [ks, Nat.mul_zero, Nat.add_zero, Nat.zero_add, List.getD_cons_succ, List.getD_cons_zero]
  | d + 1, i, j + 1, h => by
    have := ks_odd E O d (i + 1) j (by omega)
    rw [ks, show 2 * (j + 1) + 1 = 2 * j + 1 + 1 + 1 by omega, List.getD_cons_succ, List.getD_cons_succ, this, show i + 1 + j = i + (j + 1) by omega]
end Go.Scr.S
