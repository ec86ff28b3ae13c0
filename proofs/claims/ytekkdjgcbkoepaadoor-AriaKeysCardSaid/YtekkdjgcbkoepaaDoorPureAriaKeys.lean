/- The plain law of AriaKeys. -/
import Derived.Test.YtekkdjgcbkoepaaDoorFnAriaKeys
import Derived.Test.YtekkdjgcbkoepaaDoorLibNum
import Derived.Test.YtekkdjgcbkoepaaDoorLibGf
import Derived.Test.YtekkdjgcbkoepaaDoorLibFieldPw0
import Derived.Test.YtekkdjgcbkoepaaDoorLibFieldRefMul
import Derived.Test.YtekkdjgcbkoepaaDoorLibFieldRefPw
import Derived.Test.YtekkdjgcbkoepaaDoorLibFill
import Derived.Test.YtekkdjgcbkoepaaDoorLibIl
import Derived.Test.YtekkdjgcbkoepaaDoorLibGIl
import Derived.Test.YtekkdjgcbkoepaaDoorLibGXor
import Derived.Test.YtekkdjgcbkoepaaDoorLibGRest
import Derived.Test.YtekkdjgcbkoepaaDoorLibGTurn
import Derived.Test.YtekkdjgcbkoepaaDoorLibGRTurn
import Derived.Test.YtekkdjgcbkoepaaDoorLibBoxAff
import Derived.Test.YtekkdjgcbkoepaaDoorLibBoxMk
import Derived.Test.YtekkdjgcbkoepaaDoorLibBoxRefAff
import Derived.Test.YtekkdjgcbkoepaaDoorLibBoxRMake
import Derived.Test.YtekkdjgcbkoepaaDoorLibBoxIsL
import Derived.Test.YtekkdjgcbkoepaaDoorLibPigeon
import Derived.Test.YtekkdjgcbkoepaaDoorLibBoxBackL
import Derived.Test.YtekkdjgcbkoepaaDoorLibArLit
import Derived.Test.YtekkdjgcbkoepaaDoorLibArMade
import Derived.Test.YtekkdjgcbkoepaaDoorLibArKeys0
import Derived.Test.YtekkdjgcbkoepaaDoorLibArBlk0
import Derived.Test.YtekkdjgcbkoepaaDoorLibArK
import Derived.Test.YtekkdjgcbkoepaaDoorLibArMix
import Derived.Test.YtekkdjgcbkoepaaDoorLibArLay
import Derived.Test.YtekkdjgcbkoepaaDoorLibArRLay
import Derived.Test.YtekkdjgcbkoepaaDoorLibArRMix
import Derived.Test.YtekkdjgcbkoepaaDoorLibArRef
import Derived.Test.YtekkdjgcbkoepaaDoorLibArBoth
import Derived.Test.YtekkdjgcbkoepaaDoorLibArKS
import Derived.Test.YtekkdjgcbkoepaaDoorLibArKeys
import Derived.Test.YtekkdjgcbkoepaaDoorLibAriaBytes
import Derived.Test.YtekkdjgcbkoepaaDoorLibArW
import Derived.Test.YtekkdjgcbkoepaaDoorLibArKey
set_option linter.unusedVariables false
set_option linter.unusedSimpArgs false
set_option linter.unnecessarySimpa false
namespace Go.Scr.S
theorem keys_l0 (T : List (List Int)) (hT : T.length < 1000000) (d : Nat) {k i : Nat} (hk : d < k) (hi : i + d = T.length) : scrimlaw10_AriaKeys.l0 k (T, 0) (T, 0) (i : Int) = some true := by
  induction d generalizing k i with
  | zero =>
    obtain ⟨k, rfl⟩ : ∃ j, k = j + 1 := ⟨k - 1, by omega⟩
    rw [scrimlaw10_AriaKeys.l0]
    show (if decide ((i : Int) < (T.length : Int)) = true then _ else some true) = some true
    rw [if_neg (by rw [decide_eq_true_eq]; omega)]
  | succ d ih =>
    obtain ⟨k, rfl⟩ : ∃ j, k = j + 1 := ⟨k - 1, by omega⟩
    have a2 : I64 ((i : Int) + 1) = ((i + 1 : Nat) : Int) := I64_nat (n := i + 1) (by omega)
    have c0 : decide (0 ≤ (i : Int)) = true := by rw [decide_eq_true_eq]; omega
    have c1 : decide ((i : Int) < (T.length : Int)) = true := by rw [decide_eq_true_eq]; omega
    rw [scrimlaw10_AriaKeys.l0, if_pos c1, if_pos c0, if_pos c1, if_pos c0, if_pos c1, beq_self_eq_true, Option.bind_some, if_neg (by decide), a2]
    exact ih (by omega) (by omega)
theorem AriaKeys (a0 : List Int) (a1 : Int) (a2 : List Int) (h0 : a0.length ≤ maxLen) (h1 : ∀ x ∈ a0, In .u8 x) (h2 : In .i64 a1) (h3 : a2.length ≤ maxLen) (h4 : ∀ x ∈ a2, In .u8 x) : ∃ k, scrimlaw10_AriaKeys.f k a0 a1 a2 = some true := by
  obtain ⟨l0, rfl, hl0⟩ := il_of h1
  obtain ⟨l2, rfl, hl2⟩ := il_of h4
  obtain ⟨k, hk⟩ : ∃ k : Nat, 900 ≤ k := ⟨900, Nat.le_refl _⟩
  refine ⟨k, ?_⟩
  obtain ⟨e, m, he, hm, hmb, key⟩ := key10 hl0 a1 (k := k) (by omega)
  obtain ⟨w0, w1, w2, w3, _, _, _, _, q1, q2⟩ := two_keys hmb he hm hk
  have any : ∃ r, aria_Keys.f k (il l2) = some r ∧ scrimref10_Keys.f k (il l2) = some r := by
    by_cases h : l2.length = 16 ∨ l2.length = 24 ∨ l2.length = 32
    · obtain ⟨v0, v1, v2, v3, _, _, _, _, p1, p2⟩ := two_keys hl2 (e := (l2.length - 16) / 8) (by omega) (by omega) hk
      exact ⟨_, p1, p2⟩
    · exact ⟨_, (no_keys h).1, (no_keys h).2⟩
  obtain ⟨r, p1, p2⟩ := any
  have lk := ks_length w0 w1 w2 w3 (13 + 2 * e)
  generalize ks w0 w1 w2 w3 (13 + 2 * e) = T at *
  unfold scrimlaw10_AriaKeys.f
  rw [known10_eq (by omega), Option.bind_some, if_neg (by decide)]
  split
  · rfl
  rw [key, Option.bind_some, q1, Option.bind_some, Option.bind_some, q2, Option.bind_some, p1, Option.bind_some, p2, Option.bind_some]
  simp only [bne_self_eq_false, Bool.false_eq_true, if_false, Option.bind_some]
  exact keys_l0 T (by omega) T.length (i := 0) (by omega) (by omega)
end Go.Scr.S
