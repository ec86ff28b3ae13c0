/- The plain law of AriaMix. -/
import Derived.Test.YtekkdjgcbkoepaaDoorFnAriaMix
import Derived.Test.YtekkdjgcbkoepaaDoorLibNum
import Derived.Test.YtekkdjgcbkoepaaDoorLibGf
import Derived.Test.YtekkdjgcbkoepaaDoorLibFieldPw0
import Derived.Test.YtekkdjgcbkoepaaDoorLibFieldRefMul
import Derived.Test.YtekkdjgcbkoepaaDoorLibFieldRefPw
import Derived.Test.YtekkdjgcbkoepaaDoorLibFill
import Derived.Test.YtekkdjgcbkoepaaDoorLibIl
import Derived.Test.YtekkdjgcbkoepaaDoorLibGIl
import Derived.Test.YtekkdjgcbkoepaaDoorLibBoxAff
import Derived.Test.YtekkdjgcbkoepaaDoorLibBoxMk
import Derived.Test.YtekkdjgcbkoepaaDoorLibBoxRefAff
import Derived.Test.YtekkdjgcbkoepaaDoorLibBoxRMake
import Derived.Test.YtekkdjgcbkoepaaDoorLibBoxIsL
import Derived.Test.YtekkdjgcbkoepaaDoorLibPigeon
import Derived.Test.YtekkdjgcbkoepaaDoorLibBoxBackL
import Derived.Test.YtekkdjgcbkoepaaDoorLibArLit
import Derived.Test.YtekkdjgcbkoepaaDoorLibArMade
import Derived.Test.YtekkdjgcbkoepaaDoorLibArKeys0
import Derived.Test.YtekkdjgcbkoepaaDoorLibArBlk0
import Derived.Test.YtekkdjgcbkoepaaDoorLibArK
import Derived.Test.YtekkdjgcbkoepaaDoorLibArMix
import Derived.Test.YtekkdjgcbkoepaaDoorLibArInv
import Derived.Test.YtekkdjgcbkoepaaDoorLibArLay
import Derived.Test.YtekkdjgcbkoepaaDoorLibArRLay
import Derived.Test.YtekkdjgcbkoepaaDoorLibArRMix
import Derived.Test.YtekkdjgcbkoepaaDoorLibArRef
import Derived.Test.YtekkdjgcbkoepaaDoorLibAriaBytes
set_option linter.unusedVariables false
set_option linter.unusedSimpArgs false
set_option linter.unnecessarySimpa false
namespace Go.Scr.S
def rw10 (i : Nat) : List Nat := rows10.getD i []
def Dd (i : Nat) : List Nat := (List.range 16).flatMap fun l => List.replicate ((((rw10 i).flatMap rw10).count l - (if l = i then 1 else 0)) / 2) l
theorem perm16 : ∀ i, i < 16 → ((rw10 i).flatMap rw10).isPerm (i :: (Dd i ++ Dd i)) = true := by decide +kernel
theorem mixN_at (m : List Nat) (i : Nat) : (mixN m).getD i 0 = xs (fun j => m.getD j 0) (rw10 i) := by
  unfold mixN
  rw [mixF_at, xs_fold, Nat.zero_xor]; rfl
theorem mix_mix {m : List Nat} (h : m.length = 16) : mixN (mixN m) = m := by
  refine List.ext_getElem (by rw [mixN_length, h]) fun i h1 h2 => ?_
  have hi : i < 16 := by rw [h] at h2; exact h2
  have e : (mixN (mixN m)).getD i 0 = m.getD i 0 := by
    rw [mixN_at]
    have : (fun j => (mixN m).getD j 0) = fun j => xs (fun j => m.getD j 0) (rw10 j) := by funext j; exact mixN_at m j
    rw [this, xs_flat]
    exact xs_two _ i (Dd i) (List.isPerm_iff.1 (perm16 i hi))
  rw [List.getD_eq_getElem?_getD, List.getD_eq_getElem?_getD, List.getElem?_eq_getElem h1, List.getElem?_eq_getElem h2] at e
  exact e
theorem tbx_inv : ∀ y, y < 4 → ∀ x, x < 256 → (tbx ((y + 2) % 4)).getD ((tbx y).getD x 0) 0 = x := by decide +kernel
theorem lay_inv {m : List Nat} (h : m.length = 16) (hm : ∀ x ∈ m, x < 256) : layN 2 (layN 0 m) = m := by
  refine List.ext_getElem (by rw [layN_length, h]) fun i h1 h2 => ?_
  have hi : i < 16 := by rw [h] at h2; exact h2
  have e : (layN 2 (layN 0 m)).getD i 0 = m.getD i 0 := by
    rw [layN_at _ _ hi]
    unfold layF
    rw [layN_at _ _ hi]
    unfold layF
    rw [show (i + 2) % 4 = ((i + 0) % 4 + 2) % 4 by omega]
    exact tbx_inv _ (Nat.mod_lt _ (by decide)) _ (getD_lt hm i)
  rw [List.getD_eq_getElem?_getD, List.getD_eq_getElem?_getD, List.getElem?_eq_getElem h1, List.getElem?_eq_getElem h2] at e
  exact e
/-- Both Mixes. -/
theorem two_mix {m : List Nat} (hm : ∀ x ∈ m, x < 256) {k : Nat} (hk : 300 ≤ k) : ∃ r, aria_Mix.f k (il m) = some r ∧ scrimref10_Mix.f k (il m) = some r := by
  by_cases h : m.length = 16
  · refine ⟨_, mix_eq h hm hk, ?_⟩
    unfold scrimref10_Mix.f
    rw [if_neg (by rw [il_length, h]; decide), rmix_eq h hm hk]; rfl
  · have c : (((il m).length : Int) != 16) = true := by rw [il_length, bne_iff_ne]; omega
    refine ⟨([], false), ?_, ?_⟩
    · unfold aria_Mix.f; rw [if_pos c]
    · unfold scrimref10_Mix.f; rw [if_pos c]
theorem s1 : I64 (2 * (I64 ((1 : Int) - 1))) = ((0 : Nat) : Int) := by decide
theorem s2 : I64 (2 * (I64 ((2 : Int) - 1))) = ((2 : Nat) : Int) := by decide
theorem layer1 {m : List Nat} (h : m.length = 16) (hm : ∀ x ∈ m, x < 256) {k : Nat} (hk : 700 ≤ k) : aria_Layer.f k 1 (il m) = some (il (layN 0 m), true) := by
  unfold aria_Layer.f
  rw [if_neg (by rw [il_length, h]; decide), if_neg (by decide), if_neg (by decide), made_eq hk, Option.bind_some, lay_eq h hm s1 (by decide) (by omega), Option.bind_some]
theorem layer2 {m : List Nat} (h : m.length = 16) (hm : ∀ x ∈ m, x < 256) {k : Nat} (hk : 700 ≤ k) : aria_Layer.f k 2 (il m) = some (il (layN 2 m), true) := by
  unfold aria_Layer.f
  rw [if_neg (by rw [il_length, h]; decide), if_neg (by decide), if_neg (by decide), made_eq hk, Option.bind_some, lay_eq h hm s2 (by decide) (by omega), Option.bind_some]
theorem rlayer1 {m : List Nat} (h : m.length = 16) (hm : ∀ x ∈ m, x < 256) {k : Nat} (hk : 700 ≤ k) : scrimref10_Layer.f k 1 (il m) = some (il (layN 0 m), true) := by
  unfold scrimref10_Layer.f
  rw [if_neg (by rw [il_length, h]; decide), if_neg (by decide), rboxes hk, Option.bind_some, Option.bind_some, rlay_eq h hm s1 (by decide) (by omega), Option.bind_some]
theorem rlayer2 {m : List Nat} (h : m.length = 16) (hm : ∀ x ∈ m, x < 256) {k : Nat} (hk : 700 ≤ k) : scrimref10_Layer.f k 2 (il m) = some (il (layN 2 m), true) := by
  unfold scrimref10_Layer.f
  rw [if_neg (by rw [il_length, h]; decide), if_pos (by decide), if_neg (by decide), rboxes hk, Option.bind_some, Option.bind_some, rlay_eq h hm s2 (by decide) (by omega), Option.bind_some]
theorem two_lay {m : List Nat} (h : m.length = 16) (hm : ∀ x ∈ m, x < 256) (n : Int) {k : Nat} (hk : 700 ≤ k) : ∃ r, aria_Layer.f k n (il m) = some r ∧ scrimref10_Layer.f k n (il m) = some r := by
  by_cases h1 : n = 1
  · subst h1; exact ⟨_, layer1 h hm hk, rlayer1 h hm hk⟩
  by_cases h2 : n = 2
  · subst h2; exact ⟨_, layer2 h hm hk, rlayer2 h hm hk⟩
  refine ⟨([], false), ?_, ?_⟩
  · unfold aria_Layer.f
    rw [if_neg (by rw [il_length, h]; decide)]
    by_cases h3 : n < 1
    · rw [if_pos (by rw [decide_eq_true_eq]; exact h3)]
    · rw [if_neg (by rw [decide_eq_true_eq]; exact h3), if_pos (by rw [decide_eq_true_eq]; omega)]
  · unfold scrimref10_Layer.f
    rw [if_neg (by rw [il_length, h]; decide), if_pos (by rw [bne_iff_ne]; exact h1), if_pos (by rw [bne_iff_ne]; exact h2)]
theorem AriaMix (a0 : List Int) (a1 : List Int) (a2 : Int) (h0 : a0.length ≤ maxLen) (h1 : ∀ x ∈ a0, In .u8 x) (h2 : a1.length ≤ maxLen) (h3 : ∀ x ∈ a1, In .u8 x) (h4 : In .i64 a2) : ∃ k, scrimlaw10_AriaMix.f k a0 a1 a2 = some true := by
  obtain ⟨l0, rfl, hl0⟩ := il_of h1
  obtain ⟨l1, rfl, hl1⟩ := il_of h3
  obtain ⟨k, hk⟩ : ∃ k : Nat, 900 ≤ k := ⟨900, Nat.le_refl _⟩
  refine ⟨k, ?_⟩
  obtain ⟨m, b1, hm, hmb⟩ := bytes10_eq (n := 16) (by decide) hl0 (k := k) (by omega)
  simp only [Int.cast_ofNat_Int] at b1
  have m1 := mix_eq hm hmb (k := k) (by omega)
  have m2 : scrimref10_Mix.f k (il m) = some (il (mixN m), true) := by
    unfold scrimref10_Mix.f
    rw [if_neg (by rw [il_length, hm]; decide), rmix_eq hm hmb (by omega)]; rfl
  have m3 := mix_eq (mixN_length m) (mixN_lt hmb) (k := k) (by omega)
  rw [mix_mix hm] at m3
  obtain ⟨r, n1, n2⟩ := two_mix hl1 (k := k) (by omega)
  have l1 := layer1 hm hmb (k := k) (by omega)
  have l2 := rlayer1 hm hmb (k := k) (by omega)
  have l3 := layer2 (layN_length 0 m) (layN_lt 0 m) (k := k) (by omega)
  rw [lay_inv hm hmb] at l3
  obtain ⟨q, p1, p2⟩ := two_lay hm hmb a2 (k := k) (by omega)
  unfold scrimlaw10_AriaMix.f
  rw [known10_eq (by omega), Option.bind_some, if_neg (by decide)]
  split
  · rfl
  rw [b1, Option.bind_some, m1, Option.bind_some, m2, Option.bind_some]
  show (aria_Mix.f k (il (mixN m))).bind _ = _
  rw [m3, Option.bind_some, n1, Option.bind_some, n2, Option.bind_some]
  simp only [beq_self_eq_true, Bool.not_true, Bool.false_eq_true, if_false, Option.bind_some]
  rw [l1, Option.bind_some, l2, Option.bind_some]
  show (aria_Layer.f k 2 (il (layN 0 m))).bind _ = _
  rw [l3, Option.bind_some, p1, Option.bind_some, p2, Option.bind_some]
  simp only [beq_self_eq_true, if_true, Option.bind_some]
end Go.Scr.S
