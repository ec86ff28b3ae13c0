/- The plain law of AriaHow. -/
import Derived.Test.YtekkdjgcbkoepaaDoorFnAriaHow
import Derived.Test.YtekkdjgcbkoepaaDoorLibNum
import Derived.Test.YtekkdjgcbkoepaaDoorLibGf
import Derived.Test.YtekkdjgcbkoepaaDoorLibFieldPw0
import Derived.Test.YtekkdjgcbkoepaaDoorLibFieldRefMul
import Derived.Test.YtekkdjgcbkoepaaDoorLibFieldRefPw
import Derived.Test.YtekkdjgcbkoepaaDoorLibFill
import Derived.Test.YtekkdjgcbkoepaaDoorLibIl
import Derived.Test.YtekkdjgcbkoepaaDoorLibGIl
import Derived.Test.YtekkdjgcbkoepaaDoorLibGXor
import Derived.Test.YtekkdjgcbkoepaaDoorLibGRest
import Derived.Test.YtekkdjgcbkoepaaDoorLibGTurn
import Derived.Test.YtekkdjgcbkoepaaDoorLibGRTurn
import Derived.Test.YtekkdjgcbkoepaaDoorLibBoxAff
import Derived.Test.YtekkdjgcbkoepaaDoorLibBoxMk
import Derived.Test.YtekkdjgcbkoepaaDoorLibBoxRefAff
import Derived.Test.YtekkdjgcbkoepaaDoorLibBoxRMake
import Derived.Test.YtekkdjgcbkoepaaDoorLibBoxIsL
import Derived.Test.YtekkdjgcbkoepaaDoorLibPigeon
import Derived.Test.YtekkdjgcbkoepaaDoorLibBoxBackL
import Derived.Test.YtekkdjgcbkoepaaDoorLibArLit
import Derived.Test.YtekkdjgcbkoepaaDoorLibArMade
import Derived.Test.YtekkdjgcbkoepaaDoorLibArKeys0
import Derived.Test.YtekkdjgcbkoepaaDoorLibArBlk0
import Derived.Test.YtekkdjgcbkoepaaDoorLibArK
import Derived.Test.YtekkdjgcbkoepaaDoorLibArMix
import Derived.Test.YtekkdjgcbkoepaaDoorLibArLay
import Derived.Test.YtekkdjgcbkoepaaDoorLibArRLay
import Derived.Test.YtekkdjgcbkoepaaDoorLibArRMix
import Derived.Test.YtekkdjgcbkoepaaDoorLibArRef
import Derived.Test.YtekkdjgcbkoepaaDoorLibArBoth
import Derived.Test.YtekkdjgcbkoepaaDoorLibArKS
import Derived.Test.YtekkdjgcbkoepaaDoorLibArKeys
import Derived.Test.YtekkdjgcbkoepaaDoorLibAriaBytes
import Derived.Test.YtekkdjgcbkoepaaDoorLibArW
import Derived.Test.YtekkdjgcbkoepaaDoorLibArKey
set_option linter.unusedVariables false
set_option linter.unusedSimpArgs false
set_option linter.unnecessarySimpa false
namespace Go.Scr.S
theorem ks_row {w0 w1 w2 w3 : List Nat} {n i : Nat} (h : i < n) : rdr ([] : List Int) (ks w0 w1 w2 w3 n) (i : Int) = il (kk w0 w1 w2 w3 i) := by
  unfold rdr ks
  rw [Int.toNat_natCast, List.getD_eq_getElem?_getD, List.getElem?_map, List.getElem?_range h]; rfl
theorem how_l0 {w0 w1 w2 w3 : List Nat} (n : Nat) (hn : n < 1000) (d : Nat) {k i : Nat} (hk : d < k) (hi : i + d = n) : scrimlaw10_AriaHow.l0 k (ks w0 w1 w2 w3 n, 0) (ks w0 w1 w2 w3 n, 0) (i : Int) = some true := by
  have ll := ks_length w0 w1 w2 w3 n
  induction d generalizing k i with
  | zero =>
    obtain ⟨k, rfl⟩ : ∃ j, k = j + 1 := ⟨k - 1, by omega⟩
    rw [scrimlaw10_AriaHow.l0]
    show (if decide ((i : Int) < ((ks w0 w1 w2 w3 n).length : Int)) = true then _ else some true) = some true
    rw [if_neg (by rw [decide_eq_true_eq, ll]; omega)]
  | succ d ih =>
    obtain ⟨k, rfl⟩ : ∃ j, k = j + 1 := ⟨k - 1, by omega⟩
    have a2 : I64 ((i : Int) + 1) = ((i + 1 : Nat) : Int) := I64_nat (n := i + 1) (by omega)
    have c0 : decide (0 ≤ (i : Int)) = true := by rw [decide_eq_true_eq]; omega
    have c1 : decide ((i : Int) < ((ks w0 w1 w2 w3 n).length : Int)) = true := by rw [decide_eq_true_eq, ll]; omega
    have row : rdr ([] : List Int) (ks w0 w1 w2 w3 n) (i : Int) = il (kk w0 w1 w2 w3 i) := ks_row (by omega)
    have l16 : ((il (kk w0 w1 w2 w3 i)).length : Int) = 16 := by rw [il_length]; unfold kk; rw [xorN_length]; rfl
    rw [scrimlaw10_AriaHow.l0]
    show (if decide ((i : Int) < ((ks w0 w1 w2 w3 n).length : Int)) = true then if decide (0 ≤ (i : Int)) = true then if decide ((i : Int) < ((ks w0 w1 w2 w3 n).length : Int)) = true then if (((rdr ([] : List Int) (ks w0 w1 w2 w3 n) (i : Int)).length : Int) != 16) = true then some false else if decide (0 ≤ (i : Int)) = true then if decide ((i : Int) < ((ks w0 w1 w2 w3 n).length : Int)) = true then if decide (0 ≤ (i : Int)) = true then if decide ((i : Int) < ((ks w0 w1 w2 w3 n).length : Int)) = true then _ else none else none else none else none else none else none else _) = some true
    rw [if_pos c1, if_pos c0, if_pos c1, row, l16, if_neg (by decide), if_pos c0, if_pos c1, if_pos c0, if_pos c1, Option.bind_some, beq_self_eq_true, Option.bind_some, if_neg (by decide), a2]
    exact ih (by omega) (by omega)
theorem AriaHow (a0 : List Int) (a1 : Int) (h0 : a0.length ≤ maxLen) (h1 : ∀ x ∈ a0, In .u8 x) (h2 : In .i64 a1) : ∃ k, scrimlaw10_AriaHow.f k a0 a1 = some true := by
  obtain ⟨l0, rfl, hl0⟩ := il_of h1
  obtain ⟨k, hk⟩ : ∃ k : Nat, 900 ≤ k := ⟨900, Nat.le_refl _⟩
  refine ⟨k, ?_⟩
  obtain ⟨e, m, he, hm, hmb, key⟩ := key10 hl0 a1 (k := k) (by omega)
  obtain ⟨w0, w1, w2, w3, _, _, _, _, q1, q2⟩ := two_keys hmb he hm hk
  have lk := ks_length w0 w1 w2 w3 (13 + 2 * e)
  have c : (((ks w0 w1 w2 w3 (13 + 2 * e)).length : Int) != I64 (9 + I64 (Int.tdiv ((il m).length : Int) 4))) = false := by
    have t : Int.tdiv ((il m).length : Int) 4 = (((il m).length / 4 : Nat) : Int) := rfl
    rw [t, il_length, hm, show (16 + 8 * e) / 4 = 4 + 2 * e by omega, I64_nat (by omega), lk, I64_id (by omega) (by omega)]
    rw [bne_eq_false_iff_eq]; omega
  have main := how_l0 (w0 := w0) (w1 := w1) (w2 := w2) (w3 := w3) (13 + 2 * e) (by omega) (13 + 2 * e) (k := k) (i := 0) (by omega) (by omega)
  unfold scrimlaw10_AriaHow.f
  rw [known10_eq (by omega), Option.bind_some, if_neg (by decide), key, Option.bind_some, q1, Option.bind_some]
  show (if ((0 : Int) != 0) = true then some false else (some (((ks w0 w1 w2 w3 (13 + 2 * e)).length : Int) != I64 (9 + I64 (Int.tdiv ((il m).length : Int) 4)))).bind fun y13 => if y13 = true then some false else (scrimref10_Keys.f k (il m)).bind fun t16 => scrimlaw10_AriaHow.l0 k (ks w0 w1 w2 w3 (13 + 2 * e), 0) t16 0) = some true
  rw [if_neg (by decide), c, Option.bind_some, if_neg (by decide), q2, Option.bind_some]
  exact main
end Go.Scr.S
