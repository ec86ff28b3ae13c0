/- The plain law of ArBoth. -/
import Derived.Test.YtekkdjgcbkoepaaDoorFnAriaRounds
import Derived.Test.YtekkdjgcbkoepaaDoorLibNum
import Derived.Test.YtekkdjgcbkoepaaDoorLibIl
import Derived.Test.YtekkdjgcbkoepaaDoorLibFill
import Derived.Test.YtekkdjgcbkoepaaDoorLibGIl
import Derived.Test.YtekkdjgcbkoepaaDoorLibGXor
set_option linter.unusedVariables false
set_option linter.unusedSimpArgs false
set_option linter.unnecessarySimpa false
namespace Go.Scr.S
def xorN (a b : List Nat) : List Nat := (List.range 16).map fun i => a.getD i 0 ^^^ b.getD i 0
theorem xorN_length (a b : List Nat) : (xorN a b).length = 16 := by simp [xorN]
theorem xorN_lt {a b : List Nat} (ha : ∀ x ∈ a, x < 256) (hb : ∀ x ∈ b, x < 256) : ∀ x ∈ xorN a b, x < 256 := by
  intro x hx
  unfold xorN at hx
  obtain ⟨i, _, rfl⟩ := List.mem_map.1 hx
  exact Nat.xor_lt_two_pow (n := 8) (getD_lt ha i) (getD_lt hb i)
theorem fill_xo {a b : List Nat} (ha : ∀ x ∈ a, x < 256) (hb : ∀ x ∈ b, x < 256) : fill 16 (xo (il a) (il b)) = il (xorN a b) := by
  unfold xorN
  rw [il_range]
  refine fill_congr fun i hi => ?_
  unfold xo
  rw [il_rd', il_rd', bx8 (getD_lt ha i) (getD_lt hb i)]
theorem both_l0 {a b : List Int} (h : a.length = b.length) (hl : a.length < 1000000000) (d : Nat) {k i : Nat} {x : List Int} (hi : i + d = a.length) (hk : d < k) (hx : Fl (xo a b) a.length i x) :
    scrimref1_Both.l0 k a b x (i : Int) = some (fill a.length (xo a b)) := by
  induction d generalizing k i x with
  | zero =>
    obtain ⟨k, rfl⟩ : ∃ j, k = j + 1 := ⟨k - 1, by omega⟩
    have : i = a.length := by omega
    subst this
    simp only [scrimref1_Both.l0]
    rw [if_neg (by simp), hx.done]
  | succ d ih =>
    obtain ⟨k, rfl⟩ : ∃ j, k = j + 1 := ⟨k - 1, by omega⟩
    have c1 : decide ((i : Int) < (a.length : Int)) = true := by rw [decide_eq_true_eq]; omega
    have c2 : decide (0 ≤ (i : Int)) = true := by rw [decide_eq_true_eq]; omega
    have c3 : decide ((i : Int) < (b.length : Int)) = true := by rw [decide_eq_true_eq]; omega
    have c4 : decide ((i : Int) < (((a.length : Int)).toNat : Int)) = true := by rw [decide_eq_true_eq]; omega
    have e5 : I64 ((i : Int) + 1) = ((i + 1 : Nat) : Int) := by rw [I64_id (by omega) (by omega)]; simp
    simp only [scrimref1_Both.l0, c1, c2, c3, c4, if_true, e5, Int.toNat_natCast]
    exact ih (by omega) (by omega) (hx.set (by omega) rfl)
theorem both_eq {a b : List Int} {k : Nat} (h : a.length = b.length) (hl : a.length < 1000000000) (hk : a.length < k) : scrimref1_Both.f k a b = some (fill a.length (xo a b)) := by
  unfold scrimref1_Both.f
  rw [if_pos (by simp), if_pos (by rw [decide_eq_true_eq]; omega)]
  exact both_l0 h hl a.length (i := 0) (by omega) hk (Fl.zero (by simp))
theorem both16 {a b : List Nat} (h1 : a.length = 16) (h2 : b.length = 16) (ha : ∀ x ∈ a, x < 256) (hb : ∀ x ∈ b, x < 256) {k : Nat} (hk : 20 ≤ k) : scrimref1_Both.f k (il a) (il b) = some (il (xorN a b)) := by
  have l : (il a).length = 16 := by rw [il_length, h1]
  rw [both_eq (by rw [il_length, il_length, h1, h2]) (by omega) (by omega), l, fill_xo ha hb]
theorem xor16 {a b : List Nat} (h1 : a.length = 16) (h2 : b.length = 16) (ha : ∀ x ∈ a, x < 256) (hb : ∀ x ∈ b, x < 256) {k : Nat} (hk : 20 ≤ k) : words_Xor.f k (il a) (il b) = some (il (xorN a b), true) := by
  have l : (il a).length = 16 := by rw [il_length, h1]
  rw [xor_eq (by rw [il_length, il_length, h1, h2]) (by omega) (by omega), l, fill_xo ha hb]
end Go.Scr.S
