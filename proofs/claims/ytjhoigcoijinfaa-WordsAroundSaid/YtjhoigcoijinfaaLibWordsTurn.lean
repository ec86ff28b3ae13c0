/- The plain law of WordsTurn. -/
import Derived.Test.YtjhoigcoijinfaaFnWordsAround
import Derived.Test.YtjhoigcoijinfaaLibNum
import Derived.Test.YtjhoigcoijinfaaLibWordsBase
import Derived.Test.YtjhoigcoijinfaaLibWordsLoad
import Derived.Test.YtjhoigcoijinfaaLibFill
import Derived.Test.YtjhoigcoijinfaaLibWordsIl
set_option linter.unusedVariables false
set_option linter.unusedSimpArgs false
set_option linter.unnecessarySimpa false
namespace Go.Scr.S
/-- A rest that is never less than nought. -/
theorem rest_fix (n : Int) (by_ : Nat) (h : 0 < by_) (h1 : by_ < 4611686018427387904) : Int.tmod (I64 (Int.tmod n (by_ : Int) + (by_ : Int))) (by_ : Int) = ((n % (by_ : Int)).toNat : Nat) := by
  have e := Int.tmod_eq_emod (a := n) (b := (by_ : Int))
  have h2 := Int.emod_nonneg n (show (by_ : Int) ≠ 0 by omega)
  have h3 := Int.emod_lt_of_pos n (show (0 : Int) < by_ by omega)
  have h4 : 0 ≤ Int.tmod n (by_ : Int) + (by_ : Int) ∧ Int.tmod n (by_ : Int) + (by_ : Int) < 2 * by_ := by rw [e]; split <;> omega
  rw [I64_id (by omega) (by omega), Int.tmod_eq_emod_of_nonneg h4.1, e]
  split
  · rw [show n % (by_ : Int) - ((0 : Nat) : Int) + (by_ : Int) = n % (by_ : Int) + (by_ : Int) by omega, Int.add_emod_right, Int.emod_emod]; omega
  · rw [Int.natAbs_natCast]
    rw [show n % (by_ : Int) - (by_ : Int) + (by_ : Int) = n % (by_ : Int) by omega, Int.emod_emod]; omega
theorem wrest_eq {k : Nat} (n : Int) {b : Nat} (h : 0 < b) (h1 : b < 4611686018427387904) : words_rest.f k n (b : Int) = some (((n % (b : Int)).toNat : Nat) : Int) := by
  unfold words_rest.f
  rw [if_neg (by simp; omega), if_neg (by simp; omega), rest_fix n b h h1]
/-- A byte of a row that is turned by s. -/
def tb (l : List Nat) (s j : Nat) : Nat := ((l.getD ((j + s / 8) % l.length) 0 <<< (s % 8)) % 256) ||| (l.getD ((j + s / 8 + 1) % l.length) 0 >>> (8 - s % 8))
def turnN (l : List Nat) (v : Int) : List Nat := (List.range l.length).map (tb l (v % ((8 * l.length : Nat) : Int)).toNat)
theorem il_rd' (l : List Nat) (i : Nat) : rd (il l) (i : Int) = ((l.getD i 0 : Nat) : Int) := by
  unfold rd il; rw [Int.toNat_natCast, List.getD_eq_getElem?_getD, List.getElem?_map, List.getD_eq_getElem?_getD]
  cases l[i]? <;> rfl
theorem getD_lt {l : List Nat} (hl : ∀ x ∈ l, x < 256) (i : Nat) : l.getD i 0 < 256 := by
  rw [List.getD_eq_getElem?_getD]
  cases e : l[i]? with
  | none => decide
  | some x => exact hl x (List.mem_of_getElem? e)
theorem two_bytes {x y s : Nat} (hx : x < 256) (hy : y < 256) (hs : s < 8) : (((x <<< 8) ||| y) >>> (8 - s)) % 256 = ((x <<< s) % 256) ||| (y >>> (8 - s)) := by
  refine Nat.eq_of_testBit_eq fun i => ?_
  rw [show (256 : Nat) = 2 ^ 8 from rfl, Nat.testBit_mod_two_pow, Nat.testBit_or, Nat.testBit_mod_two_pow, Nat.testBit_shiftRight, Nat.testBit_shiftRight, Nat.testBit_shiftLeft, Nat.testBit_or, Nat.testBit_shiftLeft]
  by_cases h8 : i < 8
  · simp only [h8, decide_true, Bool.true_and]
    by_cases h : i ≥ s
    · have e1 : 8 - s + i ≥ 8 := by omega
      have e2 : 8 - s + i - 8 = i - s := by omega
      simp only [h, e1, decide_true, Bool.true_and, e2]
    · have e1 : ¬ (8 - s + i ≥ 8) := by omega
      simp only [h, e1, decide_false, Bool.false_and, Bool.false_or]
  · have e0 : y.testBit (8 - s + i) = false := Nat.testBit_lt_two_pow (Nat.lt_of_lt_of_le (by omega : y < 2 ^ 8) (Nat.pow_le_pow_right (by decide) (by omega)))
    simp only [h8, decide_false, Bool.false_and, e0, Bool.or_self]
theorem tm_nat (a b : Nat) : Int.tmod (a : Int) (b : Int) = ((a % b : Nat) : Int) := rfl
theorem td_nat (a b : Nat) : Int.tdiv (a : Int) (b : Int) = ((a / b : Nat) : Int) := rfl
theorem turn_l0 {l : List Nat} (hl : ∀ x ∈ l, x < 256) (hlen : l.length < 1000000) {s : Nat} (hs : s < 8 * l.length) (d : Nat) {k i : Nat} {x : List Int} (hi : i + d = l.length) (hk : d < k) (hx : Fl (fun j => ((tb l s j : Nat) : Int)) l.length i x) :
    words_Turn.l0 k (il l) (s : Int) x (i : Int) = some (il ((List.range l.length).map (tb l s))) := by
  induction d generalizing k i x with
  | zero =>
    obtain ⟨k, rfl⟩ : ∃ j, k = j + 1 := ⟨k - 1, by omega⟩
    have : i = l.length := by omega
    subst this
    have c0 : decide ((l.length : Int) < (((l.length : Int)).toNat : Int)) = false := by simp
    simp only [words_Turn.l0, il_length, c0, Option.bind_some, Bool.false_eq_true, if_false]
    rw [il_range, hx.done]
  | succ d ih =>
    obtain ⟨k, rfl⟩ : ∃ j, k = j + 1 := ⟨k - 1, by omega⟩
    have hpos : 0 < l.length := by omega
    have e8 : Int.tdiv (s : Int) 8 = ((s / 8 : Nat) : Int) := rfl
    have m8 : Int.tmod (s : Int) 8 = ((s % 8 : Nat) : Int) := rfl
    have i1 : I64 ((s / 8 : Nat) : Int) = ((s / 8 : Nat) : Int) := I64_nat (by omega)
    have i2 : I64 ((i : Int) + ((s / 8 : Nat) : Int)) = ((i + s / 8 : Nat) : Int) := by rw [I64_id (by omega) (by omega)]; simp
    have i3 : I64 (((i + s / 8 : Nat) : Int) + 1) = ((i + s / 8 + 1 : Nat) : Int) := by rw [I64_id (by omega) (by omega)]; simp
    have e5 : I64 ((i : Int) + 1) = ((i + 1 : Nat) : Int) := by rw [I64_id (by omega) (by omega)]; simp
    have c0 : decide ((i : Int) < (((l.length : Int)).toNat : Int)) = true := by rw [decide_eq_true_eq]; omega
    have c1 : decide ((l.length : Int) = 0) = false := by rw [decide_eq_false_iff_not]; omega
    have c2 : ∀ n : Nat, decide (0 ≤ (n : Int)) = true := by intro n; rw [decide_eq_true_eq]; omega
    have c3 : ∀ n : Nat, decide (((n % l.length : Nat) : Int) < (l.length : Int)) = true := by intro n; have := Nat.mod_lt n hpos; rw [decide_eq_true_eq]; omega
    have hX := getD_lt hl ((i + s / 8) % l.length)
    have hY := getD_lt hl ((i + s / 8 + 1) % l.length)
    have hT : tb l s i = ((l.getD ((i + s / 8) % l.length) 0 <<< (s % 8)) % 256) ||| (l.getD ((i + s / 8 + 1) % l.length) 0 >>> (8 - s % 8)) := rfl
    simp only [words_Turn.l0, il_length, c0, Option.bind_some, if_true, e8, m8, i1, i2, i3, tm_nat, c1, Bool.false_eq_true, if_false, c2, c3, il_rd']
    generalize l.getD ((i + s / 8) % l.length) 0 = X at *
    generalize l.getD ((i + s / 8 + 1) % l.length) 0 = Y at *
    have u1 : U64 (X : Int) = (X : Int) := U64_id (by omega) (by omega)
    have u2 : U64 (Y : Int) = (Y : Int) := U64_id (by omega) (by omega)
    have h3 : X <<< 8 < 18446744073709551616 := by rw [Nat.shiftLeft_eq]; omega
    have e1 : shl .u64 (X : Int) 8 = ((X <<< 8 : Nat) : Int) := by rw [shl64, Nat.mod_eq_of_lt h3]
    have e3 := bo64 h3 (b := Y) (by omega)
    have u3 : U64 ((s % 8 : Nat) : Int) = ((s % 8 : Nat) : Int) := U64_id (by omega) (by omega)
    have u4 : U64 (8 - ((s % 8 : Nat) : Int)) = ((8 - s % 8 : Nat) : Int) := by rw [U64_id (by omega) (by omega)]; omega
    have e4 : shrv .u64 ((X <<< 8 ||| Y : Nat) : Int) ((8 - s % 8 : Nat) : Int) = (((X <<< 8 ||| Y) >>> (8 - s % 8) : Nat) : Int) := by
      show shr _ (min (((8 - s % 8 : Nat) : Int)).toNat 64) = _
      rw [shr_nat]; congr 2; rw [Int.toNat_natCast]; omega
    simp only [u1, u2, u3, u4, e1, e3, e4, c2, if_true, U8_nat, Int.toNat_natCast, e5, c0]
    refine ih (by omega) (by omega) (hx.set (by omega) ?_)
    rw [two_bytes hX hY (by omega)]
    exact congrArg _ hT.symm
theorem turn_eq {l : List Nat} {k : Nat} (hl : ∀ x ∈ l, x < 256) (hlen : l.length < 1000000) (hk : l.length < k) (v : Int) : words_Turn.f k (il l) v = some (il (turnN l v)) := by
  unfold words_Turn.f
  rw [il_length]
  by_cases h0 : l.length = 0
  · rw [if_pos (by rw [h0]; rfl)]
    have : l = [] := List.length_eq_zero_iff.1 h0
    subst this; rfl
  · have e8 : I64 (8 * (l.length : Int)) = ((8 * l.length : Nat) : Int) := by rw [I64_id (by omega) (by omega)]; simp
    rw [if_neg (by rw [beq_iff_eq]; omega), e8, wrest_eq v (by omega) (by omega)]
    simp only [Option.bind_some]
    rw [if_pos (by simp), if_pos (by rw [decide_eq_true_eq]; omega)]
    have h2 := Int.emod_nonneg v (show ((8 * l.length : Nat) : Int) ≠ 0 by omega)
    have h3 := Int.emod_lt_of_pos v (show (0 : Int) < ((8 * l.length : Nat) : Int) by omega)
    exact turn_l0 hl hlen (by omega) l.length (i := 0) (by omega) hk (Fl.zero (by simp))
theorem turnN_length (l : List Nat) (v : Int) : (turnN l v).length = l.length := by simp [turnN]
theorem turnN_lt {l : List Nat} (hl : ∀ x ∈ l, x < 256) (v : Int) : ∀ x ∈ turnN l v, x < 256 := by
  intro x hx
  unfold turnN at hx
  obtain ⟨j, _, rfl⟩ := List.mem_map.1 hx
  unfold tb
  refine Nat.or_lt_two_pow (n := 8) (by omega) ?_
  rw [Nat.shiftRight_eq_div_pow]
  exact Nat.lt_of_le_of_lt (Nat.div_le_self _ _) (getD_lt hl _)
end Go.Scr.S
