/- The plain law of GRTurn. -/
import Derived.Test.YtekkdjgcbkoepaaDoorFnAriaKeys
import Derived.Test.YtekkdjgcbkoepaaDoorLibNum
import Derived.Test.YtekkdjgcbkoepaaDoorLibIl
import Derived.Test.YtekkdjgcbkoepaaDoorLibFill
import Derived.Test.YtekkdjgcbkoepaaDoorLibGIl
import Derived.Test.YtekkdjgcbkoepaaDoorLibGTurn
set_option linter.unusedVariables false
set_option linter.unusedSimpArgs false
set_option linter.unnecessarySimpa false
namespace Go.Scr.S
theorem rrest_eq {k : Nat} (n : Int) {b : Nat} (h : 0 < b) (h1 : b < 4611686018427387904) : scrimref1_rest.f k n (b : Int) = some (((n % (b : Int)).toNat : Nat) : Int) := by
  unfold scrimref1_rest.f
  rw [if_neg (by simp; omega), if_neg (by simp; omega), rest_fix n b h h1]
theorem rturn_l0 {l : List Nat} (hl : ∀ x ∈ l, x < 256) (hlen : l.length < 1000000) {s : Nat} (hs : s < 8 * l.length) (d : Nat) {k i : Nat} {x : List Int} (hi : i + d = l.length) (hk : d < k) (hx : Fl (fun j => ((tb l s j : Nat) : Int)) l.length i x) :
    scrimref1_Turn.l0 k (il l) (s : Int) x (i : Int) = some (il ((List.range l.length).map (tb l s))) := by
  induction d generalizing k i x with
  | zero =>
    obtain ⟨k, rfl⟩ : ∃ j, k = j + 1 := ⟨k - 1, by omega⟩
    have : i = l.length := by omega
    subst this
    have c0 : decide ((l.length : Int) < (l.length : Int)) = false := by simp
    simp only [scrimref1_Turn.l0, il_length, c0, Bool.false_eq_true, if_false]
    rw [il_range, hx.done]
  | succ d ih =>
    obtain ⟨k, rfl⟩ : ∃ j, k = j + 1 := ⟨k - 1, by omega⟩
    have hpos : 0 < l.length := by omega
    have e8 : Int.tdiv (s : Int) 8 = ((s / 8 : Nat) : Int) := rfl
    have m8 : Int.tmod (s : Int) 8 = ((s % 8 : Nat) : Int) := rfl
    have i1 : I64 ((s / 8 : Nat) : Int) = ((s / 8 : Nat) : Int) := I64_nat (by omega)
    have i2 : I64 ((i : Int) + ((s / 8 : Nat) : Int)) = ((i + s / 8 : Nat) : Int) := by rw [I64_id (by omega) (by omega)]; simp
    have i3 : I64 (((i + s / 8 : Nat) : Int) + 1) = ((i + s / 8 + 1 : Nat) : Int) := by rw [I64_id (by omega) (by omega)]; simp
    have e5 : I64 ((i : Int) + 1) = ((i + 1 : Nat) : Int) := by rw [I64_id (by omega) (by omega)]; simp
    have c9 : decide ((i : Int) < (l.length : Int)) = true := by rw [decide_eq_true_eq]; omega
    have c0 : decide ((i : Int) < (((l.length : Int)).toNat : Int)) = true := by rw [decide_eq_true_eq]; omega
    have c1 : decide ((l.length : Int) = 0) = false := by rw [decide_eq_false_iff_not]; omega
    have c2 : ∀ n : Nat, decide (0 ≤ (n : Int)) = true := by intro n; rw [decide_eq_true_eq]; omega
    have c3 : ∀ n : Nat, decide (((n % l.length : Nat) : Int) < (l.length : Int)) = true := by intro n; have := Nat.mod_lt n hpos; rw [decide_eq_true_eq]; omega
    have hX := getD_lt hl ((i + s / 8) % l.length)
    have hY := getD_lt hl ((i + s / 8 + 1) % l.length)
    have hT : tb l s i = ((l.getD ((i + s / 8) % l.length) 0 <<< (s % 8)) % 256) ||| (l.getD ((i + s / 8 + 1) % l.length) 0 >>> (8 - s % 8)) := rfl
    have u3 : U64 ((s % 8 : Nat) : Int) = ((s % 8 : Nat) : Int) := U64_id (by omega) (by omega)
    have u4 : I64 (8 - ((s % 8 : Nat) : Int)) = ((8 - s % 8 : Nat) : Int) := by rw [I64_id (by omega) (by omega)]; omega
    have u5 : U64 ((8 - s % 8 : Nat) : Int) = ((8 - s % 8 : Nat) : Int) := U64_id (by omega) (by omega)
    simp only [scrimref1_Turn.l0, il_length, c9, c0, Option.bind_some, if_true, e8, m8, i1, i2, i3, tm_nat, c1, Bool.false_eq_true, if_false, c2, c3, il_rd', u3, u4, u5]
    generalize l.getD ((i + s / 8) % l.length) 0 = X at *
    generalize l.getD ((i + s / 8 + 1) % l.length) 0 = Y at *
    have e1 : shlv .u8 (X : Int) ((s % 8 : Nat) : Int) = (((X <<< (s % 8)) % 256 : Nat) : Int) := by
      show shl .u8 _ (min (((s % 8 : Nat) : Int)).toNat 8) = _
      rw [shl8, Int.toNat_natCast, Nat.min_eq_left (by omega)]
    have e4 : shrv .u8 (Y : Int) ((8 - s % 8 : Nat) : Int) = ((Y >>> (8 - s % 8) : Nat) : Int) := by
      show shr _ (min (((8 - s % 8 : Nat) : Int)).toNat 8) = _
      rw [shr_nat]; congr 2; rw [Int.toNat_natCast]; omega
    have hY2 : Y >>> (8 - s % 8) < 256 := by rw [Nat.shiftRight_eq_div_pow]; exact Nat.lt_of_le_of_lt (Nat.div_le_self _ _) hY
    have e3 := bo8 (a := (X <<< (s % 8)) % 256) (by omega) hY2
    simp only [e1, e3, e4, Int.toNat_natCast, e5]
    refine ih (by omega) (by omega) (hx.set (by omega) ?_)
    exact congrArg _ hT.symm
theorem rturn_eq {l : List Nat} {k : Nat} (hl : ∀ x ∈ l, x < 256) (hlen : l.length < 1000000) (hk : l.length < k) (v : Int) : scrimref1_Turn.f k (il l) v = some (il (turnN l v)) := by
  unfold scrimref1_Turn.f
  rw [il_length, if_pos (by simp), if_pos (by rw [decide_eq_true_eq]; omega)]
  by_cases h0 : l.length = 0
  · rw [if_pos (by rw [h0]; rfl)]
    have : l = [] := List.length_eq_zero_iff.1 h0
    subst this; rfl
  · have e8 : I64 (8 * (l.length : Int)) = ((8 * l.length : Nat) : Int) := by rw [I64_id (by omega) (by omega)]; simp
    rw [if_neg (by rw [beq_iff_eq]; omega), e8, rrest_eq v (by omega) (by omega)]
    have h2 := Int.emod_nonneg v (show ((8 * l.length : Nat) : Int) ≠ 0 by omega)
    have h3 := Int.emod_lt_of_pos v (show (0 : Int) < ((8 * l.length : Nat) : Int) by omega)
    exact rturn_l0 hl hlen (by omega) l.length (i := 0) (by omega) hk (Fl.zero (by simp))
end Go.Scr.S
