/- The plain law of GStore. -/
import Derived.Test.YtngagagokcnnaaaFnTwofishH
import Derived.Test.YtngagagokcnnaaaLibNum
import Derived.Test.YtngagagokcnnaaaLibIl
import Derived.Test.YtngagagokcnnaaaLibGLoad
import Derived.Test.YtngagagokcnnaaaLibFill
import Derived.Test.YtngagagokcnnaaaLibGIl
set_option linter.unusedVariables false
set_option linter.unusedSimpArgs false
set_option linter.unnecessarySimpa false
namespace Go.Scr.S
/-- The digits of a number, the greatest first. -/
def dig (v n : Nat) : List Nat := (List.range n).map fun j => (v >>> (8 * (n - 1 - j))) % 256
def Fd (F : Nat → Int) (n i : Nat) (x : List Int) : Prop := x.length = n ∧ ∀ j, i ≤ j → j < n → x[j]? = some (F j)
theorem Fd.set {F : Nat → Int} {n i : Nat} {x : List Int} (h : Fd F n (i + 1) x) (hi : i < n) {v : Int} (hv : v = F i) : Fd F n i (x.set i v) := by
  refine ⟨by rw [List.length_set]; exact h.1, fun j hj hjn => ?_⟩
  rw [List.getElem?_set]
  by_cases e : i = j
  · subst e; rw [if_pos rfl, if_pos (by rw [h.1]; exact hi), hv]
  · rw [if_neg e]; exact h.2 j (by omega) hjn
theorem store_l0 (v n : Nat) (hn : n < 1000) (i : Nat) {k : Nat} {x : List Int} (hi : i ≤ n) (hk : i < k) (hx : Fd (fun j => (((v >>> (8 * (n - 1 - j))) % 256 : Nat) : Int)) n i x) :
    words_store.l0 k (n : Int) ((v >>> (8 * (n - i)) : Nat) : Int) x (i : Int) = some (il (dig v n)) := by
  induction i generalizing k x with
  | zero =>
    obtain ⟨k, rfl⟩ : ∃ j, k = j + 1 := ⟨k - 1, by omega⟩
    have c0 : decide (((0 : Nat) : Int) > 0) = false := by decide
    simp only [words_store.l0, c0, Bool.false_eq_true, if_false]
    unfold dig
    rw [il_range]
    have : Fl (fun j => (((v >>> (8 * (n - 1 - j))) % 256 : Nat) : Int)) n n x := ⟨hx.1, fun j hj => hx.2 j (Nat.zero_le _) hj⟩
    rw [this.done]
  | succ i ih =>
    obtain ⟨k, rfl⟩ : ∃ j, k = j + 1 := ⟨k - 1, by omega⟩
    have e1 : I64 (((i + 1 : Nat) : Int) - 1) = (i : Int) := by rw [I64_id (by omega) (by omega)]; omega
    have c0 : decide (((i + 1 : Nat) : Int) > 0) = true := by rw [decide_eq_true_eq]; omega
    have c1 : decide (0 ≤ (i : Int)) = true := by rw [decide_eq_true_eq]; omega
    have c2 : decide ((i : Int) < (n : Int)) = true := by rw [decide_eq_true_eq]; omega
    have e2 : shr ((v >>> (8 * (n - (i + 1))) : Nat) : Int) 8 = ((v >>> (8 * (n - i)) : Nat) : Int) := by
      rw [shr_nat, ← Nat.shiftRight_add]; congr 2; omega
    simp only [words_store.l0, c0, c1, c2, e1, e2, if_true, Int.toNat_natCast, U8_nat]
    refine ih (by omega) (by omega) (hx.set (by omega) ?_)
    show _ = (((v >>> (8 * (n - 1 - i))) % 256 : Nat) : Int)
    congr 4; omega
theorem store_eq (v n : Nat) (hn : n < 1000) {k : Nat} (hk : n < k) : words_store.f k (v : Int) (n : Int) = some (il (dig v n)) := by
  unfold words_store.f
  rw [if_pos (by rw [decide_eq_true_eq]; omega), if_pos (by rw [decide_eq_true_eq]; omega)]
  have := store_l0 v n hn n (k := k) (x := List.replicate ((n : Int)).toNat 0) (Nat.le_refl _) hk ⟨by simp, fun j h1 h2 => by omega⟩
  rw [Nat.sub_self, Nat.mul_zero, Nat.shiftRight_zero] at this
  exact this
theorem putbe32_eq (v : Nat) (hv : v < 4294967296) {k : Nat} (hk : 4 < k) : words_PutBe32.f k (v : Int) = some (il (dig v 4)) := by
  unfold words_PutBe32.f
  have e : U64 (v : Int) = (v : Int) := U64_id (by omega) (by omega)
  have := store_eq v 4 (by decide) hk
  simp only [Int.cast_ofNat_Int] at this
  rw [e, this]; rfl
theorem dig4 (v : Nat) : dig v 4 = [v >>> 24 % 256, v >>> 16 % 256, v >>> 8 % 256, v % 256] := rfl
theorem dig8 (v : Nat) : dig v 8 = [v >>> 56 % 256, v >>> 48 % 256, v >>> 40 % 256, v >>> 32 % 256, v >>> 24 % 256, v >>> 16 % 256, v >>> 8 % 256, v % 256] := rfl
theorem dig_length (v n : Nat) : (dig v n).length = n := by simp [dig]
theorem dig_lt (v n : Nat) : ∀ x ∈ dig v n, x < 256 := by
  intro x hx; unfold dig at hx; obtain ⟨j, _, rfl⟩ := List.mem_map.1 hx; omega
theorem big_dig4 (v : Nat) (h : v < 4294967296) : bigN (dig v 4) = v := by
  rw [dig4]; simp only [bigN, List.foldl, Nat.shiftRight_eq_div_pow]; omega
theorem big_dig8 (v : Nat) (h : v < 18446744073709551616) : bigN (dig v 8) = v := by
  rw [dig8]; simp only [bigN, List.foldl, Nat.shiftRight_eq_div_pow]; omega
theorem il_app (a b : List Nat) : il a ++ il b = il (a ++ b) := by simp [il]
theorem dig_split (v : Nat) : dig (v / 4294967296 % 4294967296) 4 ++ dig (v % 4294967296) 4 = dig v 8 := by
  rw [dig4, dig4, dig8]
  simp only [List.cons_append, List.nil_append, Nat.shiftRight_eq_div_pow, List.cons.injEq, and_true, Nat.reducePow]
  refine ⟨?_, ?_, ?_, ?_, ?_, ?_, ?_, ?_⟩ <;> omega
end Go.Scr.S
