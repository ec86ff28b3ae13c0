/- The plain law of SmStr2. -/
import Derived.Test.YtngagagokcnnaaaXDeep3
import Derived.Test.YtngagagokcnnaaaLibNum
import Derived.Test.YtngagagokcnnaaaLibIl
import Derived.Test.YtngagagokcnnaaaLibSmStr
set_option linter.unusedVariables false
set_option linter.unusedSimpArgs false
set_option linter.unnecessarySimpa false
namespace Go.Scr.S
theorem toList_loop (b : ByteArray) (d : Nat) : ∀ (i : Nat) (r : List UInt8), i + d = b.size → ByteArray.toList.loop b i r = r.reverse ++ b.data.toList.drop i := by
  induction d with
  | zero =>
    intro i r h
    rw [ByteArray.toList.loop, if_neg (by omega), List.drop_of_length_le (by rw [Array.length_toList]; exact Nat.le_of_eq h.symm), List.append_nil]
  | succ d ih =>
    intro i r h
    have hi : i < b.data.toList.length := by rw [Array.length_toList]; show i < b.size; omega
    have g : b.get! i = b.data.toList[i] := by
      show b.data[i]! = _
      rw [getElem!_pos b.data i (by rw [Array.length_toList] at hi; exact hi)]; simp
    rw [ByteArray.toList.loop, if_pos (by omega), ih (i + 1) _ (by omega), g, List.reverse_cons, List.append_assoc, List.drop_eq_getElem_cons hi]; rfl
theorem toList_data (b : ByteArray) : b.toList = b.data.toList := by
  unfold ByteArray.toList
  rw [toList_loop b b.size 0 [] (by omega)]; simp
theorem strOf_eq {a b : List Nat} (ha : ∀ x ∈ a, x < 256) (hb : ∀ x ∈ b, x < 256) : ((strOf (il a)).toList == (strOf (il b)).toList) = decide (a = b) := by
  rw [toList_data, toList_data]
  by_cases h : a = b
  · subst h; simp
  · rw [decide_eq_false h, beq_eq_false_iff_ne]
    intro e
    exact h ((strOf_inj ha hb).1 (ba_ext e))
end Go.Scr.S
