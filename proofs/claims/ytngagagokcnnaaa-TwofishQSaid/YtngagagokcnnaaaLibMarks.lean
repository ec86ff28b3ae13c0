/- The plain law of Marks. -/
import Derived.Test.YtngagagokcnnaaaXDeep3
import Derived.Test.YtngagagokcnnaaaLibNum
import Derived.Test.YtngagagokcnnaaaLibIl
set_option linter.unusedVariables false
set_option linter.unusedSimpArgs false
set_option linter.unnecessarySimpa false
namespace Go.Scr.S
def marks (P : Nat → Bool) : List Bool := (List.range 256).map P
theorem marks_length (P : Nat → Bool) : (marks P).length = 256 := by simp [marks]
theorem marks_at (P : Nat → Bool) (j : Nat) : (marks P)[j]? = if j < 256 then some (P j) else none := by
  unfold marks
  rw [List.getElem?_map]
  by_cases h : j < 256
  · rw [List.getElem?_range h, if_pos h]; rfl
  · rw [List.getElem?_eq_none (by simp; omega), if_neg h]; rfl
theorem marks_set (P : Nat → Bool) (v : Nat) : (marks P).set v true = marks (fun u => P u || decide (u = v)) := by
  refine List.ext_getElem? fun j => ?_
  rw [List.getElem?_set, marks_at, marks_at, marks_length]
  by_cases h : v = j
  · subst h; rw [if_pos rfl]; by_cases hv : v < 256 <;> simp [hv]
  · rw [if_neg h]
    have : decide (j = v) = false := by simp; omega
    rw [this, Bool.or_false]
theorem marks_congr {P Q : Nat → Bool} (h : ∀ u, P u = Q u) : marks P = marks Q := by unfold marks; exact List.map_congr_left fun u _ => h u
theorem marks_none : List.replicate 256 false = marks (fun _ => false) := by
  refine List.ext_getElem? fun j => ?_
  rw [List.getElem?_replicate, marks_at]
theorem mem_take_succ (l : List Nat) {i : Nat} (h : i < l.length) (u : Nat) : decide (u ∈ l.take (i + 1)) = (decide (u ∈ l.take i) || decide (u = l.getD i 0)) := by
  have e : l.getD i 0 = l[i] := by rw [List.getD_eq_getElem?_getD, List.getElem?_eq_getElem h]; rfl
  rw [List.take_succ_eq_append_getElem h, Bool.eq_iff_iff, e]
  simp only [decide_eq_true_eq, Bool.or_eq_true, List.mem_append, List.mem_singleton]
theorem rdb_marks (P : Nat → Bool) {v : Nat} (h : v < 256) : rdb (marks P) (v : Int) = P v := by
  unfold rdb
  rw [Int.toNat_natCast, List.getD_eq_getElem?_getD, marks_at, if_pos h]; rfl
end Go.Scr.S
