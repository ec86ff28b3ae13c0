/- The plain law of BoxIsL. -/
import Derived.Test.YtekkdjgcbkoepaaDoorFnAriaRounds
import Derived.Test.YtekkdjgcbkoepaaDoorLibNum
import Derived.Test.YtekkdjgcbkoepaaDoorLibIl
set_option linter.unusedVariables false
set_option linter.unusedSimpArgs false
set_option linter.unnecessarySimpa false
namespace Go.Scr.S
def marks (P : Nat → Bool) : List Bool := (List.range 256).map P
theorem marks_length (P : Nat → Bool) : (marks P).length = 256 := by simp [marks]
theorem marks_at (P : Nat → Bool) (j : Nat) : (marks P)[j]? = if j < 256 then some (P j) else none := by
  unfold marks
  rw [List.getElem?_map]
  by_cases h : j < 256
  · rw [List.getElem?_range h, if_pos h]; rfl
  · rw [List.getElem?_eq_none (by simp; omega), if_neg h]; rfl
theorem marks_set (P : Nat → Bool) (v : Nat) : (marks P).set v true = marks (fun u => P u || decide (u = v)) := by
  refine List.ext_getElem? fun j => ?_
  rw [List.getElem?_set, marks_at, marks_at, marks_length]
  by_cases h : v = j
  · subst h; rw [if_pos rfl]; by_cases hv : v < 256 <;> simp [hv]
  · rw [if_neg h]
    have : decide (j = v) = false := by simp; omega
    rw [this, Bool.or_false]
theorem marks_congr {P Q : Nat → Bool} (h : ∀ u, P u = Q u) : marks P = marks Q := by unfold marks; exact List.map_congr_left fun u _ => h u
theorem marks_none : List.replicate 256 false = marks (fun _ => false) := by
  refine List.ext_getElem? fun j => ?_
  rw [List.getElem?_replicate, marks_at]
theorem mem_take_succ (l : List Nat) {i : Nat} (h : i < l.length) (u : Nat) : decide (u ∈ l.take (i + 1)) = (decide (u ∈ l.take i) || decide (u = l.getD i 0)) := by
  have e : l.getD i 0 = l[i] := by rw [List.getD_eq_getElem?_getD, List.getElem?_eq_getElem h]; rfl
  rw [List.take_succ_eq_append_getElem h, Bool.eq_iff_iff, e]
  simp only [decide_eq_true_eq, Bool.or_eq_true, List.mem_append, List.mem_singleton]
theorem seen_l0 {l : List Nat} (hl : ∀ x ∈ l, x < 256) (hlen : l.length < 1000000000) (d : Nat) {k i : Nat} (hk : d < k) (hi : i + d = l.length) :
    box_seen.l0 k (il l) (marks fun u => decide (u ∈ l.take i)) (i : Int) = some (marks fun u => decide (u ∈ l)) := by
  induction d generalizing k i with
  | zero =>
    obtain ⟨k, rfl⟩ : ∃ j, k = j + 1 := ⟨k - 1, by omega⟩
    have : i = l.length := by omega
    subst this
    simp only [box_seen.l0, il_length]
    rw [if_neg (by simp), List.take_length]
  | succ d ih =>
    obtain ⟨k, rfl⟩ : ∃ j, k = j + 1 := ⟨k - 1, by omega⟩
    have hv := getD_lt hl i
    have c1 : decide ((i : Int) < (l.length : Int)) = true := by rw [decide_eq_true_eq]; omega
    have c2 : decide (0 ≤ (i : Int)) = true := by rw [decide_eq_true_eq]; omega
    have c3 : decide (0 ≤ ((l.getD i 0 : Nat) : Int)) = true := by rw [decide_eq_true_eq]; omega
    have c4 : decide (((l.getD i 0 : Nat) : Int) < 256) = true := by rw [decide_eq_true_eq]; omega
    have e5 : I64 ((i : Int) + 1) = ((i + 1 : Nat) : Int) := by rw [I64_id (by omega) (by omega)]; simp
    simp only [box_seen.l0, il_length, c1, c2, if_true, il_rd', c3, c4, Int.toNat_natCast, e5, marks_set]
    have := ih (k := k) (i := i + 1) (by omega) (by omega)
    rw [marks_congr (mem_take_succ l (by omega : i < l.length))] at this
    exact this
theorem seen_eq {l : List Nat} (hl : ∀ x ∈ l, x < 256) (hlen : l.length < 1000000000) {k : Nat} (hk : l.length < k) : box_seen.f k (il l) = some (marks fun u => decide (u ∈ l)) := by
  unfold box_seen.f
  rw [marks_none]
  have := seen_l0 hl hlen l.length (k := k) (i := 0) hk (by omega)
  rw [marks_congr (Q := fun _ => false) (by intro u; simp)] at this
  exact this
/-- Each of 0 to its length less 1, and no other. -/
def isP (l : List Nat) : Bool := decide (l.length ≤ 256) && (marks (fun u => decide (u ∈ l)) == marks (fun u => decide (u < l.length)))
theorem is_l0 {l : List Nat} (hl : ∀ x ∈ l, x < 256) (hlen : l.length ≤ 256) (d : Nat) {k i : Nat} (hk : d + 300 < k) (hi : i + d = l.length) :
    box_Is.l0 k (il l) (marks fun u => decide (u < i)) (i : Int) = some (isP l) := by
  induction d generalizing k i with
  | zero =>
    obtain ⟨k, rfl⟩ : ∃ j, k = j + 1 := ⟨k - 1, by omega⟩
    have : i = l.length := by omega
    subst this
    have c1 : decide ((l.length : Int) < (l.length : Int)) = false := by simp
    simp only [box_Is.l0, il_length, c1, Bool.false_eq_true, if_false, seen_eq hl (by omega : l.length < 1000000000) (by omega : l.length < k), Option.bind_some, isP, hlen, decide_true, Bool.true_and]
  | succ d ih =>
    obtain ⟨k, rfl⟩ : ∃ j, k = j + 1 := ⟨k - 1, by omega⟩
    have c1 : decide ((i : Int) < (l.length : Int)) = true := by rw [decide_eq_true_eq]; omega
    have c2 : decide (0 ≤ (i : Int)) = true := by rw [decide_eq_true_eq]; omega
    have c4 : decide ((i : Int) < 256) = true := by rw [decide_eq_true_eq]; omega
    have e5 : I64 ((i : Int) + 1) = ((i + 1 : Nat) : Int) := by rw [I64_id (by omega) (by omega)]; simp
    simp only [box_Is.l0, il_length, c1, c2, c4, if_true, Int.toNat_natCast, e5, marks_set]
    have := ih (k := k) (i := i + 1) (by omega) (by omega)
    rw [marks_congr (Q := fun u => decide (u < i) || decide (u = i)) (by intro u; rw [Bool.eq_iff_iff]; simp; omega)] at this
    exact this
theorem is_eq {l : List Nat} (hl : ∀ x ∈ l, x < 256) {k : Nat} (hk : 600 ≤ k) : box_Is.f k (il l) = some (isP l) := by
  unfold box_Is.f
  rw [il_length]
  by_cases h : l.length ≤ 256
  · rw [if_neg (by rw [decide_eq_true_eq]; omega), marks_none]
    have := is_l0 hl h l.length (k := k) (i := 0) (by omega) (by omega)
    rw [marks_congr (Q := fun _ => false) (by intro u; simp)] at this
    exact this
  · rw [if_pos (by rw [decide_eq_true_eq]; omega)]
    simp [isP, h]
end Go.Scr.S
