/- The plain law of BoxTable. -/
import Derived.Test.YtfffmmpibebpcaaDoorFnBoxIs
import Derived.Test.YtfffmmpibebpcaaDoorLibNum
import Derived.Test.YtfffmmpibebpcaaDoorLibIl
import Derived.Test.YtfffmmpibebpcaaDoorLibBoxIsL
import Derived.Test.YtfffmmpibebpcaaDoorLibPigeon
import Derived.Test.YtfffmmpibebpcaaDoorLibBoxBackL
import Derived.Test.YtfffmmpibebpcaaDoorLibBoxWithin
set_option linter.unusedVariables false
set_option linter.unusedSimpArgs false
set_option linter.unnecessarySimpa false
namespace Go.Scr.S
theorem isP_perm {l m : List Nat} (h : m.Perm l) (hl : isP l = true) : isP m = true := by
  obtain ⟨h1, h2⟩ := isP_spec hl
  refine isP_of (by rw [h.length_eq]; exact h1) fun v hv => ?_
  rw [h.mem_iff, h.length_eq]; exact h2 v hv
theorem isP_range {n : Nat} (h : n ≤ 256) : isP (List.range n) = true := isP_of (by simpa using h) fun v hv => by simp
theorem table_l1 {n : Nat} (hn : n ≤ 256) {ns : List Int} (hns : ns.length ≤ maxLen) (z : List Nat) (hz : z.length = n) (d : Nat) {k i : Nat} {x : List Nat} (hk : d < k) (hi : i + d = ns.length) (hx : x.Perm (List.range n)) :
    ∃ t, scrimlaw4_Table.l1 k (n : Int) ns (il z) (il x) (i : Int) = some (il t) ∧ t.Perm (List.range n) := by
  induction d generalizing k i x with
  | zero =>
    obtain ⟨k, rfl⟩ : ∃ j, k = j + 1 := ⟨k - 1, by omega⟩
    refine ⟨x, ?_, hx⟩
    simp only [scrimlaw4_Table.l1]
    rw [if_neg (by rw [decide_eq_true_eq]; omega)]
  | succ d ih =>
    obtain ⟨k, rfl⟩ : ∃ j, k = j + 1 := ⟨k - 1, by omega⟩
    have c1 : decide ((i : Int) < (ns.length : Int)) = true := by rw [decide_eq_true_eq]; omega
    have c2 : decide (0 ≤ (i : Int)) = true := by rw [decide_eq_true_eq]; omega
    by_cases h3 : i < 300
    case neg =>
      refine ⟨x, ?_, hx⟩
      have c3 : decide ((i : Int) < 300) = false := by rw [decide_eq_false_iff_not]; omega
      simp only [scrimlaw4_Table.l1, c1, c3, if_true, Bool.false_eq_true, if_false]
    by_cases h4 : 0 < n
    case neg =>
      refine ⟨x, ?_, hx⟩
      have c3 : decide ((i : Int) < 300) = true := by rw [decide_eq_true_eq]; omega
      have c4 : decide ((n : Int) > 0) = false := by rw [decide_eq_false_iff_not]; omega
      simp only [scrimlaw4_Table.l1, c1, c3, c4, if_true, Bool.false_eq_true, if_false]
    have c3 : decide ((i : Int) < 300) = true := by rw [decide_eq_true_eq]; omega
    have c4 : decide ((n : Int) > 0) = true := by rw [decide_eq_true_eq]; omega
    have c5 : decide ((n : Int) = 0) = false := by rw [decide_eq_false_iff_not]; omega
    have w := within4_eq (k := k) (rd ns (i : Int)) (n : Int) (by omega) (by omega)
    obtain ⟨q, hq, eq⟩ : ∃ q : Nat, q < n ∧ rd ns (i : Int) % (n : Int) = q := ⟨(rd ns (i : Int) % (n : Int)).toNat, by have := Int.emod_lt_of_pos (rd ns (i : Int)) (show (0 : Int) < n by omega); have := Int.emod_nonneg (rd ns (i : Int)) (show (n : Int) ≠ 0 by omega); omega, by have := Int.emod_nonneg (rd ns (i : Int)) (show (n : Int) ≠ 0 by omega); omega⟩
    rw [eq] at w
    have hp : i % n < n := Nat.mod_lt _ h4
    have e1 : Int.tmod (i : Int) (n : Int) = ((i % n : Nat) : Int) := rfl
    have e5 : I64 ((i : Int) + 1) = ((i + 1 : Nat) : Int) := by rw [I64_id (by omega) (by omega)]; simp
    have hxl : x.length = n := by rw [hx.length_eq]; simp
    generalize i % n = p at *
    have d1 : decide (0 ≤ (p : Int)) = true := by rw [decide_eq_true_eq]; omega
    have d2 : decide (0 ≤ (q : Int)) = true := by rw [decide_eq_true_eq]; omega
    have d3 : decide ((p : Int) < (n : Int)) = true := by rw [decide_eq_true_eq]; omega
    have d4 : decide ((q : Int) < (n : Int)) = true := by rw [decide_eq_true_eq]; omega
    simp only [scrimlaw4_Table.l1, c1, c2, c3, c4, c5, if_true, Bool.false_eq_true, if_false, w, Option.bind_some, e1, d1, d2, d3, d4, il_length, hz, il_rd', Int.toNat_natCast, il_set, e5]
    refine ih (by omega) (by omega) ?_
    have g1 : x.getD p 0 = x[p]'(by omega) := by rw [List.getD_eq_getElem?_getD, List.getElem?_eq_getElem (by omega)]; rfl
    have g2 : x.getD q 0 = x[q]'(by omega) := by rw [List.getD_eq_getElem?_getD, List.getElem?_eq_getElem (by omega)]; rfl
    rw [g1, g2]
    exact (List.set_set_perm (by omega) (by omega)).trans hx
theorem table_l0 {n : Nat} (hn : n ≤ 256) {ns : List Int} (hns : ns.length ≤ maxLen) (d : Nat) {k i : Nat} (hk : d + ns.length + 1 < k) (hi : i + d = n) :
    ∃ t, scrimlaw4_Table.l0 k (n : Int) ns (il (List.range i)) (i : Int) = some (il t) ∧ t.Perm (List.range n) := by
  induction d generalizing k i with
  | zero =>
    obtain ⟨k, rfl⟩ : ∃ j, k = j + 1 := ⟨k - 1, by omega⟩
    have : i = n := by omega
    subst this
    obtain ⟨t, h1, h2⟩ := table_l1 hn hns (List.range i) (by simp) ns.length (k := k) (i := 0) (x := List.range i) (by omega) (by omega) (List.Perm.refl _)
    refine ⟨t, ?_, h2⟩
    simp only [scrimlaw4_Table.l0]
    rw [if_neg (by simp)]
    exact h1
  | succ d ih =>
    obtain ⟨k, rfl⟩ : ∃ j, k = j + 1 := ⟨k - 1, by omega⟩
    have c1 : decide ((i : Int) < (n : Int)) = true := by rw [decide_eq_true_eq]; omega
    have e5 : I64 ((i : Int) + 1) = ((i + 1 : Nat) : Int) := by rw [I64_id (by omega) (by omega)]; simp
    have e6 : U8 (i : Int) = (i : Int) := U8_id (by omega) (by omega)
    have e7 : il (List.range i) ++ [(i : Int)] = il (List.range (i + 1)) := by rw [List.range_succ]; simp [il]
    simp only [scrimlaw4_Table.l0, c1, if_true, e5, e6, e7]
    rw [if_pos (by rw [decide_eq_true_eq, il_length]; simp; omega)]
    exact ih (by omega) (by omega)
theorem table_eq {n : Nat} (hn : n ≤ 256) {ns : List Int} (hns : ns.length ≤ maxLen) {k : Nat} (hk : 300 + ns.length < k) : ∃ t, scrimlaw4_Table.f k (n : Int) ns = some (il t) ∧ t.length = n ∧ (∀ x ∈ t, x < 256) ∧ isP t = true := by
  obtain ⟨t, h1, h2⟩ := table_l0 hn hns n (k := k) (i := 0) (by omega) (by omega)
  exact ⟨t, h1, by rw [h2.length_eq]; simp, fun x hx => by have := h2.mem_iff.1 hx; simp at this; omega, isP_perm h2 (isP_range hn)⟩
end Go.Scr.S
