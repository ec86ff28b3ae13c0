/- The plain law of BoxBackL. -/
import Derived.Test.YtekkdjgcbkoepaaDoorFnAriaRounds
import Derived.Test.YtekkdjgcbkoepaaDoorLibNum
import Derived.Test.YtekkdjgcbkoepaaDoorLibIl
import Derived.Test.YtekkdjgcbkoepaaDoorLibBoxIsL
import Derived.Test.YtekkdjgcbkoepaaDoorLibPigeon
set_option linter.unusedVariables false
set_option linter.unusedSimpArgs false
set_option linter.unnecessarySimpa false
namespace Go.Scr.S
theorem isP_spec {l : List Nat} (h : isP l = true) : l.length ≤ 256 ∧ ∀ v, v < 256 → (v ∈ l ↔ v < l.length) := by
  unfold isP at h
  rw [Bool.and_eq_true, decide_eq_true_eq, beq_iff_eq] at h
  refine ⟨h.1, fun v hv => ?_⟩
  have := congrArg (fun x => x[v]?) h.2
  simp only [marks_at, if_pos hv, Option.some.injEq] at this
  simpa using this
theorem isP_of {l : List Nat} (h1 : l.length ≤ 256) (h2 : ∀ v, v < 256 → (v ∈ l ↔ v < l.length)) : isP l = true := by
  unfold isP
  rw [Bool.and_eq_true, decide_eq_true_eq, beq_iff_eq]
  refine ⟨h1, List.ext_getElem? fun v => ?_⟩
  rw [marks_at, marks_at]
  by_cases hv : v < 256
  · rw [if_pos hv, if_pos hv]; simp [h2 v hv]
  · rw [if_neg hv, if_neg hv]
theorem getD_mem {l : List Nat} {i : Nat} (h : i < l.length) : l.getD i 0 ∈ l := by
  rw [List.getD_eq_getElem?_getD, List.getElem?_eq_getElem h]; exact List.getElem_mem _
theorem isP_lt {l : List Nat} (hl : ∀ x ∈ l, x < 256) (h : isP l = true) {i : Nat} (hi : i < l.length) : l.getD i 0 < l.length :=
  ((isP_spec h).2 _ (hl _ (getD_mem hi))).1 (getD_mem hi)
theorem isP_inj {l : List Nat} (h : isP l = true) {i j : Nat} (hi : i < l.length) (hj : j < l.length) (e : l.getD i 0 = l.getD j 0) : i = j := by
  obtain ⟨h1, h2⟩ := isP_spec h
  exact inj_of_all rfl (fun v hv => (h2 v (by omega)).2 hv) hi hj e
theorem isP_at {l : List Nat} (h : isP l = true) {v : Nat} (hv : v < l.length) : ∃ i, i < l.length ∧ l.getD i 0 = v := by
  obtain ⟨h1, h2⟩ := isP_spec h
  obtain ⟨i, hi, e⟩ := List.mem_iff_getElem.1 ((h2 v (by omega)).2 hv)
  exact ⟨i, hi, by rw [List.getD_eq_getElem?_getD, List.getElem?_eq_getElem hi]; exact e⟩
/-- It undoes the table. -/
def Undoes (l u : List Nat) : Prop := u.length = l.length ∧ ∀ i, i < l.length → u.getD (l.getD i 0) 0 = i
theorem back_l0 {l : List Nat} (hl : ∀ x ∈ l, x < 256) (h : isP l = true) (d : Nat) {k i : Nat} {x : List Nat} (hk : d < k) (hi : i + d = l.length) (hx : x.length = l.length) (hu : ∀ j, j < i → x.getD (l.getD j 0) 0 = j) :
    ∃ u, box_Back.l0 k (il l) (il x) (i : Int) = some (il u, true) ∧ Undoes l u := by
  obtain ⟨hlen, _⟩ := isP_spec h
  induction d generalizing k i x with
  | zero =>
    obtain ⟨k, rfl⟩ : ∃ j, k = j + 1 := ⟨k - 1, by omega⟩
    have e : i = l.length := by omega
    refine ⟨x, ?_, hx, fun j hj => hu j (by omega)⟩
    simp only [box_Back.l0, il_length]
    rw [if_neg (by rw [decide_eq_true_eq]; omega)]
  | succ d ih =>
    obtain ⟨k, rfl⟩ : ∃ j, k = j + 1 := ⟨k - 1, by omega⟩
    have hv := isP_lt hl h (by omega : i < l.length)
    have c1 : decide ((i : Int) < (l.length : Int)) = true := by rw [decide_eq_true_eq]; omega
    have c2 : decide (0 ≤ (i : Int)) = true := by rw [decide_eq_true_eq]; omega
    have c3 : decide (0 ≤ ((l.getD i 0 : Nat) : Int)) = true := by rw [decide_eq_true_eq]; omega
    have c4 : decide (((l.getD i 0 : Nat) : Int) < (l.length : Int)) = true := by rw [decide_eq_true_eq]; omega
    have e5 : I64 ((i : Int) + 1) = ((i + 1 : Nat) : Int) := by rw [I64_id (by omega) (by omega)]; simp
    have e6 : U8 (i : Int) = (i : Int) := U8_id (by omega) (by omega)
    simp only [box_Back.l0, il_length, c1, c2, if_true, il_rd', c3, c4, Int.toNat_natCast, e5, e6, il_set]
    refine ih (by omega) (by omega) (by rw [List.length_set]; exact hx) fun j hj => ?_
    rw [List.getD_eq_getElem?_getD, List.getElem?_set]
    by_cases e : l.getD i 0 = l.getD j 0
    · have := isP_inj h (by omega) (by omega) e
      subst this
      rw [if_pos rfl, if_pos (by omega)]; rfl
    · rw [if_neg e, ← List.getD_eq_getElem?_getD]
      refine hu j ?_
      rcases Nat.lt_or_ge j i with h' | h'
      · exact h'
      · have : j = i := by omega
        subst this; exact absurd rfl e
theorem back_eq {l : List Nat} (hl : ∀ x ∈ l, x < 256) (h : isP l = true) {k : Nat} (hk : 600 ≤ k) : ∃ u, box_Back.f k (il l) = some (il u, true) ∧ Undoes l u := by
  obtain ⟨hlen, _⟩ := isP_spec h
  obtain ⟨u, h1, h2⟩ := back_l0 hl h l.length (k := k) (i := 0) (x := List.replicate l.length 0) (by omega) (by omega) (by rw [List.length_replicate]) (fun j hj => absurd hj (Nat.not_lt_zero j))
  refine ⟨u, ?_, h2⟩
  unfold box_Back.f
  rw [is_eq hl hk, h]
  simp only [Option.bind_some, Bool.not_true, Bool.false_eq_true, if_false, il_length, Int.toNat_natCast]
  rw [if_pos (by rw [decide_eq_true_eq]; omega), if_pos (by rw [decide_eq_true_eq]; omega), il_replicate]
  exact h1
theorem Undoes.back {l u : List Nat} (hl : ∀ x ∈ l, x < 256) (h : isP l = true) (hu : Undoes l u) {v : Nat} (hv : v < l.length) : u.getD v 0 < l.length ∧ l.getD (u.getD v 0) 0 = v := by
  obtain ⟨i, hi, e⟩ := isP_at h hv
  have := hu.2 i hi
  rw [e] at this
  rw [this]; exact ⟨hi, e⟩
theorem Undoes.lt {l u : List Nat} (hl : ∀ x ∈ l, x < 256) (h : isP l = true) (hu : Undoes l u) : ∀ x ∈ u, x < 256 := by
  intro x hx
  obtain ⟨i, hi, e⟩ := List.mem_iff_getElem.1 hx
  have h1 := (hu.back hl h (v := i) (by rw [← hu.1]; exact hi)).1
  rw [List.getD_eq_getElem?_getD, List.getElem?_eq_getElem hi] at h1
  have h2 : x < l.length := by rw [← e]; exact h1
  have := (isP_spec h).1
  omega
theorem Undoes.isP {l u : List Nat} (hl : ∀ x ∈ l, x < 256) (h : isP l = true) (hu : Undoes l u) : isP u = true := by
  have h1 := (isP_spec h).1
  refine isP_of (by rw [hu.1]; exact h1) fun v hv => ?_
  rw [hu.1]
  constructor
  · intro hm
    obtain ⟨i, hi, e⟩ := List.mem_iff_getElem.1 hm
    have h2 := (hu.back hl h (v := i) (by rw [← hu.1]; exact hi)).1
    rw [List.getD_eq_getElem?_getD, List.getElem?_eq_getElem hi] at h2
    have h3 : v < l.length := by rw [← e]; exact h2
    exact h3
  · intro hv'
    have h2 := hu.2 v hv'
    have h3 := isP_lt hl h hv'
    rw [← h2]
    exact getD_mem (by rw [hu.1]; exact h3)
end Go.Scr.S
