/- The plain law of BoxBack. -/
import Derived.Test.YtfffmmpibebpcaaDoorFnBoxBack
import Derived.Test.YtfffmmpibebpcaaDoorXLaw
import Derived.Test.YtfffmmpibebpcaaDoorLibNum
import Derived.Test.YtfffmmpibebpcaaDoorLibIl
import Derived.Test.YtfffmmpibebpcaaDoorLibBoxKnown0
import Derived.Test.YtfffmmpibebpcaaDoorLibBoxIsL
import Derived.Test.YtfffmmpibebpcaaDoorLibPigeon
import Derived.Test.YtfffmmpibebpcaaDoorLibBoxBackL
import Derived.Test.YtfffmmpibebpcaaDoorLibBoxWithin
import Derived.Test.YtfffmmpibebpcaaDoorLibBoxTable
set_option linter.unusedVariables false
set_option linter.unusedSimpArgs false
set_option linter.unnecessarySimpa false
namespace Go.Scr.S
theorem bb_l0 {t u : List Nat} (ht : ∀ x ∈ t, x < 256) (hp : isP t = true) (hu : Undoes t u) (v : List Nat) (hv : v = t) (d : Nat) {k i : Nat} (hk : d + 700 < k) (hi : i + d = t.length) :
    scrimlaw4_BoxBack.l0 k (il u, true) (il t) (i : Int) = some true := by
  obtain ⟨hlen, _⟩ := isP_spec hp
  induction d generalizing k i with
  | zero =>
    obtain ⟨k, rfl⟩ : ∃ j, k = j + 1 := ⟨k - 1, by omega⟩
    have : i = t.length := by omega
    subst this
    obtain ⟨w, h1, h2⟩ := back_eq (l := u) (hu.lt ht hp) (hu.isP ht hp) (k := k) (by omega)
    have hw : w = t := by
      refine List.ext_getElem (by rw [h2.1, hu.1]) fun j hj1 hj2 => ?_
      have hj : j < t.length := hj2
      have hlt := isP_lt ht hp hj
      have e1 := h2.2 (t.getD j 0) (by rw [hu.1]; exact hlt)
      rw [hu.2 j hj] at e1
      rw [List.getD_eq_getElem?_getD, List.getD_eq_getElem?_getD, List.getElem?_eq_getElem hj1, List.getElem?_eq_getElem hj2] at e1
      exact e1
    have c1 : decide ((t.length : Int) < (t.length : Int)) = false := by simp
    simp only [scrimlaw4_BoxBack.l0, il_length, c1, Bool.false_eq_true, if_false, h1, Option.bind_some, if_true, hw, beq_self_eq_true]
  | succ d ih =>
    obtain ⟨k, rfl⟩ : ∃ j, k = j + 1 := ⟨k - 1, by omega⟩
    have hj : i < t.length := by omega
    have a1 := isP_lt ht hp hj
    have a2 := hu.2 i hj
    obtain ⟨a3, a4⟩ := hu.back ht hp hj
    have hul := hu.1
    have c1 : decide ((i : Int) < (t.length : Int)) = true := by rw [decide_eq_true_eq]; omega
    have c2 : decide (0 ≤ (i : Int)) = true := by rw [decide_eq_true_eq]; omega
    have c3 : decide (0 ≤ ((t.getD i 0 : Nat) : Int)) = true := by rw [decide_eq_true_eq]; omega
    have c4 : decide (((t.getD i 0 : Nat) : Int) < (t.length : Int)) = true := by rw [decide_eq_true_eq]; omega
    have c5 : decide (0 ≤ ((u.getD i 0 : Nat) : Int)) = true := by rw [decide_eq_true_eq]; omega
    have c6 : decide (((u.getD i 0 : Nat) : Int) < (t.length : Int)) = true := by rw [decide_eq_true_eq]; omega
    have c7 : decide (((u.getD i 0 : Nat) : Int) ≥ (t.length : Int)) = false := by rw [decide_eq_false_iff_not]; omega
    have e5 : I64 ((i : Int) + 1) = ((i + 1 : Nat) : Int) := by rw [I64_id (by omega) (by omega)]; simp
    have e6 : I64 (i : Int) = (i : Int) := I64_id (by omega) (by omega)
    have e7 : I64 ((u.getD i 0 : Nat) : Int) = ((u.getD i 0 : Nat) : Int) := I64_id (by omega) (by omega)
    simp only [scrimlaw4_BoxBack.l0, il_length, hul, c1, c2, if_true, il_rd', c3, c4, a2, e6, bne_self_eq_false, Bool.false_eq_true, if_false, e7, c7, Option.bind_some, c5, c6, a4, e5]
    exact ih (by omega) (by omega)
theorem BoxBack (a0 : Int) (a1 : List Int) (h0 : In .i64 a0) (h1 : a1.length ≤ maxLen) (h2 : ∀ x ∈ a1, In .i64 x) : ∃ k, scrimlaw4_BoxBack.f k a0 a1 = some true := by
  obtain ⟨n, hn, en⟩ : ∃ i : Nat, i < 257 ∧ a0 % 257 = i := ⟨(a0 % 257).toNat, by omega, by omega⟩
  obtain ⟨k, hk⟩ : ∃ k : Nat, a1.length + 2000 ≤ k := ⟨a1.length + 2000, Nat.le_refl _⟩
  refine ⟨k, ?_⟩
  have w := within4_eq (k := k) a0 257 (by decide) (by decide)
  rw [en] at w
  obtain ⟨t, e1, hl, ht, hp⟩ := table_eq (by omega : n ≤ 256) h1 (k := k) (by omega)
  obtain ⟨u, e2, hu⟩ := back_eq ht hp (k := k) (by omega)
  have c1 : (((il u).length : Int) != ((il t).length : Int)) = false := by rw [il_length, il_length, hu.1]; simp
  have hlen := (isP_spec hp).1
  have main := bb_l0 ht hp hu t rfl t.length (k := k) (i := 0) (by omega) (by omega)
  unfold scrimlaw4_BoxBack.f
  simp only [known4_eq (k := k) (by omega), Option.bind_some, Bool.not_true, Bool.false_eq_true, if_false, w, e1, e2, c1]
  exact main
end Go.Scr.S
