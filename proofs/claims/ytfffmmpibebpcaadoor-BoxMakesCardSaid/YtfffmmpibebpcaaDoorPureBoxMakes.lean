/- The plain law of BoxMakes. -/
import Derived.Test.YtfffmmpibebpcaaDoorFnBoxMakes
import Derived.Test.YtfffmmpibebpcaaDoorXLaw
import Derived.Test.YtfffmmpibebpcaaDoorLibNum
import Derived.Test.YtfffmmpibebpcaaDoorLibGf
import Derived.Test.YtfffmmpibebpcaaDoorLibFieldPw
import Derived.Test.YtfffmmpibebpcaaDoorLibFieldMod
import Derived.Test.YtfffmmpibebpcaaDoorLibFieldRefMul
import Derived.Test.YtfffmmpibebpcaaDoorLibFieldRefPw
import Derived.Test.YtfffmmpibebpcaaDoorLibFill
import Derived.Test.YtfffmmpibebpcaaDoorLibIl
import Derived.Test.YtfffmmpibebpcaaDoorLibBoxKnown0
import Derived.Test.YtfffmmpibebpcaaDoorLibBoxRows
import Derived.Test.YtfffmmpibebpcaaDoorLibBoxAff
import Derived.Test.YtfffmmpibebpcaaDoorLibBoxRefAff
set_option linter.unusedVariables false
set_option linter.unusedSimpArgs false
set_option linter.unnecessarySimpa false
namespace Go.Scr.S
theorem within4_eq {k : Nat} (a n : Int) (h : 0 < n) (h1 : n < 9223372036854775808) : scrimlaw4_within.f k a n = some (a % n) := by
  unfold scrimlaw4_within.f
  have e := tmod_fix a n h
  have := Int.emod_lt_of_pos a h
  have := Int.emod_nonneg a (Int.ne_of_gt h)
  rw [if_neg (by simp; omega)]
  by_cases c : a.tmod n < 0
  · rw [if_pos c] at e
    rw [if_pos (by simp; omega), I64_id (by omega) (by omega), e]
  · rw [if_neg c] at e
    rw [if_neg (by simp; omega), e]
def mk (m e : Nat) (l : List Nat) (c x : Nat) : Int := ((c ^^^ aff l (pw m x e) 8 : Nat) : Int)
theorem make_l0 {m e c : Nat} {l : List Nat} (hm : Rst m) (he : e < 2 ^ 62) (hl : ∀ x ∈ l, x < 256) (hc : c < 256) (d : Nat) {k i : Nat} {x : List Int} (hk : d + 100 < k) (hi : i + d = 256) (hx : Fl (mk m e l c) 256 i x) :
    box_Make.l0 k (e : Int) (m : Int) (il l) (c : Int) x (i : Int) = some (fill 256 (mk m e l c)) := by
  induction d generalizing k i x with
  | zero =>
    obtain ⟨k, rfl⟩ : ∃ j, k = j + 1 := ⟨k - 1, by omega⟩
    have : i = 256 := by omega
    subst this
    simp only [box_Make.l0]
    rw [if_neg (by decide), hx.done]
  | succ d ih =>
    obtain ⟨k, rfl⟩ : ∃ j, k = j + 1 := ⟨k - 1, by omega⟩
    have e1 : U8 (i : Int) = (i : Int) := U8_id (by omega) (by omega)
    have e5 : I64 ((i : Int) + 1) = ((i + 1 : Nat) : Int) := by rw [I64_id (by omega) (by omega)]; simp
    have c1 : decide ((i : Int) < 256) = true := by rw [decide_eq_true_eq]; omega
    have c2 : decide (0 ≤ (i : Int)) = true := by rw [decide_eq_true_eq]; omega
    have f1 := fp_eq hm (k := k) (a := i) (n := e) (by omega) (by omega) he
    have f2 := baff_eq hl (pw_lt hm (by omega : i < 256) e) hc (k := k) (by omega)
    simp only [box_Make.l0, c1, c2, if_true, e1, f1, f2, Option.bind_some, e5, Int.toNat_natCast]
    exact ih (by omega) (by omega) (hx.set (by omega) rfl)
theorem make_eq {m e c k : Nat} {l : List Nat} (hm : Rst m) (he : e < 2 ^ 62) (hl : ∀ x ∈ l, x < 256) (hc : c < 256) (hk : 400 ≤ k) : box_Make.f k (e : Int) (m : Int) (il l) (c : Int) = some (fill 256 (mk m e l c)) :=
  make_l0 hm he hl hc 256 (i := 0) (by omega) (by omega) (Fl.zero (by rw [List.length_replicate]))
theorem rmake_l0 {m e c : Nat} {l : List Nat} (hm : Rst m) (he : e < 2 ^ 62) (hl : ∀ x ∈ l, x < 256) (hc : c < 256) (d : Nat) {k i : Nat} {x : List Int} (hk : d + 100 < k) (hi : i + d = 256) (hx : Fl (mk m e l c) 256 i x) :
    scrimref4_Make.l0 k (e : Int) (m : Int) (il l) (c : Int) x (i : Int) = some (fill 256 (mk m e l c)) := by
  induction d generalizing k i x with
  | zero =>
    obtain ⟨k, rfl⟩ : ∃ j, k = j + 1 := ⟨k - 1, by omega⟩
    have : i = 256 := by omega
    subst this
    simp only [scrimref4_Make.l0]
    rw [if_neg (by decide), hx.done]
  | succ d ih =>
    obtain ⟨k, rfl⟩ : ∃ j, k = j + 1 := ⟨k - 1, by omega⟩
    have e1 : U8 (i : Int) = (i : Int) := U8_id (by omega) (by omega)
    have e5 : I64 ((i : Int) + 1) = ((i + 1 : Nat) : Int) := by rw [I64_id (by omega) (by omega)]; simp
    have c1 : decide ((i : Int) < 256) = true := by rw [decide_eq_true_eq]; omega
    have c2 : decide (0 ≤ (i : Int)) = true := by rw [decide_eq_true_eq]; omega
    have f1 := rp_eq hm (k := k) (a := i) (n := e) (by omega) (by omega) he
    have f2 := raff_eq hl (pw_lt hm (by omega : i < 256) e) hc (k := k) (by omega)
    simp only [scrimref4_Make.l0, c1, c2, if_true, e1, f1, f2, Option.bind_some, e5, Int.toNat_natCast]
    exact ih (by omega) (by omega) (hx.set (by omega) rfl)
theorem rmake_eq {m e c k : Nat} {l : List Nat} (hm : Rst m) (he : e < 2 ^ 62) (hl : ∀ x ∈ l, x < 256) (hc : c < 256) (hk : 400 ≤ k) : scrimref4_Make.f k (e : Int) (m : Int) (il l) (c : Int) = some (fill 256 (mk m e l c)) :=
  rmake_l0 hm he hl hc 256 (i := 0) (by omega) (by omega) (Fl.zero (by rw [List.length_replicate]))
theorem BoxMakes (a0 : Int) (a1 : Int) (a2 : List Int) (a3 : Int) (h0 : In .i64 a0) (h1 : In .i64 a1) (h2 : a2.length ≤ maxLen) (h3 : ∀ x ∈ a2, In .u8 x) (h4 : In .u8 a3) : ∃ k, scrimlaw4_BoxMakes.f k a0 a1 a2 a3 = some true := by
  obtain ⟨b, rfl, hb⟩ := il_of h3
  obtain ⟨c, hc, rfl⟩ := u8_of h4
  obtain ⟨e, he, ee⟩ : ∃ i : Nat, i < 1001 ∧ a0 % 1001 = i := ⟨(a0 % 1001).toNat, by omega, by omega⟩
  obtain ⟨k, hk⟩ : ∃ k : Nat, 700 ≤ k := ⟨700, Nat.le_refl _⟩
  refine ⟨k, ?_⟩
  have w1 := within4_eq (k := k) a0 1001 (by decide) (by decide)
  have w2 := within4_eq (k := k) a1 256 (by decide) (by decide)
  have w3 := within4_eq (k := k) a1 2 (by decide) (by decide)
  rw [ee] at w1
  obtain ⟨l, e1, hn, hl⟩ := rows_eq hb (k := k) (by omega)
  obtain ⟨m1, hf1, hz1⟩ := fmod_eq (I64 (Int.tdiv a1 2))
  obtain ⟨m2, hm2, hz2⟩ := rest_eq a1
  have p1 := make_eq hf1.rst (by omega : e < 2 ^ 62) hl hc (k := k) (by omega)
  have p2 := rmake_eq hf1.rst (by omega : e < 2 ^ 62) hl hc (k := k) (by omega)
  have p3 := make_eq hm2 (by omega : e < 2 ^ 62) hl hc (k := k) (by omega)
  have p4 := rmake_eq hm2 (by omega : e < 2 ^ 62) hl hc (k := k) (by omega)
  unfold scrimlaw4_BoxMakes.f
  simp only [known4_eq (k := k) (by omega), Option.bind_some, Bool.not_true, Bool.false_eq_true, if_false, w1, w2, w3, hz1, hz2, e1, p1, p2, p3, p4, beq_self_eq_true, ite_self]
end Go.Scr.S
