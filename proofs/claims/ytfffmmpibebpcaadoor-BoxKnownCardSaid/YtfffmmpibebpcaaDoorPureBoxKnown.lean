/- The plain law of BoxKnown. -/
import Derived.Test.YtfffmmpibebpcaaDoorFnBoxKnown
import Derived.Test.YtfffmmpibebpcaaDoorXLaw
import Derived.Test.YtfffmmpibebpcaaDoorLibNum
import Derived.Test.YtfffmmpibebpcaaDoorLibGf
import Derived.Test.YtfffmmpibebpcaaDoorLibFieldPw0
import Derived.Test.YtfffmmpibebpcaaDoorLibFill
import Derived.Test.YtfffmmpibebpcaaDoorLibIl
import Derived.Test.YtfffmmpibebpcaaDoorLibBoxKnown0
import Derived.Test.YtfffmmpibebpcaaDoorLibBoxAff
import Derived.Test.YtfffmmpibebpcaaDoorLibBoxWithin
import Derived.Test.YtfffmmpibebpcaaDoorLibBoxMk
import Derived.Test.YtfffmmpibebpcaaDoorLibBoxIsL
set_option linter.unusedVariables false
set_option linter.unusedSimpArgs false
set_option linter.unnecessarySimpa false
namespace Go.Scr.S
def tabN (m e : Nat) (l : List Nat) (c : Nat) : List Nat := (List.range 256).map fun x => c ^^^ aff l (pl2 m 8 x e 1) 8
theorem tab_eq {m e c : Nat} {l : List Nat} (hm : Rst m) (he : e < 256) : fill 256 (mk m e l c) = il (tabN m e l c) := by
  unfold tabN il
  rw [List.map_map]
  refine List.map_congr_left fun x hx => ?_
  have hx' : x < 256 := by simpa using hx
  show mk m e l c x = _
  unfold mk
  rw [Function.comp, pl2_eq hm 8 hx' (by decide) he, one_mu m (pw_lt hm hx' e)]
theorem tab_lt {m e c : Nat} {l : List Nat} (hc : c < 256) : ∀ x ∈ tabN m e l c, x < 256 := by
  intro x hx
  unfold tabN at hx
  obtain ⟨y, _, rfl⟩ := List.mem_map.1 hx
  exact Nat.xor_lt_two_pow (n := 8) hc (aff_lt l _ 8 (by decide))
theorem BoxKnown (a0 : Int) (h0 : In .i64 a0) : ∃ k, scrimlaw4_BoxKnown.f k a0 = some true := by
  obtain ⟨k, hk⟩ : ∃ k : Nat, 700 ≤ k := ⟨700, Nat.le_refl _⟩
  refine ⟨k, ?_⟩
  obtain ⟨r, hr, er⟩ : ∃ i : Nat, i < 6 ∧ a0 % 6 = i := ⟨(a0 % 6).toNat, by omega, by omega⟩
  have w1 := within4_eq (k := k) a0 6 (by decide) (by decide)
  rw [er] at w1
  have hm : Rst 283 := ⟨by decide, by decide⟩
  obtain ⟨S, eS⟩ : ∃ S, S = tabN 283 254 [241, 227, 199, 143, 31, 62, 124, 248] 99 := ⟨_, rfl⟩
  obtain ⟨T, eT⟩ : ∃ T, T = tabN 283 247 [122, 188, 235, 185, 52, 129, 186, 203] 226 := ⟨_, rfl⟩
  have p1 := make_eq (k := k) (e := 254) (c := 99) (l := [241, 227, 199, 143, 31, 62, 124, 248]) hm (by decide) (by decide) (by decide) (by omega)
  have p2 := make_eq (k := k) (e := 247) (c := 226) (l := [122, 188, 235, 185, 52, 129, 186, 203]) hm (by decide) (by decide) (by decide) (by omega)
  rw [tab_eq hm (by decide), ← eS] at p1
  rw [tab_eq hm (by decide), ← eT] at p2
  have q1 : box_Make.f k 254 283 [241, 227, 199, 143, 31, 62, 124, 248] 99 = some (il S) := p1
  have q2 : box_Make.f k 247 283 [122, 188, 235, 185, 52, 129, 186, 203] 226 = some (il T) := p2
  have s1 := is_eq (l := S) (by rw [eS]; exact tab_lt (by decide)) (k := k) (by omega)
  have s2 := is_eq (l := T) (by rw [eT]; exact tab_lt (by decide)) (k := k) (by omega)
  have d1 : isP S = true := by rw [eS]; decide +kernel
  have d2 : isP T = true := by rw [eT]; decide +kernel
  have l1 : S.length = 256 := by rw [eS]; simp [tabN]
  have l2 : T.length = 256 := by rw [eT]; simp [tabN]
  have v1 : rd (il S) 0 = 99 := by rw [eS]; decide +kernel
  have v2 : rd (il S) 1 = 124 := by rw [eS]; decide +kernel
  have v3 : rd (il T) 0 = 226 := by rw [eT]; decide +kernel
  have v4 : rd (il T) 1 = 78 := by rw [eT]; decide +kernel
  rw [d1] at s1
  rw [d2] at s2
  have c0 : (((256 : Nat) : Int) != 256) = false := by decide
  have c1 : decide ((0 : Int) < ((256 : Nat) : Int)) = true := by decide
  have c2 : decide ((1 : Int) < ((256 : Nat) : Int)) = true := by decide
  have c3 : decide (0 ≤ (r : Int)) = true := by rw [decide_eq_true_eq]; omega
  have c4 : decide ((r : Int) < 6) = true := by rw [decide_eq_true_eq]; omega
  clear eS eT p1 p2
  unfold scrimlaw4_BoxKnown.f
  simp only [known4_eq (k := k) (by omega), Option.bind_some, Bool.not_true, Bool.false_eq_true, if_false, q1, q2, il_length, l1, l2, c0, c1, c2, if_true, s1, s2, w1, c3, c4, v1, v2, v3, v4, beq_self_eq_true]
  rcases (by omega : r = 0 ∨ r = 1 ∨ r = 2 ∨ r = 3 ∨ r = 4 ∨ r = 5) with h | h | h | h | h | h <;> subst h <;> rfl
end Go.Scr.S
