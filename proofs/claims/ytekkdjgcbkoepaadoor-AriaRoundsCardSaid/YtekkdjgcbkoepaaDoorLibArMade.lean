/- The plain law of ArMade. -/
import Derived.Test.YtekkdjgcbkoepaaDoorFnAriaRounds
import Derived.Test.YtekkdjgcbkoepaaDoorLibNum
import Derived.Test.YtekkdjgcbkoepaaDoorLibGf
import Derived.Test.YtekkdjgcbkoepaaDoorLibFieldPw0
import Derived.Test.YtekkdjgcbkoepaaDoorLibFill
import Derived.Test.YtekkdjgcbkoepaaDoorLibIl
import Derived.Test.YtekkdjgcbkoepaaDoorLibBoxAff
import Derived.Test.YtekkdjgcbkoepaaDoorLibBoxMk
import Derived.Test.YtekkdjgcbkoepaaDoorLibBoxIsL
import Derived.Test.YtekkdjgcbkoepaaDoorLibPigeon
import Derived.Test.YtekkdjgcbkoepaaDoorLibBoxBackL
import Derived.Test.YtekkdjgcbkoepaaDoorLibArLit
set_option linter.unusedVariables false
set_option linter.unusedSimpArgs false
set_option linter.unnecessarySimpa false
namespace Go.Scr.S
def tabN (m e : Nat) (l : List Nat) (c : Nat) : List Nat := (List.range 256).map fun x => c ^^^ aff l (pl2 m 8 x e 1) 8
theorem tab_eq {m e c : Nat} {l : List Nat} (hm : Rst m) (he : e < 256) : fill 256 (mk m e l c) = il (tabN m e l c) := by
  unfold tabN il
  rw [List.map_map]
  refine List.map_congr_left fun x hx => ?_
  have hx' : x < 256 := by simpa using hx
  show mk m e l c x = _
  unfold mk
  rw [Function.comp, pl2_eq hm 8 hx' (by decide) he, one_mu m (pw_lt hm hx' e)]
theorem tS_eq : tabN 283 254 [241, 227, 199, 143, 31, 62, 124, 248] 99 = tS := by decide +kernel
theorem tT_eq : tabN 283 247 [122, 188, 235, 185, 52, 129, 186, 203] 226 = tT := by decide +kernel
theorem tS_ok : tS.length = 256 ∧ (∀ x ∈ tS, x < 256) ∧ isP tS = true := by decide +kernel
theorem tT_ok : tT.length = 256 ∧ (∀ x ∈ tT, x < 256) ∧ isP tT = true := by decide +kernel
theorem tU_ok : tU.length = 256 ∧ (∀ x ∈ tU, x < 256) ∧ ∀ i, i < 256 → tS.getD (tU.getD i 0) 0 = i ∧ tU.getD i 0 < 256 := by decide +kernel
theorem tV_ok : tV.length = 256 ∧ (∀ x ∈ tV, x < 256) ∧ ∀ i, i < 256 → tT.getD (tV.getD i 0) 0 = i ∧ tV.getD i 0 < 256 := by decide +kernel
theorem undo_eq {l u v : List Nat} (hl : l.length = 256) (hu : Undoes l u) (hv : v.length = 256) (h : ∀ i, i < 256 → l.getD (v.getD i 0) 0 = i ∧ v.getD i 0 < 256) : u = v := by
  refine List.ext_getElem (by rw [hu.1, hl, hv]) fun i h1 h2 => ?_
  obtain ⟨e, lt⟩ := h i (by omega)
  have := hu.2 (v.getD i 0) (by omega)
  rw [e] at this
  rw [List.getD_eq_getElem?_getD, List.getD_eq_getElem?_getD, List.getElem?_eq_getElem h1, List.getElem?_eq_getElem h2] at this
  exact this
theorem made_eq {k : Nat} (hk : 700 ≤ k) : aria_made.f k = some tabs := by
  have hm : Rst 283 := ⟨by decide, by decide⟩
  have p1 := make_eq (k := k) (e := 254) (c := 99) (l := [241, 227, 199, 143, 31, 62, 124, 248]) hm (by decide) (by decide) (by decide) (by omega)
  have p2 := make_eq (k := k) (e := 247) (c := 226) (l := [122, 188, 235, 185, 52, 129, 186, 203]) hm (by decide) (by decide) (by decide) (by omega)
  rw [tab_eq hm (by decide), tS_eq] at p1
  rw [tab_eq hm (by decide), tT_eq] at p2
  have q1 : box_Make.f k 254 283 [241, 227, 199, 143, 31, 62, 124, 248] 99 = some (il tS) := p1
  have q2 : box_Make.f k 247 283 [122, 188, 235, 185, 52, 129, 186, 203] 226 = some (il tT) := p2
  obtain ⟨u, b1, hu⟩ := back_eq tS_ok.2.1 tS_ok.2.2 (k := k) (by omega)
  obtain ⟨v, b2, hv⟩ := back_eq tT_ok.2.1 tT_ok.2.2 (k := k) (by omega)
  have e1 := undo_eq tS_ok.1 hu tU_ok.1 tU_ok.2.2
  have e2 := undo_eq tT_ok.1 hv tV_ok.1 tV_ok.2.2
  subst e1
  subst e2
  unfold aria_made.f
  rw [q1, Option.bind_some, q2, Option.bind_some, b1, Option.bind_some, b2, Option.bind_some]; rfl
end Go.Scr.S
