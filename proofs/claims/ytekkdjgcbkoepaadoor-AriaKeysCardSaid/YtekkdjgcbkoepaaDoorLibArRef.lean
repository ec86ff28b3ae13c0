/- The plain law of ArRef. -/
import Derived.Test.YtekkdjgcbkoepaaDoorFnAriaKeys
import Derived.Test.YtekkdjgcbkoepaaDoorLibNum
import Derived.Test.YtekkdjgcbkoepaaDoorLibGf
import Derived.Test.YtekkdjgcbkoepaaDoorLibFieldPw0
import Derived.Test.YtekkdjgcbkoepaaDoorLibFieldRefMul
import Derived.Test.YtekkdjgcbkoepaaDoorLibFieldRefPw
import Derived.Test.YtekkdjgcbkoepaaDoorLibFill
import Derived.Test.YtekkdjgcbkoepaaDoorLibIl
import Derived.Test.YtekkdjgcbkoepaaDoorLibBoxAff
import Derived.Test.YtekkdjgcbkoepaaDoorLibBoxMk
import Derived.Test.YtekkdjgcbkoepaaDoorLibBoxRefAff
import Derived.Test.YtekkdjgcbkoepaaDoorLibBoxRMake
import Derived.Test.YtekkdjgcbkoepaaDoorLibBoxIsL
import Derived.Test.YtekkdjgcbkoepaaDoorLibPigeon
import Derived.Test.YtekkdjgcbkoepaaDoorLibBoxBackL
import Derived.Test.YtekkdjgcbkoepaaDoorLibArLit
import Derived.Test.YtekkdjgcbkoepaaDoorLibArMade
set_option linter.unusedVariables false
set_option linter.unusedSimpArgs false
set_option linter.unnecessarySimpa false
namespace Go.Scr.S
theorem rbackS {k : Nat} (hk : 600 ≤ k) : scrimref4_Back.f k (il tS) = some (il tU, true) := by
  obtain ⟨j, rfl⟩ : ∃ j, k = j + 600 := ⟨k - 600, by omega⟩
  kernel_rfl
theorem rbackT {k : Nat} (hk : 600 ≤ k) : scrimref4_Back.f k (il tT) = some (il tV, true) := by
  obtain ⟨j, rfl⟩ : ∃ j, k = j + 600 := ⟨k - 600, by omega⟩
  kernel_rfl
theorem rboxes {k : Nat} (hk : 700 ≤ k) : scrimref10_boxes.f k = some (some tabs) := by
  have hm : Rst 283 := ⟨by decide, by decide⟩
  have p1 := rmake_eq (k := k) (e := 254) (c := 99) (l := [241, 227, 199, 143, 31, 62, 124, 248]) hm (by decide) (by decide) (by decide) (by omega)
  have p2 := rmake_eq (k := k) (e := 247) (c := 226) (l := [122, 188, 235, 185, 52, 129, 186, 203]) hm (by decide) (by decide) (by decide) (by omega)
  rw [tab_eq hm (by decide), tS_eq] at p1
  rw [tab_eq hm (by decide), tT_eq] at p2
  have q1 : scrimref4_Make.f k 254 283 [241, 227, 199, 143, 31, 62, 124, 248] 99 = some (il tS) := p1
  have q2 : scrimref4_Make.f k 247 283 [122, 188, 235, 185, 52, 129, 186, 203] 226 = some (il tT) := p2
  unfold scrimref10_boxes.f
  rw [q1, Option.bind_some, q2, Option.bind_some, rbackS (by omega), Option.bind_some, rbackT (by omega), Option.bind_some]; rfl
end Go.Scr.S
