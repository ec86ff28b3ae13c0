/- The plain law of ArK. -/
import Derived.Test.YtekkdjgcbkoepaaDoorFnAriaRounds
import Derived.Test.YtekkdjgcbkoepaaDoorLibNum
import Derived.Test.YtekkdjgcbkoepaaDoorLibGf
import Derived.Test.YtekkdjgcbkoepaaDoorLibFieldPw0
import Derived.Test.YtekkdjgcbkoepaaDoorLibFill
import Derived.Test.YtekkdjgcbkoepaaDoorLibIl
import Derived.Test.YtekkdjgcbkoepaaDoorLibBoxAff
import Derived.Test.YtekkdjgcbkoepaaDoorLibBoxMk
import Derived.Test.YtekkdjgcbkoepaaDoorLibBoxIsL
import Derived.Test.YtekkdjgcbkoepaaDoorLibPigeon
import Derived.Test.YtekkdjgcbkoepaaDoorLibBoxBackL
import Derived.Test.YtekkdjgcbkoepaaDoorLibArLit
import Derived.Test.YtekkdjgcbkoepaaDoorLibArMade
import Derived.Test.YtekkdjgcbkoepaaDoorLibArKeys0
import Derived.Test.YtekkdjgcbkoepaaDoorLibArBlk0
set_option linter.unusedVariables false
set_option linter.unusedSimpArgs false
set_option linter.unnecessarySimpa false
namespace Go.Scr.S
theorem fits0 {k : Nat} : aria_fits.f k [] = some false := rfl
theorem fits16 {k : Nat} {l : List Int} (h : l.length = 16) : aria_fits.f k l = some true := by
  unfold aria_fits.f
  rw [h, if_pos (by decide), if_pos (by decide)]; rfl
theorem new_nil {k : Nat} : aria_New.f k [] = some (none, 4) := by
  unfold aria_New.f
  rw [fits0, Option.bind_some, if_pos (by decide)]
theorem new_zero {k : Nat} (hk : 700 ≤ k) : aria_New.f k zero16 = some (some (tabs, keys0), 0) := by
  unfold aria_New.f
  rw [fits16 rfl, Option.bind_some, if_neg (by decide), made_eq hk, Option.bind_some, keys0_eq (by omega), Option.bind_some]
theorem known10_eq {k : Nat} (hk : 700 ≤ k) : scrimlaw10_known.f k = some true := by
  have e1 : (((strOf enc0).toList == (strOf zero16).toList) : Bool) = false := by decide +kernel
  have z : List.replicate 16 (0 : Int) = zero16 := rfl
  unfold scrimlaw10_known.f
  rw [new_nil, Option.bind_some, z, new_zero hk, Option.bind_some]
  show (aria_Aria_Block.f k (tabs, keys0) zero16 false).bind _ = _
  rw [enc0_eq (by omega), Option.bind_some, dec0_eq (by omega), Option.bind_some]
  show (if (!((strOf enc0).toList == (strOf zero16).toList)) = true then some ((strOf zero16).toList == (strOf zero16).toList) else some false) = some true
  rw [e1, if_pos (by decide), beq_self_eq_true]
end Go.Scr.S
