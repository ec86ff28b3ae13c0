/- The plain law of BoxTab. -/
import Derived.Test.YtfffmmpibebpcaaDoorFnBoxPowers
import Derived.Test.YtfffmmpibebpcaaDoorXLaw
import Derived.Test.YtfffmmpibebpcaaDoorLibNum
import Derived.Test.YtfffmmpibebpcaaDoorLibGf
import Derived.Test.YtfffmmpibebpcaaDoorLibFieldPw0
import Derived.Test.YtfffmmpibebpcaaDoorLibFill
import Derived.Test.YtfffmmpibebpcaaDoorLibIl
import Derived.Test.YtfffmmpibebpcaaDoorLibBoxAff
import Derived.Test.YtfffmmpibebpcaaDoorLibBoxMk
set_option linter.unusedVariables false
set_option linter.unusedSimpArgs false
set_option linter.unnecessarySimpa false
namespace Go.Scr.S
def tabN (m e : Nat) (l : List Nat) (c : Nat) : List Nat := (List.range 256).map fun x => c ^^^ aff l (pl2 m 8 x e 1) 8
theorem tab_eq {m e c : Nat} {l : List Nat} (hm : Rst m) (he : e < 256) : fill 256 (mk m e l c) = il (tabN m e l c) := by
  unfold tabN il
  rw [List.map_map]
  refine List.map_congr_left fun x hx => ?_
  have hx' : x < 256 := by simpa using hx
  show mk m e l c x = _
  unfold mk
  rw [Function.comp, pl2_eq hm 8 hx' (by decide) he, one_mu m (pw_lt hm hx' e)]
theorem tab_lt {m e c : Nat} {l : List Nat} (hc : c < 256) : ∀ x ∈ tabN m e l c, x < 256 := by
  intro x hx
  unfold tabN at hx
  obtain ⟨y, _, rfl⟩ := List.mem_map.1 hx
  exact Nat.xor_lt_two_pow (n := 8) hc (aff_lt l _ 8 (by decide))
end Go.Scr.S
