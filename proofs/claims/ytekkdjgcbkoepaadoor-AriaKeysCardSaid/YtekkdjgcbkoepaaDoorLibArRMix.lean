/- The plain law of ArRMix. -/
import Derived.Test.YtekkdjgcbkoepaaDoorFnAriaKeys
import Derived.Test.YtekkdjgcbkoepaaDoorLibNum
import Derived.Test.YtekkdjgcbkoepaaDoorLibIl
import Derived.Test.YtekkdjgcbkoepaaDoorLibArMix
set_option linter.unusedVariables false
set_option linter.unusedSimpArgs false
set_option linter.unnecessarySimpa false
namespace Go.Scr.S
theorem rmix_k {k : Nat} (hk : 300 ≤ k) (x0 x1 x2 x3 x4 x5 x6 x7 x8 x9 x10 x11 x12 x13 x14 x15 : Int) : scrimref10_mix.f k [x0, x1, x2, x3, x4, x5, x6, x7, x8, x9, x10, x11, x12, x13, x14, x15] = some (mixI [x0, x1, x2, x3, x4, x5, x6, x7, x8, x9, x10, x11, x12, x13, x14, x15]) := by
  obtain ⟨j, rfl⟩ : ∃ j, k = j + 300 := ⟨k - 300, by omega⟩
  kernel_rfl
theorem rmix_eq {m : List Nat} (h : m.length = 16) (hm : ∀ x ∈ m, x < 256) {k : Nat} (hk : 300 ≤ k) : scrimref10_mix.f k (il m) = some (il (mixN m)) := by
  rw [← mixI_il hm]
  obtain ⟨x0, x1, x2, x3, x4, x5, x6, x7, x8, x9, x10, x11, x12, x13, x14, x15, rfl⟩ := sixteen h
  exact rmix_k hk x0 x1 x2 x3 x4 x5 x6 x7 x8 x9 x10 x11 x12 x13 x14 x15
end Go.Scr.S
