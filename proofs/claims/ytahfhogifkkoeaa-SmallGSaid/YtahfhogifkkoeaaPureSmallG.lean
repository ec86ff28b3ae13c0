/- The plain law of SmallG. -/
import Derived.Test.YtahfhogifkkoeaaFnSmallG
import Derived.Test.YtahfhogifkkoeaaLibNum
import Derived.Test.YtahfhogifkkoeaaLibIl
import Derived.Test.YtahfhogifkkoeaaLibGRest
import Derived.Test.YtahfhogifkkoeaaLibGRol
import Derived.Test.YtahfhogifkkoeaaLibGRRol
import Derived.Test.YtahfhogifkkoeaaLibSmNum
import Derived.Test.YtahfhogifkkoeaaLibSmRol
import Derived.Test.YtahfhogifkkoeaaLibSmG
import Derived.Test.YtahfhogifkkoeaaLibSmGR
import Derived.Test.YtahfhogifkkoeaaLibSmK
set_option linter.unusedVariables false
set_option linter.unusedSimpArgs false
set_option linter.unnecessarySimpa false
namespace Go.Scr.S
theorem SmallG (a0 : Int) (a1 : Int) (a2 : Int) (h0 : In .u32 a0) (h1 : In .u32 a1) (h2 : In .u32 a2) : ∃ k, scrimlaw8_SmallG.f k a0 a1 a2 = some true := by
  obtain ⟨x, hx, rfl⟩ := u32_of h0
  obtain ⟨y, hy, rfl⟩ := u32_of h1
  obtain ⟨z, hz, rfl⟩ := u32_of h2
  obtain ⟨k, hk⟩ : ∃ k : Nat, 600 ≤ k := ⟨600, Nat.le_refl _⟩
  refine ⟨k, ?_⟩
  have g1 := sG_eq (x := x) (y := y) (k := k) (by omega)
  have g2 := sG_eq (x := z) (y := y) (k := k) (by omega)
  have g3 := rG_eq (x := x) (y := y) (k := k) (by omega)
  have g4 := rG_eq (x := z) (y := y) (k := k) (by omega)
  have g5 := sG_eq (x := y) (y := x) (k := k) (by omega)
  rw [wa_comm y x] at g5
  have e : (decide (gN (wa x y) = gN (wa z y))) = decide (x = z) := by
    rw [decide_eq_decide, gN_inj (wa_lt x y) (wa_lt z y), wa_inj hx hz hy]
  unfold scrimlaw8_SmallG.f
  rw [known8_eq hk, Option.bind_some, if_neg (by decide), g1, Option.bind_some, g2, Option.bind_some, g3, Option.bind_some, if_pos (beq_self_eq_true _), g4, Option.bind_some, if_pos (beq_self_eq_true _), g5, Option.bind_some, if_pos (beq_self_eq_true _), beq_nat, beq_nat, e, beq_self_eq_true]
end Go.Scr.S
