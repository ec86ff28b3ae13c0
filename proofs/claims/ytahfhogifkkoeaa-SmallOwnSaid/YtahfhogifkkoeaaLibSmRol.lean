/- The plain law of SmRol. -/
import Derived.Test.YtahfhogifkkoeaaFnSmallOwn
import Derived.Test.YtahfhogifkkoeaaLibNum
import Derived.Test.YtahfhogifkkoeaaLibIl
import Derived.Test.YtahfhogifkkoeaaLibGRest
import Derived.Test.YtahfhogifkkoeaaLibGRol
import Derived.Test.YtahfhogifkkoeaaLibSmNum
set_option linter.unusedVariables false
set_option linter.unusedSimpArgs false
set_option linter.unnecessarySimpa false
namespace Go.Scr.S
theorem rol_inv {a s : Nat} (ha : a < 4294967296) (hs : s < 32) : rolN (rolN a s) ((32 - s) % 32) = a := by
  refine Nat.eq_of_testBit_eq fun i => ?_
  rcases Nat.lt_or_ge i 32 with hi | hi
  · rw [rolN_bit (rolN_lt ha) (Nat.mod_lt _ (by decide)) hi, rolN_bit ha hs (Nat.mod_lt _ (by decide))]
    congr 1; omega
  · have e0 : ∀ y : Nat, y < 4294967296 → y.testBit i = false := fun y hy => Nat.testBit_lt_two_pow (Nat.lt_of_lt_of_le (by omega : y < 2 ^ 32) (Nat.pow_le_pow_right (by decide) hi))
    rw [e0 _ ha, e0 _ (rolN_lt (rolN_lt ha))]
theorem rol_inv' {a s : Nat} (ha : a < 4294967296) (hs : s < 32) : rolN (rolN a ((32 - s) % 32)) s = a := by
  have := rol_inv (s := (32 - s) % 32) ha (Nat.mod_lt _ (by decide))
  rw [show (32 - (32 - s) % 32) % 32 = s by omega] at this
  exact this
theorem rol_inj {a b s : Nat} (ha : a < 4294967296) (hb : b < 4294967296) (hs : s < 32) : rolN a s = rolN b s ↔ a = b :=
  ⟨fun h => by rw [← rol_inv ha hs, h, rol_inv hb hs], fun h => by rw [h]⟩
end Go.Scr.S
