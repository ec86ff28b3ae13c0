/- The plain law of TwRQ. -/
import Derived.Test.YtngagagokcnnaaaFnTwofishH
import Derived.Test.YtngagagokcnnaaaLibNum
import Derived.Test.YtngagagokcnnaaaLibTwQ
set_option linter.unusedVariables false
set_option linter.unusedSimpArgs false
set_option linter.unnecessarySimpa false
namespace Go.Scr.S
theorem rt0 (j : Nat) : (List.range 256).map (fun x : Nat => scrimref9_Q.f (j + 10) 0 (x : Int)) = q0.map (fun v : Nat => some (v : Int)) := by kernel_rfl
theorem rt1 (j : Nat) : (List.range 256).map (fun x : Nat => scrimref9_Q.f (j + 10) 1 (x : Int)) = q1.map (fun v : Nat => some (v : Int)) := by kernel_rfl
theorem rq_eq {t x k : Nat} (ht : t < 2) (hx : x < 256) (hk : 10 ≤ k) : scrimref9_Q.f k (t : Int) (x : Int) = some (((qq t).getD x 0 : Nat) : Int) := by
  obtain ⟨j, rfl⟩ : ∃ j, k = j + 10 := ⟨k - 10, by omega⟩
  have : t = 0 ∨ t = 1 := by omega
  rcases this with rfl | rfl
  · exact of_tab (q_ok 0 (by omega)).1 (rt0 j) hx
  · exact of_tab (q_ok 1 (by omega)).1 (rt1 j) hx
end Go.Scr.S
