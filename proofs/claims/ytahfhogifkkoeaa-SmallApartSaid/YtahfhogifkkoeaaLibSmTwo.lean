/- The plain law of SmTwo. -/
import Derived.Test.YtahfhogifkkoeaaFnSmallApart
import Derived.Test.YtahfhogifkkoeaaLibNum
import Derived.Test.YtahfhogifkkoeaaLibIl
import Derived.Test.YtahfhogifkkoeaaLibGRest
import Derived.Test.YtahfhogifkkoeaaLibGRol
import Derived.Test.YtahfhogifkkoeaaLibGRRol
import Derived.Test.YtahfhogifkkoeaaLibSmNum
import Derived.Test.YtahfhogifkkoeaaLibSmRol
import Derived.Test.YtahfhogifkkoeaaLibSmG
import Derived.Test.YtahfhogifkkoeaaLibSmGR
import Derived.Test.YtahfhogifkkoeaaLibGLoad
import Derived.Test.YtahfhogifkkoeaaLibFill
import Derived.Test.YtahfhogifkkoeaaLibGIl
import Derived.Test.YtahfhogifkkoeaaLibGStore
import Derived.Test.YtahfhogifkkoeaaLibSmWords
import Derived.Test.YtahfhogifkkoeaaLibSmX
import Derived.Test.YtahfhogifkkoeaaLibSmM
import Derived.Test.YtahfhogifkkoeaaLibSmR5
import Derived.Test.YtahfhogifkkoeaaLibSmRefN
import Derived.Test.YtahfhogifkkoeaaLibSmRefB
import Derived.Test.YtahfhogifkkoeaaLibSmTags
set_option linter.unusedVariables false
set_option linter.unusedSimpArgs false
set_option linter.unnecessarySimpa false
namespace Go.Scr.S
/-- The cipher, the document's cipher: the same blocks. -/
theorem new_two {j : Nat} (hj : j < 3) {m : List Nat} (h : m.length = sz j) (hm : ∀ x ∈ m, x < 256) : ∃ S R, (∀ k, 200 ≤ k → small_New.f k (tagN j : Int) (il m) = some (some S, 0)) ∧ (∀ k, 200 ≤ k → scrimref8_New.f k (tagN j : Int) (il m) = some (some R, 0)) ∧
    ∀ k, 200 ≤ k → ∀ (dir : Bool) (n : List Nat), n.length = 8 → (∀ x ∈ n, x < 256) → ∃ o : List Nat, o.length = 8 ∧ small_Small_Block.f k S (il n) dir = some (il o, 0) ∧ scrimref8_Small_Block.f k R (il n) dir = some (il o, 0) := by
  have oB : ∀ p, (outB p).length = 8 := fun p => by unfold outB; rw [dig4, dig4]; rfl
  have oL : ∀ p, (outL p).length = 8 := fun p => by unfold outL digR; rw [dig4, dig4]; rfl
  match j, hj, h with
  | 0, _, h => exact ⟨_, _, fun k hk => new4 h hm (by omega), fun k hk => rnew4 h hm hk, fun k hk dir n hn hnb => ⟨_, oB _, block4 (W_length false 4 m h) hn hnb dir (by omega), rblock4 (W_length false 4 m h) hn hnb dir hk⟩⟩
  | 1, _, h => exact ⟨_, _, fun k hk => new5 h hm (by omega), fun k hk => rnew5 h hm hk, fun k hk dir n hn hnb => ⟨_, oB _, block5 (W_length false 8 m h) hn hnb dir (by omega), rblock5 (W_length false 8 m h) hn hnb dir hk⟩⟩
  | 2, _, h => exact ⟨_, _, fun k hk => new8 h hm hk, fun k hk => rnew8 h hm hk, fun k hk dir n hn hnb => ⟨_, oL _, block8 (s5_length _) (s5_lt _) hn hnb dir (by omega), rblock8 (s5_length _) (s5_lt _) hn hnb dir hk⟩⟩
theorem pass0 {α : Type} (x : α) (e : Int) (f : α → Option Bool) (g : Option Bool) : (if ((some x, e) : Option α × Int).1.isSome = true then ((some x, e) : Option α × Int).1.bind f else g) = f x := rfl
end Go.Scr.S
