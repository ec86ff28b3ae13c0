/- The plain law of SmBig. -/
import Derived.Test.YtahfhogifkkoeaaFnSmallMagma
import Derived.Test.YtahfhogifkkoeaaLibNum
import Derived.Test.YtahfhogifkkoeaaLibIl
import Derived.Test.YtahfhogifkkoeaaLibGLoad
import Derived.Test.YtahfhogifkkoeaaLibFill
import Derived.Test.YtahfhogifkkoeaaLibGIl
import Derived.Test.YtahfhogifkkoeaaLibGStore
import Derived.Test.YtahfhogifkkoeaaLibSmNum
import Derived.Test.YtahfhogifkkoeaaLibSmWords
set_option linter.unusedVariables false
set_option linter.unusedSimpArgs false
set_option linter.unnecessarySimpa false
namespace Go.Scr.S
theorem rbig_l0 : ∀ (k : Nat) (l : List Int) (v i : Int), scrimref1_Big.l0 k l v i = words_load.l0 k l v i
  | 0, _, _, _ => rfl
  | k + 1, l, v, i => by simp only [scrimref1_Big.l0, words_load.l0, rbig_l0 k]
theorem rbig_eq {l : List Nat} {k : Nat} (hl : ∀ x ∈ l, x < 256) (h8 : l.length ≤ 8) (hk : 8 < k) : scrimref1_Big.f k (il l) = some ((bigN l : Nat) : Int) := by
  unfold scrimref1_Big.f; rw [rbig_l0]; exact load_eq hl h8 hk
theorem rput_eq {v k : Nat} : scrimref1_PutBe32.f k (v : Int) = some (il (dig v 4)) := by
  unfold scrimref1_PutBe32.f
  rw [shr_nat, shr_nat, shr_nat, U8_nat, U8_nat, U8_nat, U8_nat, dig4]; rfl
theorem W_at : ∀ (n : Nat) (l : List Nat) (j : Nat), l.length = 4 * n → j < n → bigN ((l.take (4 * j + 4)).drop (4 * j)) = (W false l).getD j 0
  | 0, _, _, _, h => by omega
  | n + 1, l, j, h, hj => by
    obtain ⟨x, y, z, w, r, rfl, hr⟩ := four h
    match j with
    | 0 => simp [W]
    | j + 1 =>
      have ih := W_at n r j hr (by omega)
      have e1 : (W false (x :: y :: z :: w :: r)).getD (j + 1) 0 = (W false r).getD j 0 := by rw [W]; rfl
      have e2 : (x :: y :: z :: w :: r).drop (4 * (j + 1)) = r.drop (4 * j) := by
        rw [show 4 * (j + 1) = 4 + 4 * j by omega, ← List.drop_drop]; rfl
      rw [e1, ← ih, List.drop_take, List.drop_take, e2, show 4 * (j + 1) + 4 - 4 * (j + 1) = 4 by omega, show 4 * j + 4 - 4 * j = 4 by omega]
/-- The j'th word of a row of bytes, as the document reads it. -/
theorem rword {m : List Nat} {n j k : Nat} (h : m.length = 4 * n) (hm : ∀ x ∈ m, x < 256) (hj : j < n) (hk : 8 < k) : scrimref1_Big.f k (((il m).take (4 * j + 4)).drop (4 * j)) = some (((W false m).getD j 0 : Nat) : Int) := by
  have hl : ((m.take (4 * j + 4)).drop (4 * j)).length = 4 := by rw [List.length_drop, List.length_take]; omega
  have b := rbig_eq (k := k) (fun x hx => hm x (List.mem_of_mem_take (List.mem_of_mem_drop hx))) (by omega : ((m.take (4 * j + 4)).drop (4 * j)).length ≤ 8) hk
  rw [il_take, il_drop, b, W_at n m j h hj]
end Go.Scr.S
