/- The plain law of SmWords. -/
import Derived.Test.YtahfhogifkkoeaaFnSmallOwn
import Derived.Test.YtahfhogifkkoeaaLibNum
import Derived.Test.YtahfhogifkkoeaaLibIl
import Derived.Test.YtahfhogifkkoeaaLibGLoad
import Derived.Test.YtahfhogifkkoeaaLibFill
import Derived.Test.YtahfhogifkkoeaaLibGIl
import Derived.Test.YtahfhogifkkoeaaLibGStore
import Derived.Test.YtahfhogifkkoeaaLibSmNum
set_option linter.unusedVariables false
set_option linter.unusedSimpArgs false
set_option linter.unnecessarySimpa false
namespace Go.Scr.S
/-- Words of bytes. -/
def W (b : Bool) : List Nat → List Nat
  | x :: y :: z :: w :: r => (if b then bigN [w, z, y, x] else bigN [x, y, z, w]) :: W b r
  | _ => []
theorem four {l : List Nat} {n : Nat} (h : l.length = 4 * (n + 1)) : ∃ x y z w r, l = x :: y :: z :: w :: r ∧ r.length = 4 * n := by
  match l, h with
  | x :: y :: z :: w :: r, h => exact ⟨x, y, z, w, r, rfl, by simp at h; omega⟩
  | [], h => simp only [List.length_cons, List.length_nil] at h; omega
  | [_], h => simp only [List.length_cons, List.length_nil] at h; omega
  | [_, _], h => simp only [List.length_cons, List.length_nil] at h; omega
  | [_, _, _], h => simp only [List.length_cons, List.length_nil] at h; omega
theorem W_length (b : Bool) : ∀ (n : Nat) (l : List Nat), l.length = 4 * n → (W b l).length = n
  | 0, l, h => by have : l = [] := List.eq_nil_of_length_eq_zero (by omega); subst this; rfl
  | n + 1, l, h => by
    obtain ⟨x, y, z, w, r, rfl, hr⟩ := four h
    simp only [W, List.length_cons, W_length b n r hr]
theorem bigN4_lt {x y z w : Nat} (hx : x < 256) (hy : y < 256) (hz : z < 256) (hw : w < 256) : bigN [x, y, z, w] < 4294967296 := by
  simp only [bigN, List.foldl]; omega
theorem W_lt (b : Bool) : ∀ (n : Nat) (l : List Nat), l.length = 4 * n → (∀ x ∈ l, x < 256) → ∀ x ∈ W b l, x < 4294967296
  | 0, l, h, _ => by have : l = [] := List.eq_nil_of_length_eq_zero (by omega); subst this; simp [W]
  | n + 1, l, h, hl => by
    obtain ⟨x, y, z, w, r, rfl, hr⟩ := four h
    have hx := hl x (by simp); have hy := hl y (by simp); have hz := hl z (by simp); have hw := hl w (by simp)
    intro v hv
    rcases List.mem_cons.1 hv with rfl | hv
    · cases b
      · exact bigN4_lt hx hy hz hw
      · exact bigN4_lt hw hz hy hx
    · exact W_lt b n r hr (fun x hx => hl x (by simp [hx])) v hv
theorem turned4 {k : Nat} (x y z w : Int) (hk : 10 ≤ k) : words_turned.f k [x, y, z, w] = some [w, z, y, x] := by
  obtain ⟨j, rfl⟩ : ∃ j, k = j + 10 := ⟨k - 10, by omega⟩
  kernel_rfl
theorem le32' {x y z w k : Nat} (hx : x < 256) (hy : y < 256) (hz : z < 256) (hw : w < 256) (hk : 10 ≤ k) : words_Le32.f k (il [x, y, z, w]) = some (((bigN [w, z, y, x] : Nat) : Int), true) := by
  unfold words_Le32.f
  have := turned4 (k := k) (x : Int) (y : Int) (z : Int) (w : Int) hk
  show (words_turned.f k [(x : Int), (y : Int), (z : Int), (w : Int)]).bind _ = _
  rw [this, Option.bind_some]
  have q : words_Be32.f k [(w : Int), (z : Int), (y : Int), (x : Int)] = some (((bigN [w, z, y, x] : Nat) : Int), true) := be32_eq (l := [w, z, y, x]) (k := k) (by intro v hv; simp at hv; omega) rfl (by omega)
  rw [q]; rfl
theorem loaded_l0 (b : Bool) : ∀ (n : Nat) (l acc : List Nat) (k : Nat), l.length = 4 * n → (∀ x ∈ l, x < 256) → acc.length + n < 1000 → n + 12 < k → small_loaded.l0 k b (il l) (il acc) = some (il (acc ++ W b l))
  | 0, l, acc, k, h, _, _, hk => by
    obtain ⟨k, rfl⟩ : ∃ j, k = j + 1 := ⟨k - 1, by omega⟩
    have : l = [] := List.eq_nil_of_length_eq_zero (by omega)
    subst this
    rw [small_loaded.l0, if_neg (by decide)]; simp [W]
  | n + 1, l, acc, k, h, hl, ha, hk => by
    obtain ⟨k, rfl⟩ : ∃ j, k = j + 1 := ⟨k - 1, by omega⟩
    obtain ⟨x, y, z, w, r, rfl, hr⟩ := four h
    have hx := hl x (by simp); have hy := hl y (by simp); have hz := hl z (by simp); have hw := hl w (by simp)
    have e0 : ((il (x :: y :: z :: w :: r)).take (4 : Int).toNat).drop (0 : Int).toNat = il [x, y, z, w] := rfl
    have e1 : ((il (x :: y :: z :: w :: r)).take (((il (x :: y :: z :: w :: r)).length : Int) : Int).toNat).drop (4 : Int).toNat = il r := by
      rw [Int.toNat_natCast, List.take_length]; rfl
    have b1 := be32_eq (l := [x, y, z, w]) (k := k) (by intro v hv; simp at hv; omega) rfl (by omega)
    have b2 := le32' (k := k) hx hy hz hw (by omega)
    have c0 : decide (((il (x :: y :: z :: w :: r)).length : Int) ≥ 4) = true := by rw [decide_eq_true_eq, il_length]; simp only [List.length_cons]; omega
    have c1 : decide (4 ≤ ((il (x :: y :: z :: w :: r)).length : Int)) = true := c0
    have c2 : ∀ v : Int, decide ((il acc).length + [v].length ≤ 1000000000) = true := fun v => by rw [decide_eq_true_eq, il_length]; simp only [List.length_cons, List.length_nil]; omega
    have ih := fun v => loaded_l0 b n r (acc ++ [v]) k hr (fun x hx => hl x (by simp [hx])) (by simp; omega) (by omega)
    rw [small_loaded.l0, if_pos c0, if_pos c1, e0, b1, Option.bind_some]
    cases b with
    | false =>
      rw [if_neg (by decide), if_pos (c2 _), if_pos c1, e1]
      have := ih (bigN [x, y, z, w])
      rw [il_append] at this
      refine Eq.trans this ?_
      simp [W]
    | true =>
      rw [if_pos rfl, if_pos c1, b2, Option.bind_some, if_pos (c2 _), if_pos c1, e1]
      have := ih (bigN [w, z, y, x])
      rw [il_append] at this
      refine Eq.trans this ?_
      simp [W]
theorem loaded_eq (b : Bool) {n : Nat} {l : List Nat} {k : Nat} (h : l.length = 4 * n) (hl : ∀ x ∈ l, x < 256) (hn : n < 100) (hk : 120 ≤ k) : small_loaded.f k (il l) b = some (il (W b l)) := by
  unfold small_loaded.f
  exact loaded_l0 b n l [] k h hl (by simp; omega) (by omega)
theorem concat44 {k : Nat} (a b c d e f g h : Int) (hk : 60 ≤ k) : slices_Concat_byte_byte.f k [[a, b, c, d], [e, f, g, h]] = some [a, b, c, d, e, f, g, h] := by
  obtain ⟨j, rfl⟩ : ∃ j, k = j + 60 := ⟨k - 60, by omega⟩
  kernel_rfl
theorem storedB {v w k : Nat} (hv : v < 4294967296) (hw : w < 4294967296) (hk : 60 ≤ k) : small_stored.f k (v : Int) (w : Int) false = some (il (dig v 4 ++ dig w 4)) := by
  unfold small_stored.f
  have c := concat44 (k := k) ((v >>> 24 % 256 : Nat) : Int) ((v >>> 16 % 256 : Nat) : Int) ((v >>> 8 % 256 : Nat) : Int) ((v % 256 : Nat) : Int) ((w >>> 24 % 256 : Nat) : Int) ((w >>> 16 % 256 : Nat) : Int) ((w >>> 8 % 256 : Nat) : Int) ((w % 256 : Nat) : Int) hk
  rw [if_neg (by decide), putbe32_eq v hv (by omega), Option.bind_some, putbe32_eq w hw (by omega), Option.bind_some, dig4, dig4]
  refine Eq.trans (?_ : _ = (slices_Concat_byte_byte.f k _).bind fun t47 => some t47) ((congrArg (fun o : Option (List Int) => o.bind fun t47 => some t47) c).trans rfl)
  rfl
/-- The new cipher. -/
theorem new4 {m : List Nat} (h : m.length = 16) (hm : ∀ x ∈ m, x < 256) {k : Nat} (hk : 120 ≤ k) : small_New.f k 4 (il m) = some (some (il (W false m), 4), 0) := by
  have l := loaded_eq false (n := 4) (k := k) (by omega) hm (by decide) hk
  unfold small_New.f
  rw [if_pos (by decide), if_neg (by rw [il_length, h]; decide), show ((4 : Int) == 8) = false from by decide, l, Option.bind_some, if_neg (by decide)]
theorem new5 {m : List Nat} (h : m.length = 32) (hm : ∀ x ∈ m, x < 256) {k : Nat} (hk : 120 ≤ k) : small_New.f k 5 (il m) = some (some (il (W false m), 5), 0) := by
  have l := loaded_eq false (n := 8) (k := k) (by omega) hm (by decide) hk
  unfold small_New.f
  rw [if_neg (by decide), if_neg (by decide), if_pos (by decide), if_neg (by rw [il_length, h]; decide), show ((5 : Int) == 8) = false from by decide, l, Option.bind_some, if_neg (by decide)]
end Go.Scr.S
