/- The plain law of WordsLe. -/
import Derived.Test.YtjhoigcoijinfaaFnWordsReads
import Derived.Test.YtjhoigcoijinfaaLibNum
import Derived.Test.YtjhoigcoijinfaaLibWordsBase
import Derived.Test.YtjhoigcoijinfaaLibWordsLoad
set_option linter.unusedVariables false
set_option linter.unusedSimpArgs false
set_option linter.unnecessarySimpa false
namespace Go.Scr.S
theorem turned_l0 {l : List Nat} (hl : l.length < 1000000) (i : Nat) {k : Nat} (hi : i ≤ l.length) (hk : i < k) :
    words_turned.l0 k (il l) (il (l.drop i).reverse) ((i : Int) - 1) = some (il l.reverse) := by
  induction i generalizing k with
  | zero =>
    obtain ⟨k, rfl⟩ : ∃ j, k = j + 1 := ⟨k - 1, by omega⟩
    simp only [words_turned.l0]
    rw [if_neg (by decide)]; rfl
  | succ i ih =>
    obtain ⟨k, rfl⟩ : ∃ j, k = j + 1 := ⟨k - 1, by omega⟩
    have e0 : (((i + 1 : Nat) : Int) - 1) = (i : Int) := by omega
    have e1 : I64 ((i : Int) - 1) = (i : Int) - 1 := I64_id (by omega) (by omega)
    have hlt : i < l.length := by omega
    have e2 : il (l.drop (i + 1)).reverse ++ [((l[i] : Nat) : Int)] = il (l.drop i).reverse := by
      rw [List.drop_eq_getElem_cons hlt, List.reverse_cons]; simp [il]
    rw [e0]
    simp only [words_turned.l0]
    rw [if_pos (by rw [decide_eq_true_eq]; omega), if_pos (by rw [decide_eq_true_eq]; omega), if_pos (by rw [decide_eq_true_eq, il_length]; omega),
      if_pos (by rw [decide_eq_true_eq, il_length]; simp; omega), il_rd hlt, e2, e1]
    exact ih (by omega) (by omega)
theorem turned_eq {l : List Nat} (hl : l.length < 1000000) {k : Nat} (hk : l.length < k) : words_turned.f k (il l) = some (il l.reverse) := by
  unfold words_turned.f
  rw [il_length, if_pos (by simp), if_pos (by rw [decide_eq_true_eq]; omega), I64_id (by omega) (by omega)]
  have := turned_l0 hl l.length (Nat.le_refl _) hk
  rw [List.drop_length] at this
  exact this
theorem le32_eq {l : List Nat} {k : Nat} (hl : ∀ x ∈ l, x < 256) (h4 : l.length = 4) (hk : 8 < k) : words_Le32.f k (il l) = some (((bigN l.reverse : Nat) : Int), true) := by
  unfold words_Le32.f
  rw [turned_eq (by omega) (by omega)]
  simp only [Option.bind_some]
  rw [be32_eq (fun x hx => hl x (by simpa using hx)) (by simpa using h4) hk]; rfl
theorem be64_eq {l : List Nat} {k : Nat} (hl : ∀ x ∈ l, x < 256) (h8 : l.length = 8) (hk : 8 < k) : words_Be64.f k (il l) = some (((bigN l : Nat) : Int), true) := by
  unfold words_Be64.f
  rw [il_length, h8, if_neg (by decide), load_eq hl (by omega) hk]
  rfl
end Go.Scr.S
