/- The plain law of WordsKnown. -/
import Derived.Test.YtjhoigcoijinfaaFnWordsKnown
import Derived.Test.YtjhoigcoijinfaaLibNum
import Derived.Test.YtjhoigcoijinfaaLibWordsWithin
set_option linter.unusedVariables false
set_option linter.unusedSimpArgs false
set_option linter.unnecessarySimpa false
namespace Go.Scr.S
theorem WordsKnown (a0 : Int) (h0 : In .i64 a0) : ∃ k, scrimlaw1_WordsKnown.f k a0 = some true := by
  obtain ⟨k, hk⟩ : ∃ k : Nat, k = 100 := ⟨100, rfl⟩
  refine ⟨k, ?_⟩
  have e0 : scrimlaw1_known.f k = some true := by subst hk; kernel_rfl
  have e1 : words_Le32.f k ([1, 2, 3, 4] : List Int) = some (67305985, true) := by subst hk; kernel_rfl
  have e2 : words_Be64.f k ([0, 0, 0, 0, 0, 0, 1, 0] : List Int) = some (256, true) := by subst hk; kernel_rfl
  have e3 : words_Be32.f k ([1, 2, 3] : List Int) = some (0, false) := by subst hk; kernel_rfl
  have e4 : words_Xor.f k ([1] : List Int) ([] : List Int) = some ([], false) := by subst hk; kernel_rfl
  have e5 : words_Rol32.f k 2147483649 1 = some 3 := by subst hk; kernel_rfl
  have e6 : words_Rol32.f k 1 (-1) = some 2147483648 := by subst hk; kernel_rfl
  have e7 : words_Rol8.f k 1 7 = some 128 := by subst hk; kernel_rfl
  have e8 : words_Rol8.f k 150 4 = some 105 := by subst hk; kernel_rfl
  have e9 : words_Turn.f k ([18, 52] : List Int) 4 = some [35, 65] := by subst hk; kernel_rfl
  have ea : words_Inc.f k ([255, 255] : List Int) = some [0, 0] := by subst hk; kernel_rfl
  have eb : words_Inc.f k ([0, 1, 255] : List Int) = some [0, 2, 0] := by subst hk; kernel_rfl
  have ec : words_Inc.f k ([] : List Int) = some [] := by subst hk; kernel_rfl
  have ed : words_PutLe32.f k 16909060 = some [4, 3, 2, 1] := by subst hk; kernel_rfl
  have ew := within1_eq (k := k) a0 10 (by decide) (by decide)
  have b1 := Int.emod_nonneg a0 (show (10 : Int) ≠ 0 by decide)
  have b2 := Int.emod_lt_of_pos a0 (show (0 : Int) < 10 by decide)
  have s1 : ((strOf [0, 0]).toList == (⟨#[0, 0]⟩ : ByteArray).toList) = true := by kernel_rfl
  have s2 : ((strOf [35, 65]).toList == (⟨#[35, 65]⟩ : ByteArray).toList) = true := by kernel_rfl
  have s3 : ((strOf [0, 2, 0]).toList == (⟨#[0, 2, 0]⟩ : ByteArray).toList) = true := by kernel_rfl
  have s4 : ((strOf [4, 3, 2, 1]).toList == (⟨#[4, 3, 2, 1]⟩ : ByteArray).toList) = true := by kernel_rfl
  unfold scrimlaw1_WordsKnown.f
  rw [e0, Option.bind_some, if_neg (by decide), e1, Option.bind_some, e2, Option.bind_some, e3, Option.bind_some, e4, Option.bind_some, if_pos (by decide), e5, Option.bind_some, e6, Option.bind_some, e7, Option.bind_some, if_pos (by decide), e8, Option.bind_some, e9, Option.bind_some, ea, Option.bind_some, if_pos s1, eb, Option.bind_some, ec, Option.bind_some, ed, Option.bind_some, ew, Option.bind_some, if_pos (by rw [decide_eq_true_eq]; exact b1), if_pos (by rw [decide_eq_true_eq]; exact b2), s2, s3, s4]
  have h : a0 % 10 = 0 ∨ a0 % 10 = 1 ∨ a0 % 10 = 2 ∨ a0 % 10 = 3 ∨ a0 % 10 = 4 ∨ a0 % 10 = 5 ∨ a0 % 10 = 6 ∨ a0 % 10 = 7 ∨ a0 % 10 = 8 ∨ a0 % 10 = 9 := by omega
  rcases h with h | h | h | h | h | h | h | h | h | h <;> rw [h] <;> rfl
end Go.Scr.S
