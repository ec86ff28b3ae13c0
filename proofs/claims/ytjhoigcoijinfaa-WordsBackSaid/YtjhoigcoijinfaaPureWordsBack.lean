/- The plain law of WordsBack. -/
import Derived.Test.YtjhoigcoijinfaaFnWordsBack
import Derived.Test.YtjhoigcoijinfaaXLaw
import Derived.Test.YtjhoigcoijinfaaLibNum
import Derived.Test.YtjhoigcoijinfaaLibWordsBase
import Derived.Test.YtjhoigcoijinfaaLibWordsLoad
import Derived.Test.YtjhoigcoijinfaaLibFill
import Derived.Test.YtjhoigcoijinfaaLibWordsIl
import Derived.Test.YtjhoigcoijinfaaLibWordsStore
import Derived.Test.YtjhoigcoijinfaaLibWordsLe
set_option linter.unusedVariables false
set_option linter.unusedSimpArgs false
set_option linter.unnecessarySimpa false
namespace Go.Scr.S
theorem rputbe32_eq (v : Nat) (hv : v < 4294967296) {k : Nat} : scrimref1_PutBe32.f k (v : Int) = some (il (dig v 4)) := by
  unfold scrimref1_PutBe32.f
  rw [shr_nat, shr_nat, shr_nat, U8_nat, U8_nat, U8_nat, U8_nat, dig4]; rfl
theorem WordsBack (a0 : Int) (a1 : Int) (h0 : In .u32 a0) (h1 : In .u64 a1) : ∃ k, scrimlaw1_WordsBack.f k a0 a1 = some true := by
  obtain ⟨a, ha, rfl⟩ := u32_of h0
  obtain ⟨b, hb, rfl⟩ := u64_of h1
  obtain ⟨k, hk⟩ : ∃ k : Nat, 100 ≤ k := ⟨100, Nat.le_refl _⟩
  refine ⟨k, ?_⟩
  have p1 := putbe32_eq a ha (k := k) (by omega)
  have p2 : words_PutLe32.f k (a : Int) = some (il (dig a 4).reverse) := by
    unfold words_PutLe32.f
    rw [p1]; simp only [Option.bind_some]
    rw [turned_eq (by rw [dig_length]; omega) (by rw [dig_length]; omega)]; rfl
  have p3 : words_PutBe64.f k (b : Int) = some (il (dig b 8)) := by
    unfold words_PutBe64.f
    have := store_eq b 8 (by decide) (k := k) (by omega)
    simp only [Int.cast_ofNat_Int] at this
    rw [this]; rfl
  have p4 := be32_eq (k := k) (dig_lt a 4) (dig_length a 4) (by omega)
  have p5 := le32_eq (k := k) (l := (dig a 4).reverse) (fun x hx => dig_lt a 4 x (by simpa using hx)) (by rw [List.length_reverse, dig_length]) (by omega)
  have p6 := be64_eq (k := k) (dig_lt b 8) (dig_length b 8) (by omega)
  rw [big_dig4 a ha] at p4
  rw [List.reverse_reverse, big_dig4 a ha] at p5
  rw [big_dig8 b hb] at p6
  have q1 := rputbe32_eq a ha (k := k)
  have q2 : scrimref1_PutLe32.f k (a : Int) = some (il (dig a 4).reverse) := by
    unfold scrimref1_PutLe32.f
    rw [shr_nat, shr_nat, shr_nat, U8_nat, U8_nat, U8_nat, U8_nat, dig4]; rfl
  have q3 : scrimref1_PutBe64.f k (b : Int) = some (il (dig b 8)) := by
    unfold scrimref1_PutBe64.f
    rw [shr_nat, U32_nat, U32_nat, rputbe32_eq _ (by omega), rputbe32_eq _ (by omega)]
    simp only [Option.bind_some, il_length, dig_length]
    rw [if_pos (by decide)]
    rw [il_app, show b >>> 32 = b / 4294967296 from Nat.shiftRight_eq_div_pow b 32, dig_split]
  unfold scrimlaw1_WordsBack.f
  simp only [known1_eq (k := k) (by omega), Option.bind_some, Bool.not_true, Bool.false_eq_true, if_false, p1, p2, p3, p4, p5, p6, q1, q2, q3, beq_self_eq_true, if_true]
end Go.Scr.S
