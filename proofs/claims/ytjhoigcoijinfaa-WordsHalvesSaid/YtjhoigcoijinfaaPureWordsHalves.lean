/- The plain law of WordsHalves. -/
import Derived.Test.YtjhoigcoijinfaaFnWordsHalves
import Derived.Test.YtjhoigcoijinfaaXLaw
import Derived.Test.YtjhoigcoijinfaaLibNum
import Derived.Test.YtjhoigcoijinfaaLibWordsBase
import Derived.Test.YtjhoigcoijinfaaLibWordsLoad
import Derived.Test.YtjhoigcoijinfaaLibFill
import Derived.Test.YtjhoigcoijinfaaLibWordsIl
import Derived.Test.YtjhoigcoijinfaaLibWordsStore
import Derived.Test.YtjhoigcoijinfaaLibWordsLe
set_option linter.unusedVariables false
set_option linter.unusedSimpArgs false
set_option linter.unnecessarySimpa false
namespace Go.Scr.S
theorem WordsHalves (a0 : Int) (a1 : Int) (h0 : In .u32 a0) (h1 : In .u32 a1) : ∃ k, scrimlaw1_WordsHalves.f k a0 a1 = some true := by
  obtain ⟨a, ha, rfl⟩ := u32_of h0
  obtain ⟨b, hb, rfl⟩ := u32_of h1
  obtain ⟨k, hk⟩ : ∃ k : Nat, 100 ≤ k := ⟨100, Nat.le_refl _⟩
  refine ⟨k, ?_⟩
  have p1 := putbe32_eq a ha (k := k) (by omega)
  have p2 := putbe32_eq b hb (k := k) (by omega)
  have hv : a <<< 32 ||| b = a * 4294967296 + b := by rw [← Nat.shiftLeft_add_eq_or_of_lt (by omega : b < 2 ^ 32), Nat.shiftLeft_eq]
  have e8 : [] ++ il (dig a 4) ++ il (dig b 4) = il (dig (a * 4294967296 + b) 8) := by
    have x1 : (a * 4294967296 + b) / 4294967296 % 4294967296 = a := by omega
    have x2 : (a * 4294967296 + b) % 4294967296 = b := by omega
    rw [List.nil_append, il_app, ← dig_split, x1, x2]
  have p3 := be64_eq (k := k) (dig_lt (a * 4294967296 + b) 8) (dig_length _ 8) (by omega)
  rw [big_dig8 _ (by omega)] at p3
  have p4 : words_PutBe64.f k ((a * 4294967296 + b : Nat) : Int) = some (il (dig (a * 4294967296 + b) 8)) := by
    unfold words_PutBe64.f
    have := store_eq (a * 4294967296 + b) 8 (by decide) (k := k) (by omega)
    simp only [Int.cast_ofNat_Int] at this
    rw [this]; rfl
  have p5 : words_Le32.f k [rd (il (dig a 4)) 3, rd (il (dig a 4)) 2, rd (il (dig a 4)) 1, rd (il (dig a 4)) 0] = some ((a : Int), true) := by
    have := le32_eq (k := k) (l := (dig a 4).reverse) (fun x hx => dig_lt a 4 x (by simpa using hx)) (by rw [List.length_reverse, dig_length]) (by omega)
    rw [List.reverse_reverse, big_dig4 a ha] at this
    have e : [rd (il (dig a 4)) 3, rd (il (dig a 4)) 2, rd (il (dig a 4)) 1, rd (il (dig a 4)) 0] = il (dig a 4).reverse := by
      rw [dig4]; generalize a >>> 24 % 256 = x; generalize a >>> 16 % 256 = y; generalize a >>> 8 % 256 = z; generalize a % 256 = t; rfl
    rw [e]; exact this
  have u1 : U64 (a : Int) = (a : Int) := U64_id (by omega) (by omega)
  have u2 : U64 (b : Int) = (b : Int) := U64_id (by omega) (by omega)
  have hs : a <<< 32 < 18446744073709551616 := by rw [Nat.shiftLeft_eq]; omega
  have e1 : shl .u64 (a : Int) 32 = ((a <<< 32 : Nat) : Int) := by rw [shl64, Nat.mod_eq_of_lt hs]
  have e3 := bo64 hs (b := b) (by omega)
  rw [hv] at e3
  obtain ⟨v, ev⟩ : ∃ v, v = a * 4294967296 + b := ⟨_, rfl⟩
  obtain ⟨w, ew⟩ : ∃ w, w = a <<< 32 := ⟨_, rfl⟩
  rw [← ev] at e8 p3 p4 e3
  rw [← ew] at e1 e3
  clear ev ew hv hs
  have c4 : ((((4 : Nat) : Int)) != 4) = false := by decide
  have c5 : decide ((3 : Int) < ((4 : Nat) : Int)) = true := by decide
  have c6 : decide ((2 : Int) < ((4 : Nat) : Int)) = true := by decide
  have c7 : decide ((1 : Int) < ((4 : Nat) : Int)) = true := by decide
  have c8 : decide ((0 : Int) < ((4 : Nat) : Int)) = true := by decide
  unfold scrimlaw1_WordsHalves.f
  simp only [known1_eq (k := k) (by omega), Option.bind_some, Bool.not_true, Bool.false_eq_true, if_false, p1, p2, e8, p3, p4, p5, u1, u2, e1, e3, il_length, dig_length, List.length_append, List.length_nil, c4, c5, c6, c7, c8, beq_self_eq_true, if_true]
  rw [if_pos (by decide), if_pos (by decide)]
end Go.Scr.S
