/- The plain law of SmallApart. -/
import Derived.Test.YtahfhogifkkoeaaFnSmallApart
import Derived.Test.YtahfhogifkkoeaaLibNum
import Derived.Test.YtahfhogifkkoeaaLibIl
import Derived.Test.YtahfhogifkkoeaaLibGRest
import Derived.Test.YtahfhogifkkoeaaLibGRol
import Derived.Test.YtahfhogifkkoeaaLibGRRol
import Derived.Test.YtahfhogifkkoeaaLibSmNum
import Derived.Test.YtahfhogifkkoeaaLibSmRol
import Derived.Test.YtahfhogifkkoeaaLibSmG
import Derived.Test.YtahfhogifkkoeaaLibSmGR
import Derived.Test.YtahfhogifkkoeaaLibGLoad
import Derived.Test.YtahfhogifkkoeaaLibFill
import Derived.Test.YtahfhogifkkoeaaLibGIl
import Derived.Test.YtahfhogifkkoeaaLibGStore
import Derived.Test.YtahfhogifkkoeaaLibSmWords
import Derived.Test.YtahfhogifkkoeaaLibSmX
import Derived.Test.YtahfhogifkkoeaaLibSmM
import Derived.Test.YtahfhogifkkoeaaLibSmR5
import Derived.Test.YtahfhogifkkoeaaLibSmRefN
import Derived.Test.YtahfhogifkkoeaaLibSmRefB
import Derived.Test.YtahfhogifkkoeaaLibSmTags
import Derived.Test.YtahfhogifkkoeaaLibSmTwo
import Derived.Test.YtahfhogifkkoeaaLibSmStr
import Derived.Test.YtahfhogifkkoeaaLibSmK
import Derived.Test.YtahfhogifkkoeaaLibSmallBytes
set_option linter.unusedVariables false
set_option linter.unusedSimpArgs false
set_option linter.unnecessarySimpa false
namespace Go.Scr.S
theorem ap_l0 {l0 l1 : List Nat} (hl0 : ∀ x ∈ l0, x < 256) (hl1 : ∀ x ∈ l1, x < 256) (d : Nat) : ∀ {k j : Nat} {V : List ByteArray}, d + 400 ≤ k → j + d = 3 → V.length = 3 → (∀ i, i < j → (rds V (i : Int)).size = 8) → scrimlaw8_SmallApart.l0 k (il l0) (il l1) V (j : Int) = some true := by
  induction d with
  | zero =>
    intro k j V hk hj hV h8
    obtain ⟨k, rfl⟩ : ∃ j, k = j + 1 := ⟨k - 1, by omega⟩
    have s0 : (rds V 0).size = 8 := h8 0 (by omega)
    have s1 : (rds V 1).size = 8 := h8 1 (by omega)
    have s2 : (rds V 2).size = 8 := h8 2 (by omega)
    rw [scrimlaw8_SmallApart.l0, if_neg (by rw [decide_eq_true_eq]; omega), if_pos (by rw [s0, s1]; decide), if_pos (by rw [ByteArray.size_append, s0, s1, s2]; decide), ByteArray.size_append, ByteArray.size_append, s0, s1, s2]; rfl
  | succ d ih =>
    intro k j V hk hj hV h8
    obtain ⟨k, rfl⟩ : ∃ j, k = j + 1 := ⟨k - 1, by omega⟩
    have a2 : I64 ((j : Int) + 1) = ((j + 1 : Nat) : Int) := I64_nat (n := j + 1) (by omega)
    obtain ⟨tl, ht, hl, hr⟩ := tags_at (k := k) (by omega : j < 3)
    have hs := size_at (k := k) (by omega : j < 3)
    have hsz := sz_le j
    obtain ⟨m, b1, hm, hmb⟩ := bytes8_eq (n := sz j) (by omega) hl0 (k := k) (by omega)
    obtain ⟨n, b2, hn, hnb⟩ := bytes8_eq (n := 8) (by omega) hl1 (k := k) (by omega)
    simp only [Int.cast_ofNat_Int] at b2
    obtain ⟨S, R, n1, n2, hb⟩ := new_two (by omega : j < 3) hm hmb
    obtain ⟨o, ho, q1, q2⟩ := hb k (by omega) false n hn hnb
    have c0 : decide (0 ≤ (j : Int)) = true := by rw [decide_eq_true_eq]; omega
    have c1 : decide ((j : Int) < (tl.length : Int)) = true := by rw [decide_eq_true_eq, hl]; omega
    have c3 : decide ((j : Int) < 3) = true := by rw [decide_eq_true_eq]; omega
    rw [scrimlaw8_SmallApart.l0, if_pos c3, ht, Option.bind_some, if_pos c0, if_pos c1, hs, Option.bind_some, b1, Option.bind_some, hr, n1 k (by omega), Option.bind_some, Option.bind_some, if_pos c0, if_pos c1, Option.bind_some, b1, Option.bind_some, hr, n2 k (by omega), Option.bind_some, pass0, pass0, b2, Option.bind_some, q1, Option.bind_some, Option.bind_some, q2, Option.bind_some, if_pos c0, if_pos c3, beq_self_eq_true, Option.bind_some]
    show (if (((il o).length : Int) != 8) = true then some false else scrimlaw8_SmallApart.l0 k (il l0) (il l1) (V.set ((j : Int)).toNat (strOf (il o))) (I64 ((j : Int) + 1))) = some true
    rw [if_neg (by rw [il_length, ho]; decide), a2, Int.toNat_natCast]
    refine ih (by omega) (by omega) (by rw [List.length_set]; exact hV) fun i hi => ?_
    unfold rds
    rw [Int.toNat_natCast, List.getD_eq_getElem?_getD, List.getElem?_set]
    by_cases e : j = i
    · rw [if_pos e, if_pos (by omega)]
      show (strOf (il o)).size = 8
      rw [strOf_size, il_length, ho]
    · rw [if_neg e, ← List.getD_eq_getElem?_getD]
      have := h8 i (by omega)
      unfold rds at this
      rw [Int.toNat_natCast] at this; exact this
theorem SmallApart (a0 : List Int) (a1 : List Int) (h0 : a0.length ≤ maxLen) (h1 : ∀ x ∈ a0, In .u8 x) (h2 : a1.length ≤ maxLen) (h3 : ∀ x ∈ a1, In .u8 x) : ∃ k, scrimlaw8_SmallApart.f k a0 a1 = some true := by
  obtain ⟨l0, rfl, hl0⟩ := il_of h1
  obtain ⟨l1, rfl, hl1⟩ := il_of h3
  obtain ⟨k, hk⟩ : ∃ k : Nat, 900 ≤ k := ⟨900, Nat.le_refl _⟩
  refine ⟨k, ?_⟩
  unfold scrimlaw8_SmallApart.f
  rw [known8_eq (by omega), Option.bind_some, if_neg (by decide)]
  exact ap_l0 hl0 hl1 3 (j := 0) (by omega) (by omega) rfl (fun i hi => by omega)
end Go.Scr.S
