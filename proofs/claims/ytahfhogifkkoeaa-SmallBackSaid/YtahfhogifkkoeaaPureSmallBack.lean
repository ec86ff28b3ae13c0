/- The plain law of SmallBack. -/
import Derived.Test.YtahfhogifkkoeaaFnSmallBack
import Derived.Test.YtahfhogifkkoeaaLibNum
import Derived.Test.YtahfhogifkkoeaaLibIl
import Derived.Test.YtahfhogifkkoeaaLibGRest
import Derived.Test.YtahfhogifkkoeaaLibGRol
import Derived.Test.YtahfhogifkkoeaaLibSmNum
import Derived.Test.YtahfhogifkkoeaaLibSmRol
import Derived.Test.YtahfhogifkkoeaaLibSmG
import Derived.Test.YtahfhogifkkoeaaLibGLoad
import Derived.Test.YtahfhogifkkoeaaLibFill
import Derived.Test.YtahfhogifkkoeaaLibGIl
import Derived.Test.YtahfhogifkkoeaaLibGStore
import Derived.Test.YtahfhogifkkoeaaLibSmWords
import Derived.Test.YtahfhogifkkoeaaLibSmX
import Derived.Test.YtahfhogifkkoeaaLibSmM
import Derived.Test.YtahfhogifkkoeaaLibSmR5
import Derived.Test.YtahfhogifkkoeaaLibSmInv
import Derived.Test.YtahfhogifkkoeaaLibSmStr
import Derived.Test.YtahfhogifkkoeaaLibSmStr2
import Derived.Test.YtahfhogifkkoeaaLibSmK
import Derived.Test.YtahfhogifkkoeaaLibSmW
import Derived.Test.YtahfhogifkkoeaaLibSmallBytes
set_option linter.unusedVariables false
set_option linter.unusedSimpArgs false
set_option linter.unnecessarySimpa false
namespace Go.Scr.S
theorem tags_at {k : Nat} {j : Nat} (hj : j < 3) : ∃ l, scrimlaw8_tags.f k = some l ∧ l.length = 3 ∧ rd l (j : Int) = (tagN j : Int) := by
  refine ⟨[4, 5, 8], rfl, rfl, ?_⟩
  match j, hj with
  | 0, _ => rfl
  | 1, _ => rfl
  | 2, _ => rfl
theorem size_at {k : Nat} {j : Nat} (hj : j < 3) : scrimlaw8_size.f k (j : Int) = some (sz j : Int) := by
  match j, hj with
  | 0, _ => rfl
  | 1, _ => rfl
  | 2, _ => rfl
theorem sz_lt (j : Nat) : sz j < 1000 := by unfold sz; split <;> decide
theorem pass0 (x : List Int × Int) (a b : Option Bool) : (if (((some x, 0) : Option (List Int × Int) × Int).2 != 0) = true then a else b) = b := rfl
theorem pass (x : List Int × Int) (e : Int) (f : List Int × Int → Option Bool) : (if ((some x, e) : Option (List Int × Int) × Int).1.isSome = true then ((some x, e) : Option (List Int × Int) × Int).1.bind f else some false) = f x := rfl
theorem SmallBack (a0 : Int) (a1 : List Int) (a2 : List Int) (a3 : List Int) (h0 : In .i64 a0) (h1 : a1.length ≤ maxLen) (h2 : ∀ x ∈ a1, In .u8 x) (h3 : a2.length ≤ maxLen) (h4 : ∀ x ∈ a2, In .u8 x) (h5 : a3.length ≤ maxLen) (h6 : ∀ x ∈ a3, In .u8 x) : ∃ k, scrimlaw8_SmallBack.f k a0 a1 a2 a3 = some true := by
  obtain ⟨l1, rfl, hl1⟩ := il_of h2
  obtain ⟨l2, rfl, hl2⟩ := il_of h4
  obtain ⟨l3, rfl, hl3⟩ := il_of h6
  obtain ⟨j, hj, ej⟩ : ∃ i : Nat, i < 3 ∧ a0 % 3 = i := ⟨(a0 % 3).toNat, by omega, by omega⟩
  obtain ⟨k, hk⟩ : ∃ k : Nat, 900 ≤ k := ⟨900, Nat.le_refl _⟩
  refine ⟨k, ?_⟩
  have w1 := within8_eq (k := k) a0 3 (by decide) (by decide)
  rw [ej] at w1
  obtain ⟨tl, ht, hl, hr⟩ := tags_at (k := k) hj
  have hs := size_at (k := k) hj
  have hsz := sz_lt j
  obtain ⟨m, b1, hm, hmb⟩ := bytes8_eq hsz hl1 (k := k) (by have : sz j ≤ 32 := by { unfold sz; split <;> decide }; omega)
  obtain ⟨n, b2, hn, hnb⟩ := bytes8_eq (n := 8) (by decide) hl2 (k := k) (by omega)
  obtain ⟨o, b3, ho, hob⟩ := bytes8_eq (n := 8) (by decide) hl3 (k := k) (by omega)
  obtain ⟨S, bl, nw, C⟩ := new_any hj hm hmb
  simp only [Int.cast_ofNat_Int] at b2 b3
  have c0 : decide (0 ≤ (j : Int)) = true := by rw [decide_eq_true_eq]; omega
  have c1 : decide ((j : Int) < (tl.length : Int)) = true := by rw [decide_eq_true_eq, hl]; omega
  have r1 := C.run (m := n) false (k := k) hn hnb (by omega)
  have r2 := C.run (m := bl false n) true (k := k) (C.len _) (C.lt _) (by omega)
  have r3 := C.run (m := n) true (k := k) hn hnb (by omega)
  have r4 := C.run (m := bl true n) false (k := k) (C.len _) (C.lt _) (by omega)
  have r5 := C.run (m := o) false (k := k) ho hob (by omega)
  have i1 : bl true (bl false n) = n := C.inv false hn hnb
  have i2 : bl false (bl true n) = n := C.inv true hn hnb
  rw [i1] at r2
  rw [i2] at r4
  have fin : decide (bl false o = bl false n) = decide (n = o) := by
    rw [decide_eq_decide]
    refine ⟨fun h => ?_, fun h => by rw [h]⟩
    have : bl true (bl false o) = o := C.inv false ho hob
    rw [← i1, ← h, this]
  have l8 : ((il (bl false n)).length : Int) = 8 := by rw [il_length, C.len]; rfl
  unfold scrimlaw8_SmallBack.f
  rw [known8_eq (by omega), Option.bind_some, if_neg (by decide), w1, Option.bind_some, ht, Option.bind_some, if_pos c0, if_pos c1, hs, Option.bind_some, b1, Option.bind_some, hr, nw k (by omega), Option.bind_some, pass0, pass, b2, Option.bind_some, b3, Option.bind_some, r1, Option.bind_some, r2, Option.bind_some, r3, Option.bind_some, r4, Option.bind_some, r5, Option.bind_some, l8, if_pos (by decide), if_pos (beq_self_eq_true _), if_pos (beq_self_eq_true _), Option.bind_some, strOf_eq (C.lt _) (C.lt _), strOf_eq hnb hob, fin, beq_self_eq_true]
end Go.Scr.S
