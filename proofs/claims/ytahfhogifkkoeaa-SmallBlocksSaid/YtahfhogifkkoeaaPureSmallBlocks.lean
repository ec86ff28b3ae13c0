/- The plain law of SmallBlocks. -/
import Derived.Test.YtahfhogifkkoeaaFnSmallBlocks
import Derived.Test.YtahfhogifkkoeaaLibNum
import Derived.Test.YtahfhogifkkoeaaLibIl
import Derived.Test.YtahfhogifkkoeaaLibGRest
import Derived.Test.YtahfhogifkkoeaaLibGRol
import Derived.Test.YtahfhogifkkoeaaLibGRRol
import Derived.Test.YtahfhogifkkoeaaLibSmNum
import Derived.Test.YtahfhogifkkoeaaLibSmRol
import Derived.Test.YtahfhogifkkoeaaLibSmG
import Derived.Test.YtahfhogifkkoeaaLibSmGR
import Derived.Test.YtahfhogifkkoeaaLibGLoad
import Derived.Test.YtahfhogifkkoeaaLibFill
import Derived.Test.YtahfhogifkkoeaaLibGIl
import Derived.Test.YtahfhogifkkoeaaLibGStore
import Derived.Test.YtahfhogifkkoeaaLibSmWords
import Derived.Test.YtahfhogifkkoeaaLibSmX
import Derived.Test.YtahfhogifkkoeaaLibSmM
import Derived.Test.YtahfhogifkkoeaaLibSmR5
import Derived.Test.YtahfhogifkkoeaaLibSmRefN
import Derived.Test.YtahfhogifkkoeaaLibSmRefB
import Derived.Test.YtahfhogifkkoeaaLibSmTags
import Derived.Test.YtahfhogifkkoeaaLibSmTwo
import Derived.Test.YtahfhogifkkoeaaLibSmK
import Derived.Test.YtahfhogifkkoeaaLibSmallBytes
set_option linter.unusedVariables false
set_option linter.unusedSimpArgs false
set_option linter.unnecessarySimpa false
namespace Go.Scr.S
theorem row3 {n o : List Nat} (hn : n.length = 8) (hnb : ∀ x ∈ n, x < 256) (ho : o.length = 8) (hob : ∀ x ∈ o, x < 256) {j : Nat} (hj : j < 3) : ∃ q : List Nat, rdr ([] : List Int) ([il n, il o, List.replicate 8 (0 : Int)] : List (List Int)) (j : Int) = il q ∧ q.length = 8 ∧ ∀ x ∈ q, x < 256 := by
  match j, hj with
  | 0, _ => exact ⟨n, rfl, hn, hnb⟩
  | 1, _ => exact ⟨o, rfl, ho, hob⟩
  | 2, _ => exact ⟨List.replicate 8 0, rfl, rfl, fun x hx => by rw [List.eq_of_mem_replicate hx]; decide⟩
theorem bl_l1 {n o l0 : List Nat} (hn : n.length = 8) (hnb : ∀ x ∈ n, x < 256) (ho : o.length = 8) (hob : ∀ x ∈ o, x < 256) {S : List Int × Int} {R : Int × List Int}
    (hb : ∀ k, 200 ≤ k → ∀ (dir : Bool) (n : List Nat), n.length = 8 → (∀ x ∈ n, x < 256) → ∃ o : List Nat, o.length = 8 ∧ small_Small_Block.f k S (il n) dir = some (il o, 0) ∧ scrimref8_Small_Block.f k R (il n) dir = some (il o, 0))
    {j : Nat} {X : Option Bool} {K : Nat} (hX : ∀ k, K ≤ k → scrimlaw8_SmallBlocks.l0 k (il l0) (il o) (il n) (I64 ((j : Int) + 1)) = X) (d : Nat) {k i : Nat} (hk : d + 300 < k) (hK : K + d < k) (hi : i + d = 6) :
    scrimlaw8_SmallBlocks.l1 k (il l0) S R (il o) (il n) (j : Int) (i : Int) = X := by
  induction d generalizing k i with
  | zero =>
    obtain ⟨k, rfl⟩ : ∃ j, k = j + 1 := ⟨k - 1, by omega⟩
    rw [scrimlaw8_SmallBlocks.l1, if_neg (by rw [decide_eq_true_eq]; omega)]
    exact hX k (by omega)
  | succ d ih =>
    obtain ⟨k, rfl⟩ : ∃ j, k = j + 1 := ⟨k - 1, by omega⟩
    have a2 : I64 ((i : Int) + 1) = ((i + 1 : Nat) : Int) := I64_nat (n := i + 1) (by omega)
    have td : I64 (Int.tdiv (i : Int) 2) = ((i / 2 : Nat) : Int) := I64_nat (n := i / 2) (by omega)
    obtain ⟨q, eq, hq, hqb⟩ := row3 hn hnb ho hob (j := i / 2) (by omega)
    obtain ⟨r, hr, b1, b2⟩ := hb k (by omega) (Int.tmod (i : Int) 2 == 1) q hq hqb
    have c0 : decide (0 ≤ ((i / 2 : Nat) : Int)) = true := by rw [decide_eq_true_eq]; omega
    have c1 : decide (((i / 2 : Nat) : Int) < 3) = true := by rw [decide_eq_true_eq]; omega
    rw [scrimlaw8_SmallBlocks.l1, if_pos (by rw [decide_eq_true_eq]; omega), td, if_pos c0, if_pos c1, eq, b1, Option.bind_some, if_pos c0, if_pos c1, b2, Option.bind_some, beq_self_eq_true, Option.bind_some]
    show scrimlaw8_SmallBlocks.l1 k (il l0) S R (il o) (il n) (j : Int) (I64 ((i : Int) + 1)) = X
    rw [a2]
    exact ih (by omega) (by omega) (by omega)
theorem bl_l0 {n o l0 : List Nat} (hl0 : ∀ x ∈ l0, x < 256) (hn : n.length = 8) (hnb : ∀ x ∈ n, x < 256) (ho : o.length = 8) (hob : ∀ x ∈ o, x < 256) (d : Nat) : ∀ {k j : Nat}, 10 * d + 400 ≤ k → j + d = 3 → scrimlaw8_SmallBlocks.l0 k (il l0) (il o) (il n) (j : Int) = some true := by
  induction d with
  | zero =>
    intro k j hk hj
    obtain ⟨k, rfl⟩ : ∃ j, k = j + 1 := ⟨k - 1, by omega⟩
    rw [scrimlaw8_SmallBlocks.l0, if_neg (by rw [decide_eq_true_eq]; omega)]
  | succ d ih =>
    intro k j hk hj
    obtain ⟨k, rfl⟩ : ∃ j, k = j + 1 := ⟨k - 1, by omega⟩
    have a2 : I64 ((j : Int) + 1) = ((j + 1 : Nat) : Int) := I64_nat (n := j + 1) (by omega)
    obtain ⟨tl, ht, hl, hr⟩ := tags_at (k := k) (by omega : j < 3)
    have hs := size_at (k := k) (by omega : j < 3)
    have hsz := sz_le j
    obtain ⟨m, b1, hm, hmb⟩ := bytes8_eq (n := sz j) (by omega) hl0 (k := k) (by omega)
    obtain ⟨S, R, n1, n2, hb⟩ := new_two (by omega : j < 3) hm hmb
    have c0 : decide (0 ≤ (j : Int)) = true := by rw [decide_eq_true_eq]; omega
    have c1 : decide ((j : Int) < (tl.length : Int)) = true := by rw [decide_eq_true_eq, hl]; omega
    rw [scrimlaw8_SmallBlocks.l0, if_pos (by rw [decide_eq_true_eq]; omega), ht, Option.bind_some, if_pos c0, if_pos c1, hs, Option.bind_some, b1, Option.bind_some, hr, n1 k (by omega), Option.bind_some, Option.bind_some, if_pos c0, if_pos c1, Option.bind_some, b1, Option.bind_some, hr, n2 k (by omega), Option.bind_some, pass0, pass0]
    exact bl_l1 hn hnb ho hob hb (K := 10 * d + 400) (fun k' hk' => by rw [a2]; exact ih hk' (by omega)) 6 (i := 0) (by omega) (by omega) (by omega)
theorem SmallBlocks (a0 : List Int) (a1 : List Int) (a2 : List Int) (h0 : a0.length ≤ maxLen) (h1 : ∀ x ∈ a0, In .u8 x) (h2 : a1.length ≤ maxLen) (h3 : ∀ x ∈ a1, In .u8 x) (h4 : a2.length ≤ maxLen) (h5 : ∀ x ∈ a2, In .u8 x) : ∃ k, scrimlaw8_SmallBlocks.f k a0 a1 a2 = some true := by
  obtain ⟨l0, rfl, hl0⟩ := il_of h1
  obtain ⟨l1, rfl, hl1⟩ := il_of h3
  obtain ⟨l2, rfl, hl2⟩ := il_of h5
  obtain ⟨k, hk⟩ : ∃ k : Nat, 900 ≤ k := ⟨900, Nat.le_refl _⟩
  refine ⟨k, ?_⟩
  obtain ⟨n, b1, hn, hnb⟩ := bytes8_eq (n := 8) (by decide) hl1 (k := k) (by omega)
  obtain ⟨o, b2, ho, hob⟩ := bytes8_eq (n := 8) (by decide) hl2 (k := k) (by omega)
  simp only [Int.cast_ofNat_Int] at b1 b2
  unfold scrimlaw8_SmallBlocks.f
  rw [known8_eq (by omega), Option.bind_some, if_neg (by decide), b1, Option.bind_some, b2, Option.bind_some]
  exact bl_l0 hl0 hn hnb ho hob 3 (j := 0) (by omega) (by omega)
end Go.Scr.S
