/- The plain law of SmallMagma. -/
import Derived.Test.YtahfhogifkkoeaaFnSmallMagma
import Derived.Test.YtahfhogifkkoeaaLibNum
import Derived.Test.YtahfhogifkkoeaaLibIl
import Derived.Test.YtahfhogifkkoeaaLibGRest
import Derived.Test.YtahfhogifkkoeaaLibGRol
import Derived.Test.YtahfhogifkkoeaaLibSmNum
import Derived.Test.YtahfhogifkkoeaaLibSmRol
import Derived.Test.YtahfhogifkkoeaaLibSmG
import Derived.Test.YtahfhogifkkoeaaLibGLoad
import Derived.Test.YtahfhogifkkoeaaLibFill
import Derived.Test.YtahfhogifkkoeaaLibGIl
import Derived.Test.YtahfhogifkkoeaaLibGStore
import Derived.Test.YtahfhogifkkoeaaLibSmWords
import Derived.Test.YtahfhogifkkoeaaLibSmX
import Derived.Test.YtahfhogifkkoeaaLibSmM
import Derived.Test.YtahfhogifkkoeaaLibSmBig
import Derived.Test.YtahfhogifkkoeaaLibSmStr
import Derived.Test.YtahfhogifkkoeaaLibSmK
import Derived.Test.YtahfhogifkkoeaaLibSmallBytes
set_option linter.unusedVariables false
set_option linter.unusedSimpArgs false
set_option linter.unnecessarySimpa false
namespace Go.Scr.S
theorem magma_l0 {m n : List Nat} (hm : ∀ x ∈ m, x < 256) (h : m.length = 32) (hn : n.length = 8) (hnb : ∀ x ∈ n, x < 256) (dir : Bool) (d : Nat) {i k : Nat} {p : Nat × Nat} (hk : d + 200 < k) (hi : i + d = 32) (hp : Wd p)
    (hf : mgI (sched (W false m) dir) i d p = mgI (sched (W false m) dir) 0 32 (B2 false n)) :
    scrimlaw8_SmallMagma.l0 k dir (il (W false m), 5) (il n) (il m) (p.1 : Int) (p.2 : Int) (i : Int) = some true := by
  have h8 := W_length false 8 m h
  induction d generalizing k i p with
  | zero =>
    obtain ⟨k, rfl⟩ : ∃ j, k = j + 1 := ⟨k - 1, by omega⟩
    have : i = 32 := by omega
    subst this
    have bl := block5 h8 hn hnb dir (k := k) (by omega)
    have e : p = mgI (sched (W false m) dir) 0 32 (B2 false n) := hf
    rw [scrimlaw8_SmallMagma.l0, if_neg (by decide), bl, Option.bind_some, rput_eq, Option.bind_some, rput_eq, Option.bind_some, if_pos (by rw [decide_eq_true_eq, strOf_size, strOf_size, il_length, il_length, dig_length, dig_length]; decide), strOf_app, il_app]
    unfold outB mag
    rw [← e]
    exact congrArg some (beq_self_eq_true _)
  | succ d ih =>
    obtain ⟨k, rfl⟩ : ∃ j, k = j + 1 := ⟨k - 1, by omega⟩
    have a2 : I64 ((i : Int) + 1) = ((i + 1 : Nat) : Int) := I64_nat (n := i + 1) (by omega)
    have next := fun hj => ih (k := k) (i := i + 1) (p := (p.2, p.1 ^^^ gN (wa p.2 ((sched (W false m) dir).getD i 0)))) (by omega) (by omega) (mg_wd (L := sched (W false m) dir) hp _) hj
    have next := next hf
    rw [sched_at h8 dir (by omega)] at next
    have uw : ∀ j, U32 (((W false m).getD j 0 : Nat) : Int) = (((W false m).getD j 0 : Nat) : Int) := fun j => by
      rw [U32_nat, Nat.mod_eq_of_lt (getW (W_lt false 8 m h hm) j)]
    have g := fun j => sG_eq (x := p.2) (y := (W false m).getD j 0) (k := k) (by omega)
    have bx := fun v => bx32 hp.1 (gN_lt v)
    have rw' : ∀ j, j < 8 → scrimref1_Big.f k (((il m).take (((4 * j + 4 : Nat) : Int)).toNat).drop (((4 * j : Nat) : Int)).toNat) = some (((W false m).getD j 0 : Nat) : Int) := fun j hj => by
      rw [Int.toNat_natCast, Int.toNat_natCast]; exact rword (n := 8) h hm hj (by omega)
    have lm : ((il m).length : Int) = 32 := by rw [il_length, h]; rfl
    have c0 : decide ((i : Int) < 32) = true := by rw [decide_eq_true_eq]; omega
    have i31 : I64 (31 - (i : Int)) = ((31 - i : Nat) : Int) := by rw [I64_id (by omega) (by omega)]; omega
    have tm : ∀ z : Nat, Int.tmod (z : Int) 8 = ((z % 8 : Nat) : Int) := fun z => rfl
    have f4 : ∀ z : Nat, z < 100 → I64 (4 * (z : Int)) = ((4 * z : Nat) : Int) := fun z hz => I64_nat (n := 4 * z) (by omega)
    have p4 : ∀ z : Nat, z < 100 → I64 (((4 * z : Nat) : Int) + 4) = ((4 * z + 4 : Nat) : Int) := fun z hz => I64_nat (n := 4 * z + 4) (by omega)
    have s7 : ∀ z : Nat, z < 8 → I64 (7 - (z : Int)) = ((7 - z : Nat) : Int) := fun z hz => by rw [I64_id (by omega) (by omega)]; omega
    have C1 : ∀ j : Nat, decide (0 ≤ ((4 * j : Nat) : Int)) = true := fun j => by rw [decide_eq_true_eq]; omega
    have C2 : ∀ j : Nat, decide (((4 * j : Nat) : Int) ≤ ((4 * j + 4 : Nat) : Int)) = true := fun j => by rw [decide_eq_true_eq]; omega
    have C3 : ∀ j : Nat, j < 8 → decide (((4 * j + 4 : Nat) : Int) ≤ 32) = true := fun j hj => by rw [decide_eq_true_eq]; omega
    cases dir with
    | true =>
      rw [if_pos rfl] at next
      by_cases h24 : 24 ≤ 31 - i
      · rw [if_pos h24] at next
        have hz : (31 - i) % 8 < 8 := Nat.mod_lt _ (by decide)
        rw [scrimlaw8_SmallMagma.l0, if_pos c0, if_pos rfl, i31, if_pos (by rw [decide_eq_true_eq]; omega), tm, s7 _ hz, f4 _ (by omega), Option.bind_some, p4 _ (by omega), if_pos (C1 _), if_pos (C2 _), lm, if_pos (C3 _ (by omega)), rw' _ (by omega), Option.bind_some, uw, g, Option.bind_some, bx, a2]
        exact next
      · rw [if_neg h24] at next
        have hz : (31 - i) % 8 < 8 := Nat.mod_lt _ (by decide)
        rw [scrimlaw8_SmallMagma.l0, if_pos c0, if_pos rfl, i31, if_neg (by rw [decide_eq_true_eq]; omega), tm, f4 _ (by omega), p4 _ (by omega), Option.bind_some, if_pos (C1 _), if_pos (C2 _), lm, if_pos (C3 _ (by omega)), rw' _ (by omega), Option.bind_some, uw, g, Option.bind_some, bx, a2]
        exact next
    | false =>
      rw [if_neg (by decide)] at next
      have hz : i % 8 < 8 := Nat.mod_lt _ (by decide)
      by_cases h24 : 24 ≤ i
      · rw [if_pos h24] at next
        rw [scrimlaw8_SmallMagma.l0, if_pos c0, if_neg (by decide), if_pos (by rw [decide_eq_true_eq]; omega), tm, s7 _ hz, f4 _ (by omega), p4 _ (by omega), Option.bind_some, if_pos (C1 _), if_pos (C2 _), lm, if_pos (C3 _ (by omega)), rw' _ (by omega), Option.bind_some, uw, g, Option.bind_some, bx, a2]
        exact next
      · rw [if_neg h24] at next
        rw [scrimlaw8_SmallMagma.l0, if_pos c0, if_neg (by decide), if_neg (by rw [decide_eq_true_eq]; omega), tm, f4 _ (by omega), p4 _ (by omega), if_pos (C1 _), if_pos (C2 _), lm, if_pos (C3 _ (by omega)), rw' _ (by omega), Option.bind_some, uw, g, Option.bind_some, bx, a2]
        exact next
theorem pass (x : List Int × Int) (e : Int) (f : List Int × Int → Option Bool) : (if ((some x, e) : Option (List Int × Int) × Int).1.isSome = true then ((some x, e) : Option (List Int × Int) × Int).1.bind f else some false) = f x := rfl
theorem SmallMagma (a0 : List Int) (a1 : List Int) (a2 : Bool) (h0 : a0.length ≤ maxLen) (h1 : ∀ x ∈ a0, In .u8 x) (h2 : a1.length ≤ maxLen) (h3 : ∀ x ∈ a1, In .u8 x) : ∃ k, scrimlaw8_SmallMagma.f k a0 a1 a2 = some true := by
  obtain ⟨l0, rfl, hl0⟩ := il_of h1
  obtain ⟨l1, rfl, hl1⟩ := il_of h3
  obtain ⟨k, hk⟩ : ∃ k : Nat, 900 ≤ k := ⟨900, Nat.le_refl _⟩
  refine ⟨k, ?_⟩
  obtain ⟨m, b1, hm, hmb⟩ := bytes8_eq (n := 32) (by decide) hl0 (k := k) (by omega)
  obtain ⟨n, b2, hn, hnb⟩ := bytes8_eq (n := 8) (by decide) hl1 (k := k) (by omega)
  have nw := new5 hm hmb (k := k) (by omega)
  have nl : (il n).length = 8 := by rw [il_length, hn]
  unfold scrimlaw8_SmallMagma.f
  simp only [Int.cast_ofNat_Int] at b1 b2
  have wd := B2_wd false hn hnb
  have g0 := rword (n := 2) (j := 0) (k := k) hn hnb (by omega) (by omega)
  have g1 := rword (n := 2) (j := 1) (k := k) hn hnb (by omega) (by omega)
  have g0' : scrimref1_Big.f k (((il n).take (4 : Int).toNat).drop (0 : Int).toNat) = some (((B2 false n).1 : Nat) : Int) := g0
  have g1' : scrimref1_Big.f k (((il n).take (((il n).length : Int) : Int).toNat).drop (4 : Int).toNat) = some (((B2 false n).2 : Nat) : Int) := by
    rw [nl]; exact g1
  have u0 : U32 ((B2 false n).1 : Int) = ((B2 false n).1 : Int) := by rw [U32_nat, Nat.mod_eq_of_lt wd.1]
  have u1 : U32 ((B2 false n).2 : Int) = ((B2 false n).2 : Int) := by rw [U32_nat, Nat.mod_eq_of_lt wd.2]
  rw [known8_eq (by omega), Option.bind_some, if_neg (by decide), b1, Option.bind_some, b2, Option.bind_some, nw, Option.bind_some, pass, if_pos (by decide), if_pos (by rw [nl]; decide), if_pos (by rw [nl]; decide), g0', Option.bind_some, g1', Option.bind_some, u0, u1]
  exact magma_l0 hmb hm hn hnb a2 32 (i := 0) (by omega) (by omega) wd rfl
end Go.Scr.S
