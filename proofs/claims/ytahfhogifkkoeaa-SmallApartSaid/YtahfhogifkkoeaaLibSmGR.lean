/- The plain law of SmGR. -/
import Derived.Test.YtahfhogifkkoeaaFnSmallApart
import Derived.Test.YtahfhogifkkoeaaLibNum
import Derived.Test.YtahfhogifkkoeaaLibIl
import Derived.Test.YtahfhogifkkoeaaLibGRest
import Derived.Test.YtahfhogifkkoeaaLibGRol
import Derived.Test.YtahfhogifkkoeaaLibGRRol
import Derived.Test.YtahfhogifkkoeaaLibSmNum
import Derived.Test.YtahfhogifkkoeaaLibSmRol
import Derived.Test.YtahfhogifkkoeaaLibSmG
set_option linter.unusedVariables false
set_option linter.unusedSimpArgs false
set_option linter.unnecessarySimpa false
namespace Go.Scr.S
theorem rrow_eq {k i : Nat} (hi : i < 8) : scrimref8_row.f k (i : Int) = some (rds gRows (i : Int)) := by
  unfold scrimref8_row.f
  rw [if_pos (by rw [decide_eq_true_eq]; omega), if_pos (by rw [decide_eq_true_eq]; omega)]; rfl
theorem rat_eq : ∀ i : Nat, i < 8 → ∀ d : Nat, d < 16 → scrimref6_At.f 0 (rds gRows (i : Int)) (d : Int) = some ((mT i d : Nat) : Int) := by decide +kernel
theorem at_k {k : Nat} (s : ByteArray) (a : Int) : scrimref6_At.f k s a = scrimref6_At.f 0 s a := rfl
theorem rG_l0 {x y : Nat} (z : Nat) (hz : wa x y = z) (d : Nat) {k i : Nat} (hk : d < k) (hi : i + d = 8) : scrimref8_G.l0 k (x : Int) (y : Int) ((ac z i : Nat) : Int) (i : Int) = some ((gN z : Nat) : Int) := by
  have hzl : z < 4294967296 := hz ▸ wa_lt x y
  induction d generalizing k i with
  | zero =>
    obtain ⟨k, rfl⟩ : ∃ q, k = q + 1 := ⟨k - 1, by omega⟩
    have : i = 8 := by omega
    subst this
    have := rrol32_eq (k := k) (ac32 z) 11
    rw [scrimref8_G.l0, if_neg (by decide), this]; rfl
  | succ d ih =>
    obtain ⟨k, rfl⟩ : ∃ q, k = q + 1 := ⟨k - 1, by omega⟩
    have a1 : U64 (I64 (4 * (i : Int))) = ((4 * i : Nat) : Int) := by
      have : I64 (4 * (i : Int)) = ((4 * i : Nat) : Int) := I64_nat (n := 4 * i) (by omega)
      rw [this, U64_nat, Nat.mod_eq_of_lt (by omega)]
    have a2 : I64 ((i : Int) + 1) = ((i + 1 : Nat) : Int) := I64_nat (n := i + 1) (by omega)
    have hd : z / 16 ^ i % 16 < 16 := Nat.mod_lt _ (by decide)
    have a3 : I64 (band .u32 (shrv .u32 (U32 ((x : Int) + (y : Int))) ((4 * i : Nat) : Int)) 15) = ((z / 16 ^ i % 16 : Nat) : Int) := by
      rw [U32_add, hz, shrv32 (by omega), ba15 (Nat.lt_of_le_of_lt (Nat.shiftRight_le _ _) hzl), dig_shr, I64_nat (by omega)]
    have a4 := rat_eq i (by omega) (z / 16 ^ i % 16) hd
    have ht := mT_lt i (by omega) _ hd
    have hacl := ac_lt z i (by omega)
    have hp : 16 ^ i * 16 ≤ 4294967296 := by
      have : 16 ^ (i + 1) ≤ 16 ^ 8 := Nat.pow_le_pow_right (by decide) (by omega)
      rw [Nat.pow_succ] at this; omega
    have hmul : mT i (z / 16 ^ i % 16) * 16 ^ i < 4294967296 := by
      have : mT i (z / 16 ^ i % 16) * 16 ^ i ≤ 15 * 16 ^ i := Nat.mul_le_mul_right _ (by omega)
      omega
    have hsh : mT i (z / 16 ^ i % 16) <<< (4 * i) = mT i (z / 16 ^ i % 16) * 16 ^ i := by rw [Nat.shiftLeft_eq, Nat.pow_mul]
    have a6 : bor .u32 ((ac z i : Nat) : Int) (shlv .u32 (U32 ((mT i (z / 16 ^ i % 16) : Nat) : Int)) ((4 * i : Nat) : Int)) = ((ac z (i + 1) : Nat) : Int) := by
      rw [U32_nat, Nat.mod_eq_of_lt (by omega), shlv32 (by omega), hsh, Nat.mod_eq_of_lt hmul, bo32 (by omega) hmul, ← hsh, or_add hacl]; rfl
    rw [scrimref8_G.l0, if_pos (by rw [decide_eq_true_eq]; omega), rrow_eq (by omega), Option.bind_some, a1, if_pos (by rw [decide_eq_true_eq]; omega), a3, Option.bind_some, at_k, a4, Option.bind_some, if_pos (by rw [decide_eq_true_eq]; omega), a6, Option.bind_some, a2]
    exact ih (by omega) (by omega)
theorem rG_eq {x y k : Nat} (hk : 10 ≤ k) : scrimref8_G.f k (x : Int) (y : Int) = some ((gN (wa x y) : Nat) : Int) := by
  unfold scrimref8_G.f
  exact rG_l0 (wa x y) rfl 8 (i := 0) (by omega) (by omega)
end Go.Scr.S
