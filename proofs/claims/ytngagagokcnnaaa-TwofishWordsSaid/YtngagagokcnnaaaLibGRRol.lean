/- The plain law of GRRol. -/
import Derived.Test.YtngagagokcnnaaaFnTwofishWords
import Derived.Test.YtngagagokcnnaaaLibNum
import Derived.Test.YtngagagokcnnaaaLibIl
import Derived.Test.YtngagagokcnnaaaLibGRest
import Derived.Test.YtngagagokcnnaaaLibGRol
set_option linter.unusedVariables false
set_option linter.unusedSimpArgs false
set_option linter.unnecessarySimpa false
namespace Go.Scr.S
theorem rrest_eq {k : Nat} (n : Int) {b : Nat} (h : 0 < b) (h1 : b < 4611686018427387904) : scrimref1_rest.f k n (b : Int) = some (((n % (b : Int)).toNat : Nat) : Int) := by
  unfold scrimref1_rest.f
  rw [if_neg (by simp; omega), if_neg (by simp; omega), rest_fix n b h h1]
theorem rrol32_eq {a k : Nat} (ha : a < 4294967296) (n : Int) : scrimref1_Rol32.f k (a : Int) n = some ((rolN a (n % 32).toNat : Nat) : Int) := by
  unfold scrimref1_Rol32.f
  have e2 := rrest_eq (k := k) n (b := 32) (by decide) (by decide)
  simp only [Int.cast_ofNat_Int] at e2
  have h3 := Int.emod_lt_of_pos n (show (0 : Int) < 32 by decide)
  obtain ⟨s, es⟩ : ∃ s, s = (n % 32).toNat := ⟨_, rfl⟩
  have hs : s < 32 := by omega
  rw [e2, ← es]
  clear e2 es h3
  simp only [Option.bind_some]
  have u1 : U64 (s : Int) = (s : Int) := U64_id (by omega) (by omega)
  have u2 : U64 (32 - (s : Int)) = ((32 - s : Nat) : Int) := by rw [U64_id (by omega) (by omega)]; omega
  have e1 : shlv .u32 (a : Int) (s : Int) = (((a <<< s) % 4294967296 : Nat) : Int) := by
    show shl .u32 _ (min ((s : Int)).toNat 32) = _
    rw [shl32, Int.toNat_natCast, Nat.min_eq_left (by omega)]
  have e4 : shrv .u32 (a : Int) ((32 - s : Nat) : Int) = ((a >>> (32 - s) : Nat) : Int) := by
    show shr _ (min (((32 - s : Nat) : Int)).toNat 32) = _
    rw [shr_nat]; congr 2; rw [Int.toNat_natCast]; omega
  have hY : a >>> (32 - s) < 4294967296 := by rw [Nat.shiftRight_eq_div_pow]; exact Nat.lt_of_le_of_lt (Nat.div_le_self _ _) ha
  have e3 := bo32 (a := (a <<< s) % 4294967296) (by omega) hY
  rw [u1, u2, if_pos (by rw [decide_eq_true_eq]; omega), if_pos (by rw [decide_eq_true_eq]; omega), e1, e4, e3]; rfl
end Go.Scr.S
