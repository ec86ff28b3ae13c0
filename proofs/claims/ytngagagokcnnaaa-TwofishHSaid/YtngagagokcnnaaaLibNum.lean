/- The plain law of Num. -/
import Derived.Test.YtngagagokcnnaaaXDeep3
set_option linter.unusedVariables false
set_option linter.unusedSimpArgs false
set_option linter.unnecessarySimpa false
namespace Go.Scr.S
theorem U8_nat (n : Nat) : U8 (n : Int) = ((n % 256 : Nat) : Int) := by simp [U8, IntKind.wrap, IntKind.bits, IntKind.signed]
theorem U32_nat (n : Nat) : U32 (n : Int) = ((n % 4294967296 : Nat) : Int) := by simp [U32, IntKind.wrap, IntKind.bits, IntKind.signed]
theorem U64_nat (n : Nat) : U64 (n : Int) = ((n % 18446744073709551616 : Nat) : Int) := by simp [U64, IntKind.wrap, IntKind.bits, IntKind.signed]
theorem U8_id {x : Int} (h0 : 0 ≤ x) (h1 : x < 256) : U8 x = x := by simp [U8, IntKind.wrap, IntKind.bits, IntKind.signed]; omega
theorem U32_id {x : Int} (h0 : 0 ≤ x) (h1 : x < 4294967296) : U32 x = x := by simp [U32, IntKind.wrap, IntKind.bits, IntKind.signed]; omega
theorem U64_id {x : Int} (h0 : 0 ≤ x) (h1 : x < 18446744073709551616) : U64 x = x := by simp [U64, IntKind.wrap, IntKind.bits, IntKind.signed]; omega
theorem I64_id {x : Int} (h0 : -9223372036854775808 ≤ x) (h1 : x < 9223372036854775808) : I64 x = x := by
  simp only [I64, IntKind.wrap, IntKind.bits, IntKind.signed, Bool.true_and]; split <;> simp at * <;> omega
theorem I64_nat {n : Nat} (h1 : n < 9223372036854775808) : I64 (n : Int) = n := I64_id (by omega) (by omega)
/-- Bits of numbers that fit. -/
theorem bx_of {k : IntKind} {a b : Nat} (ha : a < 2 ^ k.bits) (hb : b < 2 ^ k.bits) : bxor k (a : Int) (b : Int) = k.wrap ((a ^^^ b : Nat) : Int) := by
  unfold bxor; congr 2
  rw [BitVec.toNat_xor, BitVec.ofInt_natCast, BitVec.ofInt_natCast, BitVec.toNat_ofNat, BitVec.toNat_ofNat, Nat.mod_eq_of_lt ha, Nat.mod_eq_of_lt hb]
theorem ba_of {k : IntKind} {a b : Nat} (ha : a < 2 ^ k.bits) (hb : b < 2 ^ k.bits) : band k (a : Int) (b : Int) = k.wrap ((a &&& b : Nat) : Int) := by
  unfold band; congr 2
  rw [BitVec.toNat_and, BitVec.ofInt_natCast, BitVec.ofInt_natCast, BitVec.toNat_ofNat, BitVec.toNat_ofNat, Nat.mod_eq_of_lt ha, Nat.mod_eq_of_lt hb]
theorem bo_of {k : IntKind} {a b : Nat} (ha : a < 2 ^ k.bits) (hb : b < 2 ^ k.bits) : bor k (a : Int) (b : Int) = k.wrap ((a ||| b : Nat) : Int) := by
  unfold bor; congr 2
  rw [BitVec.toNat_or, BitVec.ofInt_natCast, BitVec.ofInt_natCast, BitVec.toNat_ofNat, BitVec.toNat_ofNat, Nat.mod_eq_of_lt ha, Nat.mod_eq_of_lt hb]
theorem bx8 {a b : Nat} (ha : a < 256) (hb : b < 256) : bxor .u8 (a : Int) (b : Int) = ((a ^^^ b : Nat) : Int) := by
  rw [bx_of (by simpa [IntKind.bits] using ha) (by simpa [IntKind.bits] using hb)]
  exact (U8_nat _).trans (by rw [Nat.mod_eq_of_lt (Nat.xor_lt_two_pow (n := 8) ha hb)])
theorem bx32 {a b : Nat} (ha : a < 4294967296) (hb : b < 4294967296) : bxor .u32 (a : Int) (b : Int) = ((a ^^^ b : Nat) : Int) := by
  rw [bx_of (by simpa [IntKind.bits] using ha) (by simpa [IntKind.bits] using hb)]
  exact (U32_nat _).trans (by rw [Nat.mod_eq_of_lt (Nat.xor_lt_two_pow (n := 32) ha hb)])
theorem bxi {a b : Nat} (ha : a < 9223372036854775808) (hb : b < 9223372036854775808) : bxor .i64 (a : Int) (b : Int) = ((a ^^^ b : Nat) : Int) := by
  rw [bx_of (by simp [IntKind.bits]; omega) (by simp [IntKind.bits]; omega)]
  exact I64_nat (Nat.xor_lt_two_pow (n := 63) ha hb)
theorem bai {a b : Nat} (ha : a < 9223372036854775808) (hb : b < 9223372036854775808) : band .i64 (a : Int) (b : Int) = ((a &&& b : Nat) : Int) := by
  rw [ba_of (by simp [IntKind.bits]; omega) (by simp [IntKind.bits]; omega)]
  exact I64_nat (Nat.lt_of_le_of_lt Nat.and_le_left ha)
theorem ba8 {a b : Nat} (ha : a < 256) (hb : b < 256) : band .u8 (a : Int) (b : Int) = ((a &&& b : Nat) : Int) := by
  rw [ba_of (by simpa [IntKind.bits] using ha) (by simpa [IntKind.bits] using hb)]
  exact (U8_nat _).trans (by rw [Nat.mod_eq_of_lt (Nat.lt_of_le_of_lt Nat.and_le_left ha)])
theorem bo8 {a b : Nat} (ha : a < 256) (hb : b < 256) : bor .u8 (a : Int) (b : Int) = ((a ||| b : Nat) : Int) := by
  rw [bo_of (by simpa [IntKind.bits] using ha) (by simpa [IntKind.bits] using hb)]
  exact (U8_nat _).trans (by rw [Nat.mod_eq_of_lt (Nat.or_lt_two_pow (n := 8) ha hb)])
theorem bo32 {a b : Nat} (ha : a < 4294967296) (hb : b < 4294967296) : bor .u32 (a : Int) (b : Int) = ((a ||| b : Nat) : Int) := by
  rw [bo_of (by simpa [IntKind.bits] using ha) (by simpa [IntKind.bits] using hb)]
  exact (U32_nat _).trans (by rw [Nat.mod_eq_of_lt (Nat.or_lt_two_pow (n := 32) ha hb)])
theorem bo64 {a b : Nat} (ha : a < 18446744073709551616) (hb : b < 18446744073709551616) : bor .u64 (a : Int) (b : Int) = ((a ||| b : Nat) : Int) := by
  rw [bo_of (by simpa [IntKind.bits] using ha) (by simpa [IntKind.bits] using hb)]
  exact (U64_nat _).trans (by rw [Nat.mod_eq_of_lt (Nat.or_lt_two_pow (n := 64) ha hb)])
/-- Shifts of numbers that fit. -/
theorem shr_nat (a n : Nat) : shr (a : Int) n = ((a >>> n : Nat) : Int) := by
  unfold shr; rw [Int.fdiv_eq_ediv_of_nonneg _ (Int.le_of_lt (Int.pow_pos (by decide)))]; simp [Nat.shiftRight_eq_div_pow]
theorem shl_nat (k : IntKind) (a n : Nat) : shl k (a : Int) n = k.wrap ((a <<< n : Nat) : Int) := by
  unfold shl; congr 1; simp [Nat.shiftLeft_eq]
theorem shli {a n : Nat} (h : a <<< n < 9223372036854775808) : shl .i64 (a : Int) n = ((a <<< n : Nat) : Int) := (shl_nat _ _ _).trans (I64_nat h)
theorem shl8 (a n : Nat) : shl .u8 (a : Int) n = (((a <<< n) % 256 : Nat) : Int) := (shl_nat _ _ _).trans (U8_nat _)
theorem shl32 (a n : Nat) : shl .u32 (a : Int) n = (((a <<< n) % 4294967296 : Nat) : Int) := (shl_nat _ _ _).trans (U32_nat _)
theorem shl64 (a n : Nat) : shl .u64 (a : Int) n = (((a <<< n) % 18446744073709551616 : Nat) : Int) := (shl_nat _ _ _).trans (U64_nat _)
theorem u8_of {x : Int} (h : In .u8 x) : ∃ n : Nat, n < 256 ∧ x = n := by obtain ⟨h0, h1⟩ := h; exact ⟨x.toNat, by omega, by omega⟩
theorem u32_of {x : Int} (h : In .u32 x) : ∃ n : Nat, n < 4294967296 ∧ x = n := by obtain ⟨h0, h1⟩ := h; exact ⟨x.toNat, by omega, by omega⟩
theorem u64_of {x : Int} (h : In .u64 x) : ∃ n : Nat, n < 18446744073709551616 ∧ x = n := by obtain ⟨h0, h1⟩ := h; exact ⟨x.toNat, by omega, by omega⟩
/-- The rest that is told by 'within'. -/
theorem tmod_fix (a n : Int) (h : 0 < n) : (if a.tmod n < 0 then a.tmod n + n else a.tmod n) = a % n := by
  have h1 := Int.emod_nonneg a (Int.ne_of_gt h)
  have h2 := Int.emod_lt_of_pos a h
  have h3 := Int.tmod_eq_emod (a := a) (b := n)
  rw [h3]
  split at * <;> split <;> omega
end Go.Scr.S
