/- The plain law of TwR. -/
import Derived.Test.YtngagagokcnnaaaFnTwofishH
import Derived.Test.YtngagagokcnnaaaLibNum
import Derived.Test.YtngagagokcnnaaaLibGf
import Derived.Test.YtngagagokcnnaaaLibFieldMu0
import Derived.Test.YtngagagokcnnaaaLibFieldRMu0
import Derived.Test.YtngagagokcnnaaaLibIl
import Derived.Test.YtngagagokcnnaaaLibGLoad
import Derived.Test.YtngagagokcnnaaaLibFill
import Derived.Test.YtngagagokcnnaaaLibGIl
import Derived.Test.YtngagagokcnnaaaLibGStore
import Derived.Test.YtngagagokcnnaaaLibGXor
import Derived.Test.YtngagagokcnnaaaLibTwQ
import Derived.Test.YtngagagokcnnaaaLibTwRQ
import Derived.Test.YtngagagokcnnaaaLibTwH
import Derived.Test.YtngagagokcnnaaaLibTwM
set_option linter.unusedVariables false
set_option linter.unusedSimpArgs false
set_option linter.unnecessarySimpa false
namespace Go.Scr.S
theorem shrv32' {a n : Nat} (hn : n < 32) : shrv .u32 (a : Int) (n : Int) = ((a >>> n : Nat) : Int) := by
  show shr _ (min _ 32) = _
  rw [Int.toNat_natCast, Nat.min_eq_left (by omega), shr_nat]
theorem shlv32' {a n : Nat} (hn : n < 32) : shlv .u32 (a : Int) (n : Int) = (((a <<< n) % 4294967296 : Nat) : Int) := by
  show shl .u32 _ (min _ 32) = _
  rw [Int.toNat_natCast, Nat.min_eq_left (by omega), shl32]
theorem u8j {j : Nat} (hj : j < 4) : U64 (I64 (8 * (j : Int))) = ((8 * j : Nat) : Int) := by
  have : I64 (8 * (j : Int)) = ((8 * j : Nat) : Int) := I64_nat (n := 8 * j) (by omega)
  rw [this, U64_nat, Nat.mod_eq_of_lt (by omega)]
theorem laid_s {x : List Nat} (hx : B4 x) {w : Nat} {j k : Nat} (hj : j < 4) : scrimref9_laid.l0 (k + 1) (w : Int) (il x) (j : Int) = scrimref9_laid.l0 k (w : Int) (il (x.set j (x.getD j 0 ^^^ (w >>> (8 * j)) % 256))) ((j + 1 : Nat) : Int) := by
  have c0 : decide (0 ≤ (j : Int)) = true := by rw [decide_eq_true_eq]; omega
  have c1 : decide ((j : Int) < 4) = true := by rw [decide_eq_true_eq]; omega
  have a2 : I64 ((j : Int) + 1) = ((j + 1 : Nat) : Int) := I64_nat (n := j + 1) (by omega)
  rw [scrimref9_laid.l0, if_pos c1, if_pos c0, if_pos c1, u8j hj, if_pos (by rw [decide_eq_true_eq]; omega), shrv32' (by omega), U8_nat, il_rd', bx8 (hx.at j) (Nat.mod_lt _ (by decide)), Option.bind_some, if_pos c0, if_pos c1, Int.toNat_natCast, il_set, a2]
theorem laid_eq {x : List Nat} (hx : B4 x) {w k : Nat} (hk : 10 ≤ k) : scrimref9_laid.f k (il x) (w : Int) = some (il (x4 x (wb w))) := by
  obtain ⟨k, rfl⟩ : ∃ j, k = j + 5 := ⟨k - 5, by omega⟩
  have l : ∀ v j, v < 256 → v ^^^ (w >>> (8 * j)) % 256 < 256 := fun v j hv => x8lt hv (Nat.mod_lt _ (by decide))
  have e0 := laid_s hx (w := w) (j := 0) (k := k + 4) (by omega)
  have o1 := hx.set 0 (l _ 0 (hx.at 0))
  have e1 := laid_s o1 (w := w) (j := 1) (k := k + 3) (by omega)
  have o2 := o1.set 1 (l _ 1 (o1.at 1))
  have e2 := laid_s o2 (w := w) (j := 2) (k := k + 2) (by omega)
  have o3 := o2.set 2 (l _ 2 (o2.at 2))
  have e3 := laid_s o3 (w := w) (j := 3) (k := k + 1) (by omega)
  unfold scrimref9_laid.f
  refine (e0.trans (e1.trans (e2.trans e3))).trans ?_
  rw [scrimref9_laid.l0, if_neg (by decide)]
  obtain ⟨a, b, c, d, rfl⟩ := hx.four
  unfold wb; rw [dig4]; rfl
theorem stage_s {i : Nat} {x : List Nat} (hx : B4 x) {j k : Nat} (hj : j < 4) (hk : 10 ≤ k) : scrimref9_stage.l0 (k + 1) (il (ord i)) (il x) (j : Int) = scrimref9_stage.l0 k (il (ord i)) (il (x.set j (qv i j (x.getD j 0)))) ((j + 1 : Nat) : Int) := by
  have c0 : decide (0 ≤ (j : Int)) = true := by rw [decide_eq_true_eq]; omega
  have c1 : decide ((j : Int) < 4) = true := by rw [decide_eq_true_eq]; omega
  have a2 : I64 ((j : Int) + 1) = ((j + 1 : Nat) : Int) := I64_nat (n := j + 1) (by omega)
  have q := rq_eq (k := k) (ord_lt i j) (hx.at j) hk
  rw [scrimref9_stage.l0, if_pos c1, if_pos c0, if_pos c1, if_pos c0, if_pos c1, il_rd', il_rd', q, Option.bind_some, if_pos c0, if_pos c1, Int.toNat_natCast, il_set, a2]
  rfl
theorem stage_eq (i : Nat) {x : List Nat} (hx : B4 x) {k : Nat} (hk : 20 ≤ k) : scrimref9_stage.f k (il x) (il (ord i)) = some (il (sbq i x)) := by
  obtain ⟨k, rfl⟩ : ∃ j, k = j + 5 := ⟨k - 5, by omega⟩
  have e0 := stage_s (i := i) hx (j := 0) (k := k + 4) (by omega) (by omega)
  have o1 := hx.set 0 (qv_lt i 0 (x.getD 0 0))
  have e1 := stage_s (i := i) o1 (j := 1) (k := k + 3) (by omega) (by omega)
  have o2 := o1.set 1 (qv_lt i 1 ((x.set 0 (qv i 0 (x.getD 0 0))).getD 1 0))
  have e2 := stage_s (i := i) o2 (j := 2) (k := k + 2) (by omega) (by omega)
  have o3 := o2.set 2 (qv_lt i 2 (((x.set 0 (qv i 0 (x.getD 0 0))).set 1 (qv i 1 ((x.set 0 (qv i 0 (x.getD 0 0))).getD 1 0))).getD 2 0))
  have e3 := stage_s (i := i) o3 (j := 3) (k := k + 1) (by omega) (by omega)
  unfold scrimref9_stage.f
  refine (e0.trans (e1.trans (e2.trans e3))).trans ?_
  rw [scrimref9_stage.l0, if_neg (by decide)]
  obtain ⟨a, b, c, d, rfl⟩ := hx.four
  rfl
/-- A byte laid at its place in a word. -/
def at8 (r v : Nat) : Nat := v <<< (8 * r)
theorem at8_lt {r v : Nat} (hr : r < 4) (hv : v < 256) : at8 r v < 4294967296 := by
  unfold at8; rw [Nat.shiftLeft_eq]
  have : 2 ^ (8 * r) ≤ 2 ^ 24 := Nat.pow_le_pow_right (by decide) (by omega)
  have h2 : v * 2 ^ (8 * r) ≤ 255 * 2 ^ 24 := Nat.mul_le_mul (by omega) this
  omega
theorem x32' {x y : Nat} (hx : x < 4294967296) (hy : y < 4294967296) : x ^^^ y < 4294967296 := Nat.xor_lt_two_pow (n := 32) hx hy
theorem mr_idx : ∀ r : Nat, r < 4 → ∀ j : Nat, j < 4 → rd ([1, 239, 91, 91, 91, 239, 239, 1, 239, 91, 1, 239, 239, 1, 239, 91] : List Int) (((r : Int) * (4 : Int)) + (j : Int)) = ((mr r j : Nat) : Int) := by decide
theorem at8_xor (r a b : Nat) : at8 r (a ^^^ b) = at8 r a ^^^ at8 r b := by unfold at8; exact Nat.shiftLeft_xor_distrib
theorem add_xor {a b n : Nat} (h : a < 2 ^ n) : a ^^^ b <<< n = a + b * 2 ^ n := by
  rw [← Nat.shiftLeft_eq, Nat.add_comm, Nat.shiftLeft_add_eq_or_of_lt h]
  refine Nat.eq_of_testBit_eq fun i => ?_
  rw [Nat.testBit_xor, Nat.testBit_or, Nat.testBit_shiftLeft]
  by_cases hi : i < n
  · have : ¬ i ≥ n := by omega
    simp [this]
  · have : a.testBit i = false := Nat.testBit_lt_two_pow (Nat.lt_of_lt_of_le h (Nat.pow_le_pow_right (by decide) (by omega)))
    simp [this]
theorem word4 {y0 y1 y2 y3 : Nat} (h0 : y0 < 256) (h1 : y1 < 256) (h2 : y2 < 256) : (((0 ^^^ at8 0 y0) ^^^ at8 1 y1) ^^^ at8 2 y2) ^^^ at8 3 y3 = bigN [y3, y2, y1, y0] := by
  have e1 : y0 ^^^ y1 <<< 8 = y0 + y1 * 2 ^ 8 := add_xor (by omega)
  have e2 : (y0 + y1 * 2 ^ 8) ^^^ y2 <<< 16 = y0 + y1 * 2 ^ 8 + y2 * 2 ^ 16 := add_xor (by omega)
  have e3 : (y0 + y1 * 2 ^ 8 + y2 * 2 ^ 16) ^^^ y3 <<< 24 = y0 + y1 * 2 ^ 8 + y2 * 2 ^ 16 + y3 * 2 ^ 24 := add_xor (by omega)
  show (((0 ^^^ y0) ^^^ y1 <<< 8) ^^^ y2 <<< 16) ^^^ y3 <<< 24 = _
  rw [Nat.zero_xor, e1, e2, e3]
  simp only [bigN, List.foldl]; omega
theorem row_at (r v : Nat) (x : List Nat) : (((v ^^^ at8 r (mm r 0 x)) ^^^ at8 r (mm r 1 x)) ^^^ at8 r (mm r 2 x)) ^^^ at8 r (mm r 3 x) = v ^^^ at8 r (rowN r 0 x) := by
  unfold rowN; rw [Nat.zero_xor, at8_xor, at8_xor, at8_xor]; simp only [Nat.xor_assoc]
end Go.Scr.S
