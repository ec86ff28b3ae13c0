/- The plain law of SmG. -/
import Derived.Test.YtahfhogifkkoeaaFnSmallOwn
import Derived.Test.YtahfhogifkkoeaaLibNum
import Derived.Test.YtahfhogifkkoeaaLibIl
import Derived.Test.YtahfhogifkkoeaaLibGRest
import Derived.Test.YtahfhogifkkoeaaLibGRol
import Derived.Test.YtahfhogifkkoeaaLibSmNum
import Derived.Test.YtahfhogifkkoeaaLibSmRol
set_option linter.unusedVariables false
set_option linter.unusedSimpArgs false
set_option linter.unnecessarySimpa false
namespace Go.Scr.S
/-- Magma's rows, as numbers. -/
def mrows : List (List Nat) := [[12, 4, 6, 2, 10, 5, 11, 9, 14, 8, 13, 7, 0, 3, 15, 1], [6, 8, 2, 3, 9, 10, 5, 12, 1, 14, 4, 7, 11, 13, 0, 15], [11, 3, 5, 8, 2, 15, 10, 13, 14, 1, 7, 4, 12, 9, 6, 0], [12, 8, 2, 1, 13, 4, 15, 6, 7, 0, 10, 5, 3, 14, 9, 11],
  [7, 15, 5, 10, 8, 1, 6, 13, 0, 9, 3, 14, 11, 4, 2, 12], [5, 13, 15, 6, 9, 2, 12, 10, 11, 7, 8, 1, 4, 3, 14, 0], [8, 14, 2, 5, 6, 9, 1, 12, 15, 4, 11, 0, 13, 10, 3, 7], [1, 7, 14, 13, 0, 5, 8, 3, 4, 15, 10, 6, 9, 12, 11, 2]]
def mT (i d : Nat) : Nat := (mrows.getD i []).getD d 0
theorem mT_lt : ∀ i, i < 8 → ∀ d, d < 16 → mT i d < 16 := by decide
theorem mT_inj : ∀ i, i < 8 → ∀ d, d < 16 → ∀ e, e < 16 → mT i d = mT i e → d = e := by decide +kernel
/-- The digits through the rows. -/
def ac (x : Nat) : Nat → Nat
  | 0 => 0
  | i + 1 => ac x i + mT i (x / 16 ^ i % 16) * 16 ^ i
theorem ac_lt (x : Nat) : ∀ i, i ≤ 8 → ac x i < 16 ^ i
  | 0, _ => by simp [ac]
  | i + 1, h => by
    have h1 := ac_lt x i (by omega)
    have h2 := mT_lt i (by omega) (x / 16 ^ i % 16) (Nat.mod_lt _ (by decide))
    show ac x i + mT i (x / 16 ^ i % 16) * 16 ^ i < 16 ^ (i + 1)
    rw [Nat.pow_succ]
    have h3 : (mT i (x / 16 ^ i % 16) + 1) * 16 ^ i ≤ 16 * 16 ^ i := Nat.mul_le_mul_right _ (by omega)
    rw [Nat.add_mul, Nat.one_mul] at h3
    omega
theorem ac_digit (x : Nat) : ∀ n i, i < n → n ≤ 8 → ac x n / 16 ^ i % 16 = mT i (x / 16 ^ i % 16)
  | 0, i, h, _ => by omega
  | n + 1, i, h, h8 => by
    show (ac x n + mT n (x / 16 ^ n % 16) * 16 ^ n) / 16 ^ i % 16 = _
    rcases Nat.lt_or_ge i n with hi | hi
    · have hn : n = i + (n - i - 1) + 1 := by omega
      have e : mT n (x / 16 ^ n % 16) * 16 ^ n = 16 ^ i * (16 * (16 ^ (n - i - 1) * mT n (x / 16 ^ n % 16))) := by
        have : 16 ^ n = 16 ^ i * 16 * 16 ^ (n - i - 1) := by
          rw [← Nat.pow_succ, ← Nat.pow_add]; congr 1; omega
        rw [this]; ac_rfl
      rw [e, Nat.add_mul_div_left _ _ (Nat.pow_pos (by decide)), Nat.add_mul_mod_self_left]
      exact ac_digit x n i hi (by omega)
    · have : i = n := by omega
      subst this
      have h2 := mT_lt i (by omega) (x / 16 ^ i % 16) (Nat.mod_lt _ (by decide))
      rw [Nat.add_mul_div_right _ _ (Nat.pow_pos (by decide)), Nat.div_eq_of_lt (ac_lt x i (by omega)), Nat.zero_add, Nat.mod_eq_of_lt h2]
theorem digits_ext {x y : Nat} (hx : x < 4294967296) (hy : y < 4294967296) (h : ∀ i, i < 8 → x / 16 ^ i % 16 = y / 16 ^ i % 16) : x = y := by
  have h0 := h 0 (by decide); have h1 := h 1 (by decide); have h2 := h 2 (by decide); have h3 := h 3 (by decide)
  have h4 := h 4 (by decide); have h5 := h 5 (by decide); have h6 := h 6 (by decide); have h7 := h 7 (by decide)
  simp only [Nat.reducePow] at *
  omega
theorem ac_inj {x y : Nat} (hx : x < 4294967296) (hy : y < 4294967296) : ac x 8 = ac y 8 ↔ x = y := by
  refine ⟨fun h => digits_ext hx hy fun i hi => ?_, fun h => by rw [h]⟩
  exact mT_inj i hi _ (Nat.mod_lt _ (by decide)) _ (Nat.mod_lt _ (by decide)) (by rw [← ac_digit x 8 i hi (by decide), ← ac_digit y 8 i hi (by decide), h])
theorem ac32 (x : Nat) : ac x 8 < 4294967296 := ac_lt x 8 (by decide)
def gN (x : Nat) : Nat := rolN (ac x 8) 11
theorem gN_lt (x : Nat) : gN x < 4294967296 := rolN_lt (ac32 x)
theorem gN_inj {x y : Nat} (hx : x < 4294967296) (hy : y < 4294967296) : gN x = gN y ↔ x = y := by
  unfold gN; rw [rol_inj (ac32 x) (ac32 y) (by decide), ac_inj hx hy]
theorem dig_shr (x i : Nat) : x >>> (4 * i) = x / 16 ^ i := by
  rw [Nat.shiftRight_eq_div_pow, Nat.pow_mul]
theorem or_add {a t i : Nat} (ha : a < 16 ^ i) : a ||| t <<< (4 * i) = a + t * 16 ^ i := by
  rw [Nat.or_comm, ← Nat.shiftLeft_add_eq_or_of_lt (by rw [Nat.pow_mul]; exact ha), Nat.shiftLeft_eq, Nat.pow_mul, Nat.add_comm]
theorem shrv32 {a n : Nat} (hn : n < 32) : shrv .u32 (a : Int) (n : Int) = ((a >>> n : Nat) : Int) := by
  show shr _ (min _ 32) = _
  rw [Int.toNat_natCast, Nat.min_eq_left (by omega), shr_nat]
theorem shlv32 {a n : Nat} (hn : n < 32) : shlv .u32 (a : Int) (n : Int) = (((a <<< n) % 4294967296 : Nat) : Int) := by
  show shl .u32 _ (min _ 32) = _
  rw [Int.toNat_natCast, Nat.min_eq_left (by omega), shl32]
def gRows : List ByteArray := match small_rows.f 0 with | some l => l | none => []
theorem rows_eq {k : Nat} : small_rows.f k = some gRows := rfl
theorem row_size : ∀ i : Nat, i < 8 → (rds gRows (i : Int)).size = 16 := by decide +kernel
theorem row_sign : ∀ i : Nat, i < 8 → ∀ d : Nat, d < 16 → small_sign.f 0 (sb (rds gRows (i : Int)) (d : Int)) = some ((mT i d : Nat) : Int) := by decide +kernel
theorem sign_k {k : Nat} (a : Int) : small_sign.f k a = small_sign.f 0 a := rfl
theorem sg_l0 {x y : Nat} (z : Nat) (hz : wa x y = z) (d : Nat) {k i : Nat} (hk : d < k) (hi : i + d = 8) : small_G.l0 k (x : Int) (y : Int) gRows ((ac z i : Nat) : Int) (i : Int) = some ((gN z : Nat) : Int) := by
  have hzl : z < 4294967296 := hz ▸ wa_lt x y
  induction d generalizing k i with
  | zero =>
    obtain ⟨k, rfl⟩ : ∃ q, k = q + 1 := ⟨k - 1, by omega⟩
    have : i = 8 := by omega
    subst this
    have := rol32_eq (k := k) (ac32 z) 11
    rw [small_G.l0, if_neg (by decide), this]; rfl
  | succ d ih =>
    obtain ⟨k, rfl⟩ : ∃ q, k = q + 1 := ⟨k - 1, by omega⟩
    have a1 : I64 (4 * (i : Int)) = ((4 * i : Nat) : Int) := I64_nat (n := 4 * i) (by omega)
    have a2 : I64 ((i : Int) + 1) = ((i + 1 : Nat) : Int) := I64_nat (n := i + 1) (by omega)
    have a3 : band .u32 (shrv .u32 (U32 ((x : Int) + (y : Int))) ((4 * i : Nat) : Int)) 15 = ((z / 16 ^ i % 16 : Nat) : Int) := by
      rw [U32_add, hz, shrv32 (by omega), ba15 (Nat.lt_of_le_of_lt (Nat.shiftRight_le _ _) hzl), dig_shr]
    have hd : z / 16 ^ i % 16 < 16 := Nat.mod_lt _ (by decide)
    have a4 := row_sign i (by omega) (z / 16 ^ i % 16) hd
    have a5 := row_size i (by omega)
    have ht := mT_lt i (by omega) _ hd
    have hacl := ac_lt z i (by omega)
    have hp : 16 ^ i * 16 ≤ 4294967296 := by
      have : 16 ^ (i + 1) ≤ 16 ^ 8 := Nat.pow_le_pow_right (by decide) (by omega)
      rw [Nat.pow_succ] at this; omega
    have hmul : mT i (z / 16 ^ i % 16) * 16 ^ i < 4294967296 := by
      have : mT i (z / 16 ^ i % 16) * 16 ^ i ≤ 15 * 16 ^ i := Nat.mul_le_mul_right _ (by omega)
      omega
    have hsh : mT i (z / 16 ^ i % 16) <<< (4 * i) = mT i (z / 16 ^ i % 16) * 16 ^ i := by rw [Nat.shiftLeft_eq, Nat.pow_mul]
    have a6 : bor .u32 ((ac z i : Nat) : Int) (shlv .u32 ((mT i (z / 16 ^ i % 16) : Nat) : Int) ((4 * i : Nat) : Int)) = ((ac z (i + 1) : Nat) : Int) := by
      rw [shlv32 (by omega), hsh, Nat.mod_eq_of_lt hmul, bo32 (by omega) hmul, ← hsh, or_add hacl]; rfl
    rw [small_G.l0, if_pos (by rw [decide_eq_true_eq]; omega), if_pos (by rw [decide_eq_true_eq]; omega), if_pos (by rw [decide_eq_true_eq]; omega), a1, if_pos (by rw [decide_eq_true_eq]; omega), a3, Option.bind_some, if_pos (by rw [decide_eq_true_eq]; omega), a5, if_pos (by rw [decide_eq_true_eq]; omega), sign_k, a4, Option.bind_some, if_pos (by rw [decide_eq_true_eq]; omega), a6, Option.bind_some, a2]
    exact ih (by omega) (by omega)
theorem sG_eq {x y k : Nat} (hk : 10 ≤ k) : small_G.f k (x : Int) (y : Int) = some ((gN (wa x y) : Nat) : Int) := by
  unfold small_G.f
  rw [rows_eq, Option.bind_some]
  exact sg_l0 (wa x y) rfl 8 (i := 0) (by omega) (by omega)
end Go.Scr.S
