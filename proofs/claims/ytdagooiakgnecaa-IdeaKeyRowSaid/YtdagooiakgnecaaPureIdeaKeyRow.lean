/- The plain law of IdeaKeyRow. -/
import Derived.Test.YtdagooiakgnecaaFnIdeaKeyRow
import Derived.Test.YtdagooiakgnecaaLibNum
import Derived.Test.YtdagooiakgnecaaLibIl
import Derived.Test.YtdagooiakgnecaaLibFill
import Derived.Test.YtdagooiakgnecaaLibGIl
import Derived.Test.YtdagooiakgnecaaLibGTurn
import Derived.Test.YtdagooiakgnecaaLibGBits
import Derived.Test.YtdagooiakgnecaaLibIdeaKnown
import Derived.Test.YtdagooiakgnecaaLibIdeaBytes
import Derived.Test.YtdagooiakgnecaaLibIdeaKeys
set_option linter.unusedVariables false
set_option linter.unusedSimpArgs false
set_option linter.unnecessarySimpa false
namespace Go.Scr.S
/-- Bits of the key, from some place on, as a number. -/
def bitsN (m : List Nat) (at_ : Nat) : Nat → Nat
  | 0 => 0
  | n + 1 => 2 * bitsN m at_ n + (bitOf m ((at_ + n) % 128)).toNat
theorem bitsN_lt (m : List Nat) (at_ n : Nat) : bitsN m at_ n < 2 ^ n := by
  induction n with
  | zero => simp [bitsN]
  | succ n ih =>
    rw [Nat.pow_succ]
    have : (bitOf m ((at_ + n) % 128)).toNat ≤ 1 := Bool.toNat_le _
    simp only [bitsN]; omega
theorem bitsN_bit (m : List Nat) (at_ n i : Nat) (hi : i < n) : (bitsN m at_ n).testBit i = bitOf m ((at_ + (n - 1 - i)) % 128) := by
  induction n generalizing i with
  | zero => omega
  | succ n ih =>
    simp only [bitsN]
    cases i with
    | zero =>
      rw [Nat.testBit_zero, show n + 1 - 1 - 0 = n by omega]
      cases bitOf m ((at_ + n) % 128) <;> simp <;> omega
    | succ i =>
      rw [Nat.testBit_succ]
      have e : (2 * bitsN m at_ n + (bitOf m ((at_ + n) % 128)).toNat) / 2 = bitsN m at_ n := by
        have : (bitOf m ((at_ + n) % 128)).toNat ≤ 1 := Bool.toNat_le _
        omega
      rw [e, ih i (by omega)]
      congr 3; omega
theorem pair_bits {m : List Nat} (hm : ∀ x ∈ m, x < 256) (hl : m.length = 16) {c r : Nat} (hr : r < 8) : (kR m c).getD r 0 = bitsN m (25 * c + 16 * r) 16 := by
  have ht := turnN_lt hm (25 * (c : Int))
  have a1 := getD_lt ht (2 * r)
  have a2 := getD_lt ht (2 * r + 1)
  have e0 : (kR m c).getD r 0 = (turnN m (25 * (c : Int))).getD (2 * r) 0 * 256 + (turnN m (25 * (c : Int))).getD (2 * r + 1) 0 := by
    unfold kR pairs
    rw [List.getD_eq_getElem?_getD, List.getElem?_map, List.getElem?_range hr]; rfl
  rw [e0]
  refine Nat.eq_of_testBit_eq fun i => ?_
  rcases Nat.lt_or_ge i 16 with hi | hi
  · rw [bitsN_bit _ _ _ _ hi]
    have tb := fun p (hp : p < 128) => turn_bit hm (25 * (c : Int)) (p := p) (by omega)
    have h8 : (8 * m.length : Nat) = 128 := by omega
    have key : ∀ p, p < 128 → bitOf (turnN m (25 * (c : Int))) p = bitOf m ((25 * c + p) % 128) := by
      intro p hp
      rw [tb p hp, h8]
      congr 1
      have : ((25 * (c : Int)) % ((128 : Nat) : Int)).toNat = 25 * c % 128 := by omega
      rw [this]; omega
    have e1 : (turnN m (25 * (c : Int))).getD (2 * r) 0 * 256 + (turnN m (25 * (c : Int))).getD (2 * r + 1) 0 = 2 ^ 8 * (turnN m (25 * (c : Int))).getD (2 * r) 0 + (turnN m (25 * (c : Int))).getD (2 * r + 1) 0 := by omega
    rw [e1, Nat.testBit_two_pow_mul_add _ (by omega : (turnN m (25 * (c : Int))).getD (2 * r + 1) 0 < 2 ^ 8)]
    split
    · rename_i h8'
      have := key (16 * r + 15 - i) (by omega)
      unfold bitOf at this
      rw [show (16 * r + 15 - i) / 8 = 2 * r + 1 by omega, show 7 - (16 * r + 15 - i) % 8 = i by omega] at this
      rw [this]; unfold bitOf
      congr 3 <;> omega
    · have := key (16 * r + 15 - i) (by omega)
      unfold bitOf at this
      rw [show (16 * r + 15 - i) / 8 = 2 * r by omega, show 7 - (16 * r + 15 - i) % 8 = i - 8 by omega] at this
      rw [this]; unfold bitOf
      congr 3 <;> omega
  · rw [Nat.testBit_lt_two_pow (Nat.lt_of_lt_of_le (bitsN_lt _ _ 16) (Nat.pow_le_pow_right (by decide) hi))]
    exact Nat.testBit_lt_two_pow (Nat.lt_of_lt_of_le (by omega : _ < 2 ^ 16) (Nat.pow_le_pow_right (by decide) hi))
theorem kA_at (m : List Nat) : ∀ (n j : Nat), j < 8 * n → (kA m n).getD j 0 = (kR m (j / 8)).getD (j % 8) 0
  | 0, j, h => by omega
  | n + 1, j, h => by
    show (kA m n ++ kR m n).getD j 0 = _
    rw [List.getD_eq_getElem?_getD, List.getElem?_append, kA_length]
    split
    · rename_i hj
      rw [← List.getD_eq_getElem?_getD]; exact kA_at m n j hj
    · rw [← List.getD_eq_getElem?_getD, show j / 8 = n by omega, show j - 8 * n = j % 8 by omega]
theorem key_at {m : List Nat} (hm : ∀ x ∈ m, x < 256) (hl : m.length = 16) {j : Nat} (hj : j < 52) : ((kA m 7).take 52).getD j 0 = bitsN m (25 * (j / 8) + 16 * (j % 8)) 16 := by
  rw [← pair_bits hm hl (Nat.mod_lt _ (by decide)), ← kA_at m 7 j (by omega)]
  rw [List.getD_eq_getElem?_getD, List.getElem?_take, if_pos hj, ← List.getD_eq_getElem?_getD]
theorem key_first {m : List Nat} (hm : ∀ x ∈ m, x < 256) (hl : m.length = 16) {j : Nat} (hj : j < 8) : ((kA m 7).take 52).getD j 0 = m.getD (2 * j) 0 * 256 + m.getD (2 * j + 1) 0 := by
  rw [List.getD_eq_getElem?_getD, List.getElem?_take, if_pos (by omega), ← List.getD_eq_getElem?_getD, kA_at m 7 j (by omega), show j / 8 = 0 by omega, show j % 8 = j by omega]
  have h0 : turnN m (25 * ((0 : Nat) : Int)) = m := turn_zero hm _ (by rw [show (25 * ((0 : Nat) : Int)) = 0 by rfl]; exact Int.zero_emod _)
  unfold kR pairs
  rw [h0, List.getD_eq_getElem?_getD, List.getElem?_map, List.getElem?_range hj]; rfl
theorem l52 {m : List Nat} : (il ((kA m 7).take 52)).length = 52 := by rw [il_length, List.length_take, kA_length]; rfl
theorem kr_l2 {m : List Nat} (hm : ∀ x ∈ m, x < 256) (hl : m.length = 16) {j : Nat} (hj : j < 52) (F : Nat) (nx : ∀ k, F ≤ k → scrimlaw7_IdeaKeyRow.l1 k (il ((kA m 7).take 52), 0) (il m) ((j + 1 : Nat) : Int) = some true)
    (d : Nat) {k i : Nat} (hk : F + d + 10 < k) (hi : i + d = 16) :
    scrimlaw7_IdeaKeyRow.l2 k (il ((kA m 7).take 52), 0) (il m) (j : Int) ((25 * (j / 8) + 16 * (j % 8) : Nat) : Int) ((bitsN m (25 * (j / 8) + 16 * (j % 8)) i : Nat) : Int) (i : Int) = some true := by
  have hl52 := l52 (m := m)
  induction d generalizing k i with
  | zero =>
    obtain ⟨k, rfl⟩ : ∃ q, k = q + 1 := ⟨k - 1, by omega⟩
    have : i = 16 := by omega
    subst this
    simp only [scrimlaw7_IdeaKeyRow.l2, hl52]
    have e : I64 ((j : Int) + 1) = ((j + 1 : Nat) : Int) := I64_nat (n := j + 1) (by omega)
    rw [if_neg (by decide), if_pos (by rw [decide_eq_true_eq]; omega), if_pos (by rw [decide_eq_true_eq]; omega), if_neg (by rw [il_rd', key_at hm hl hj]; simp), e]
    exact nx k (by omega)
  | succ d ih =>
    obtain ⟨k, rfl⟩ : ∃ q, k = q + 1 := ⟨k - 1, by omega⟩
    simp only [scrimlaw7_IdeaKeyRow.l2, Option.bind_some]
    generalize hp : 25 * (j / 8) + 16 * (j % 8) = p
    have hp' : p < 1000 := by omega
    have hb := bitsN_lt m p i
    have hb2 : bitsN m p i < 65536 := Nat.lt_of_lt_of_le hb (by show 2 ^ i ≤ 2 ^ 16; exact Nat.pow_le_pow_right (by decide) (by omega))
    have e1 : I64 ((p : Int) + (i : Int)) = ((p + i : Nat) : Int) := I64_nat (n := p + i) (by omega)
    have e2 : I64 (Int.tdiv (Int.tmod ((p + i : Nat) : Int) 128) 8) = (((p + i) % 128 / 8 : Nat) : Int) := I64_nat (n := (p + i) % 128 / 8) (by omega)
    have e3 : U64 (I64 (7 - Int.tmod (Int.tmod ((p + i : Nat) : Int) 128) 8)) = ((7 - (p + i) % 128 % 8 : Nat) : Int) := by
      have : 7 - Int.tmod (Int.tmod ((p + i : Nat) : Int) 128) 8 = ((7 - (p + i) % 128 % 8 : Nat) : Int) := by
        have : Int.tmod (Int.tmod ((p + i : Nat) : Int) 128) 8 = (((p + i) % 128 % 8 : Nat) : Int) := rfl
        rw [this]; omega
      rw [this, I64_nat (by omega), U64_nat, Nat.mod_eq_of_lt (by omega)]
    have hq := getD_lt hm ((p + i) % 128 / 8)
    have e4 : shrv .u8 ((m.getD ((p + i) % 128 / 8) 0 : Nat) : Int) ((7 - (p + i) % 128 % 8 : Nat) : Int) = ((m.getD ((p + i) % 128 / 8) 0 >>> (7 - (p + i) % 128 % 8) : Nat) : Int) := by
      show shr _ (min _ 8) = _
      rw [Int.toNat_natCast, Nat.min_eq_left (by omega), shr_nat]
    have hsh : m.getD ((p + i) % 128 / 8) 0 >>> (7 - (p + i) % 128 % 8) < 256 := Nat.lt_of_le_of_lt (Nat.shiftRight_le _ _) hq
    have e5 : band .u8 ((m.getD ((p + i) % 128 / 8) 0 >>> (7 - (p + i) % 128 % 8) : Nat) : Int) 1 = (((bitOf m ((p + i) % 128)).toNat : Nat) : Int) := by
      have := ba8 (b := 1) hsh (by decide)
      rw [show (1 : Int) = ((1 : Nat) : Int) from rfl, this]
      congr 1
      unfold bitOf
      rw [Nat.and_one_is_mod, Nat.shiftRight_eq_div_pow, Nat.toNat_testBit]
    have hbt : (bitOf m ((p + i) % 128)).toNat ≤ 1 := Bool.toNat_le _
    have e6 : I64 (I64 (2 * ((bitsN m p i : Nat) : Int)) + I64 (((bitOf m ((p + i) % 128)).toNat : Nat) : Int)) = ((bitsN m p (i + 1) : Nat) : Int) := by
      rw [show 2 * ((bitsN m p i : Nat) : Int) = ((2 * bitsN m p i : Nat) : Int) by omega, I64_nat (by omega), I64_nat (by omega), ← Int.natCast_add, I64_nat (by omega)]
      rfl
    have e7 : I64 ((i : Int) + 1) = ((i + 1 : Nat) : Int) := I64_nat (n := i + 1) (by omega)
    rw [if_pos (by rw [decide_eq_true_eq]; omega), e1, e2, if_pos (by rw [decide_eq_true_eq]; omega), if_pos (by rw [decide_eq_true_eq, il_length]; omega), e3, if_pos (by rw [decide_eq_true_eq]; omega), il_rd', e4, e5, e6, e7]
    have := ih (k := k) (i := i + 1) (by omega) (by omega)
    rw [hp] at this
    exact this
theorem kr_l1 {m : List Nat} (hm : ∀ x ∈ m, x < 256) (hl : m.length = 16) (d : Nat) : ∀ {k j : Nat}, 40 * d + 40 ≤ k → j + d = 52 → 8 ≤ j →
    scrimlaw7_IdeaKeyRow.l1 k (il ((kA m 7).take 52), 0) (il m) (j : Int) = some true := by
  induction d with
  | zero =>
    intro k j hk hj h8
    obtain ⟨k, rfl⟩ : ∃ q, k = q + 1 := ⟨k - 1, by omega⟩
    have : j = 52 := by omega
    subst this
    rw [scrimlaw7_IdeaKeyRow.l1]
    rw [if_neg (by decide)]
    rfl
  | succ d ih =>
    intro k j hk hj h8
    obtain ⟨k, rfl⟩ : ∃ q, k = q + 1 := ⟨k - 1, by omega⟩
    rw [scrimlaw7_IdeaKeyRow.l1]
    have e1 : I64 (I64 (25 * I64 (Int.tdiv (j : Int) 8)) + I64 (16 * Int.tmod (j : Int) 8)) = ((25 * (j / 8) + 16 * (j % 8) : Nat) : Int) := by
      have a1 : I64 (Int.tdiv (j : Int) 8) = ((j / 8 : Nat) : Int) := I64_nat (n := j / 8) (by omega)
      have a2 : I64 (25 * ((j / 8 : Nat) : Int)) = ((25 * (j / 8) : Nat) : Int) := I64_nat (n := 25 * (j / 8)) (by omega)
      have a3 : I64 (16 * Int.tmod (j : Int) 8) = ((16 * (j % 8) : Nat) : Int) := I64_nat (n := 16 * (j % 8)) (by omega)
      rw [a1, a2, a3]; exact I64_nat (n := 25 * (j / 8) + 16 * (j % 8)) (by omega)
    rw [if_pos (by rw [decide_eq_true_eq]; omega), e1, Option.bind_some]
    exact kr_l2 hm hl (by omega) (40 * d + 40) (fun k hk => ih hk (by omega) (by omega)) 16 (i := 0) (k := k) (by omega) (by omega)
theorem kr_l0 {m : List Nat} (hm : ∀ x ∈ m, x < 256) (hl : m.length = 16) (d : Nat) {k j : Nat} (hk : 3000 + d ≤ k) (hj : j + d = 8) :
    scrimlaw7_IdeaKeyRow.l0 k (il ((kA m 7).take 52), 0) (il m) (j : Int) = some true := by
  have hl52 := l52 (m := m)
  induction d generalizing k j with
  | zero =>
    obtain ⟨k, rfl⟩ : ∃ q, k = q + 1 := ⟨k - 1, by omega⟩
    have : j = 8 := by omega
    subst this
    rw [scrimlaw7_IdeaKeyRow.l0, if_neg (by decide)]
    exact kr_l1 hm hl 44 (j := 8) (by omega) (by omega) (by omega)
  | succ d ih =>
    obtain ⟨k, rfl⟩ : ∃ q, k = q + 1 := ⟨k - 1, by omega⟩
    have a1 : I64 (2 * (j : Int)) = ((2 * j : Nat) : Int) := I64_nat (n := 2 * j) (by omega)
    have a2 : I64 (((2 * j : Nat) : Int) + 1) = ((2 * j + 1 : Nat) : Int) := I64_nat (n := 2 * j + 1) (by omega)
    have g1 := getD_lt hm (2 * j)
    have g2 := getD_lt hm (2 * j + 1)
    have a3 : I64 (I64 (I64 ((m.getD (2 * j) 0 : Nat) : Int) * 256) + I64 ((m.getD (2 * j + 1) 0 : Nat) : Int)) = ((m.getD (2 * j) 0 * 256 + m.getD (2 * j + 1) 0 : Nat) : Int) := by
      rw [I64_nat (by omega), I64_nat (by omega), show ((m.getD (2 * j) 0 : Nat) : Int) * 256 = ((m.getD (2 * j) 0 * 256 : Nat) : Int) by omega, I64_nat (by omega), ← Int.natCast_add, I64_nat (by omega)]
    have a4 : I64 ((j : Int) + 1) = ((j + 1 : Nat) : Int) := I64_nat (n := j + 1) (by omega)
    rw [scrimlaw7_IdeaKeyRow.l0]
    simp only [a1, a2, a4, hl52, il_length, hl, il_rd']
    rw [if_pos (by rw [decide_eq_true_eq]; omega), if_pos (by rw [decide_eq_true_eq]; omega), if_pos (by rw [decide_eq_true_eq]; omega), if_pos (by rw [decide_eq_true_eq]; omega), if_pos (by rw [decide_eq_true_eq]; omega), if_pos (by rw [decide_eq_true_eq]; omega), if_pos (by rw [decide_eq_true_eq]; omega), a3, Option.bind_some, if_neg (by rw [key_first hm hl (by omega)]; simp)]
    exact ih (by omega) (by omega)
theorem IdeaKeyRow (a0 : List Int) (h0 : a0.length ≤ maxLen) (h1 : ∀ x ∈ a0, In .u8 x) : ∃ k, scrimlaw7_IdeaKeyRow.f k a0 = some true := by
  obtain ⟨l, rfl, hl⟩ := il_of h1
  obtain ⟨k, hk⟩ : ∃ k : Nat, 4000 ≤ k := ⟨4000, Nat.le_refl _⟩
  refine ⟨k, ?_⟩
  obtain ⟨m, e1, hm1, hm2⟩ := bytes7_eq (n := 16) (by decide) hl (k := k) (by omega)
  simp only [Int.cast_ofNat_Int] at e1
  have e2 := keys7_eq hm2 hm1 (k := k) (by omega)
  unfold scrimlaw7_IdeaKeyRow.f
  simp only [known7_eq (show 600 ≤ k by omega), e1, e2, l52, Option.bind_some, Bool.not_true, Bool.false_eq_true, if_false, bne_self_eq_false]
  rw [if_neg (by decide)]
  exact kr_l0 hm2 hm1 8 (j := 0) (by omega) (by omega)
end Go.Scr.S
