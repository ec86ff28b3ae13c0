/- The plain law of SmallRows. -/
import Derived.Test.YtahfhogifkkoeaaFnSmallRows
import Derived.Test.YtahfhogifkkoeaaLibNum
import Derived.Test.YtahfhogifkkoeaaLibIl
import Derived.Test.YtahfhogifkkoeaaLibGRest
import Derived.Test.YtahfhogifkkoeaaLibGRol
import Derived.Test.YtahfhogifkkoeaaLibGRRol
import Derived.Test.YtahfhogifkkoeaaLibSmNum
import Derived.Test.YtahfhogifkkoeaaLibSmRol
import Derived.Test.YtahfhogifkkoeaaLibSmG
import Derived.Test.YtahfhogifkkoeaaLibSmK
import Derived.Test.YtahfhogifkkoeaaLibSmW
set_option linter.unusedVariables false
set_option linter.unusedSimpArgs false
set_option linter.unnecessarySimpa false
namespace Go.Scr.S
def an (a b : Nat) : Nat := (BitVec.ofNat 32 a &&& ~~~(BitVec.ofNat 32 b)).toNat
theorem an_lt (a b : Nat) : an a b < 4294967296 := (BitVec.ofNat 32 a &&& ~~~(BitVec.ofNat 32 b)).isLt
theorem an_eq (a b : Nat) : bandn .u32 (a : Int) (b : Int) = ((an a b : Nat) : Int) := by
  unfold bandn
  show U32 _ = _
  have e : (BitVec.ofInt IntKind.u32.bits (a : Int) &&& ~~~(BitVec.ofInt IntKind.u32.bits (b : Int))).toNat = an a b := by
    rw [BitVec.ofInt_natCast, BitVec.ofInt_natCast]; rfl
  rw [e, U32_nat, Nat.mod_eq_of_lt (an_lt a b)]
theorem an_bit {a b i : Nat} (ha : a < 4294967296) (hb : b < 4294967296) (hi : i < 32) : (an a b).testBit i = (a.testBit i && !b.testBit i) := by
  unfold an
  rw [BitVec.testBit_toNat, BitVec.getLsbD_and, BitVec.getLsbD_not, BitVec.getLsbD_ofNat, BitVec.getLsbD_ofNat]
  simp [hi]
theorem dig_bit4 (n j b : Nat) (hb : b < 4) : (n / 16 ^ j % 16).testBit b = n.testBit (4 * j + b) := by
  rw [show (16 : Nat) ^ j = 2 ^ (4 * j) by rw [Nat.pow_mul], show (16 : Nat) = 2 ^ 4 from rfl, Nat.testBit_mod_two_pow, Nat.testBit_div_two_pow]
  simp [hb]
  congr 1; omega
theorem m15_bit {i p : Nat} (hi : i < 8) (hp : p < 32) : (15 <<< (4 * i) % 4294967296).testBit p = decide (p / 4 = i) := by
  have h15 : 15 <<< (4 * i) < 4294967296 := by
    rw [Nat.shiftLeft_eq]
    have : 2 ^ (4 * i) ≤ 2 ^ 28 := Nat.pow_le_pow_right (by decide) (by omega)
    omega
  rw [Nat.mod_eq_of_lt h15, Nat.testBit_shiftLeft]
  by_cases h : p ≥ 4 * i
  · rw [decide_eq_true h, Bool.true_and]
    by_cases h2 : p < 4 * i + 4
    · have e : p - 4 * i = 0 ∨ p - 4 * i = 1 ∨ p - 4 * i = 2 ∨ p - 4 * i = 3 := by omega
      have e2 : p / 4 = i := by omega
      rw [decide_eq_true e2]
      rcases e with e | e | e | e <;> rw [e] <;> decide
    · have e2 : ¬ p / 4 = i := by omega
      rw [decide_eq_false e2]
      exact Nat.testBit_lt_two_pow (Nat.lt_of_lt_of_le (by decide : 15 < 2 ^ 4) (Nat.pow_le_pow_right (by decide) (by omega)))
  · have e2 : ¬ p / 4 = i := by omega
    rw [decide_eq_false h, decide_eq_false e2]; rfl
theorem v_bit {v i p : Nat} (hv : v < 16) (hi : i < 8) (hp : p < 32) : (v <<< (4 * i) % 4294967296).testBit p = (decide (p / 4 = i) && v.testBit (p % 4)) := by
  have h15 : v <<< (4 * i) < 4294967296 := by
    rw [Nat.shiftLeft_eq]
    have h1 : 2 ^ (4 * i) ≤ 2 ^ 28 := Nat.pow_le_pow_right (by decide) (by omega)
    have h2 : v * 2 ^ (4 * i) ≤ 15 * 2 ^ 28 := Nat.mul_le_mul (by omega) h1
    omega
  rw [Nat.mod_eq_of_lt h15, Nat.testBit_shiftLeft]
  by_cases h : p ≥ 4 * i
  · rw [decide_eq_true h, Bool.true_and]
    by_cases h2 : p < 4 * i + 4
    · have e2 : p / 4 = i := by omega
      rw [decide_eq_true e2, Bool.true_and]; congr 1; omega
    · have e2 : ¬ p / 4 = i := by omega
      rw [decide_eq_false e2, Bool.false_and]
      exact Nat.testBit_lt_two_pow (Nat.lt_of_lt_of_le (by omega : v < 2 ^ 4) (Nat.pow_le_pow_right (by decide) (by omega)))
  · have e2 : ¬ p / 4 = i := by omega
    rw [decide_eq_false h, decide_eq_false e2]; rfl
theorem dig_eq_of {a b j : Nat} (h : ∀ p, p < 4 → a.testBit (4 * j + p) = b.testBit (4 * j + p)) : a / 16 ^ j % 16 = b / 16 ^ j % 16 := by
  refine Nat.eq_of_testBit_eq fun p => ?_
  rcases Nat.lt_or_ge p 4 with hp | hp
  · rw [dig_bit4 _ _ _ hp, dig_bit4 _ _ _ hp, h p hp]
  · have e0 : ∀ y : Nat, y < 16 → y.testBit p = false := fun y hy => Nat.testBit_lt_two_pow (Nat.lt_of_lt_of_le (by omega : y < 2 ^ 4) (Nat.pow_le_pow_right (by decide) hp))
    rw [e0 _ (Nat.mod_lt _ (by decide)), e0 _ (Nat.mod_lt _ (by decide))]
theorem SmallRows (a0 : Int) (a1 : Int) (a2 : Int) (h0 : In .u32 a0) (h1 : In .i64 a1) (h2 : In .i64 a2) : ∃ k, scrimlaw8_SmallRows.f k a0 a1 a2 = some true := by
  obtain ⟨x, hx, rfl⟩ := u32_of h0
  obtain ⟨i, hi, ei⟩ : ∃ i : Nat, i < 8 ∧ a1 % 8 = i := ⟨(a1 % 8).toNat, by omega, by omega⟩
  obtain ⟨v, hv, ev⟩ : ∃ i : Nat, i < 16 ∧ a2 % 16 = i := ⟨(a2 % 16).toNat, by omega, by omega⟩
  obtain ⟨k, hk⟩ : ∃ k : Nat, 600 ≤ k := ⟨600, Nat.le_refl _⟩
  refine ⟨k, ?_⟩
  have w1 := within8_eq (k := k) a1 8 (by decide) (by decide)
  have w2 := within8_eq (k := k) a2 16 (by decide) (by decide)
  rw [ei] at w1; rw [ev] at w2
  have s1 : U64 (I64 (4 * (i : Int))) = ((4 * i : Nat) : Int) := by
    have : I64 (4 * (i : Int)) = ((4 * i : Nat) : Int) := I64_nat (n := 4 * i) (by omega)
    rw [this, U64_nat, Nat.mod_eq_of_lt (by omega)]
  have c0 : decide (0 ≤ ((4 * i : Nat) : Int)) = true := by rw [decide_eq_true_eq]; omega
  have g1 := sG_eq (x := x) (y := 0) (k := k) (by omega)
  have wx : ∀ z, z < 4294967296 → wa z 0 = z := fun z hz => by unfold wa; rw [Nat.add_zero, Nat.mod_eq_of_lt hz]
  rw [wx x hx] at g1
  have r1 := rrol32_eq (k := k) (gN_lt x) (-11)
  have e21 : ((-11 : Int) % 32).toNat = (32 - 11) % 32 := by decide
  rw [e21] at r1
  unfold gN at r1 g1
  rw [rol_inv (ac32 x) (by decide)] at r1
  have sh15 := shlv32 (a := 15) (n := 4 * i) (by omega)
  have uv : U32 (v : Int) = (v : Int) := by rw [U32_nat, Nat.mod_eq_of_lt (by omega)]
  have shv := shlv32 (a := v) (n := 4 * i) (by omega)
  have hm : 15 <<< (4 * i) % 4294967296 < 4294967296 := Nat.mod_lt _ (by decide)
  have hw : v <<< (4 * i) % 4294967296 < 4294967296 := Nat.mod_lt _ (by decide)
  have n1 := an_eq x (15 <<< (4 * i) % 4294967296)
  have o1 := bo32 (an_lt x (15 <<< (4 * i) % 4294967296)) hw
  generalize hx' : an x (15 <<< (4 * i) % 4294967296) ||| (v <<< (4 * i) % 4294967296) = x' at o1
  have hx'l : x' < 4294967296 := hx' ▸ Nat.or_lt_two_pow (n := 32) (an_lt _ _) hw
  have bits : ∀ p, p < 32 → x'.testBit p = if p / 4 = i then v.testBit (p % 4) else x.testBit p := by
    intro p hp
    rw [← hx', Nat.testBit_or, an_bit hx hm hp, m15_bit hi hp, v_bit hv hi hp]
    by_cases h : p / 4 = i <;> simp [h]
  have dj : ∀ j, j < 8 → j ≠ i → x' / 16 ^ j % 16 = x / 16 ^ j % 16 := fun j hj hne => dig_eq_of fun p hp => by
    rw [bits _ (by omega), if_neg (by omega)]
  have di : x' / 16 ^ i % 16 = v := by
    refine Nat.eq_of_testBit_eq fun p => ?_
    rcases Nat.lt_or_ge p 4 with hp | hp
    · rw [dig_bit4 _ _ _ hp, bits _ (by omega), if_pos (by omega)]; congr 1; omega
    · have e0 : ∀ y : Nat, y < 16 → y.testBit p = false := fun y hy => Nat.testBit_lt_two_pow (Nat.lt_of_lt_of_le (by omega : y < 2 ^ 4) (Nat.pow_le_pow_right (by decide) hp))
      rw [e0 _ (Nat.mod_lt _ (by decide)), e0 _ hv]
  have g2 := sG_eq (x := x') (y := 0) (k := k) (by omega)
  rw [wx x' hx'l] at g2
  have r2 := rrol32_eq (k := k) (gN_lt x') (-11)
  rw [e21] at r2
  unfold gN at r2 g2
  rw [rol_inv (ac32 x') (by decide)] at r2
  have b1 := bx32 (ac32 x) (ac32 x')
  have n2 := an_eq (ac x 8 ^^^ ac x' 8) (15 <<< (4 * i) % 4294967296)
  have z : an (ac x 8 ^^^ ac x' 8) (15 <<< (4 * i) % 4294967296) = 0 := by
    refine Nat.eq_of_testBit_eq fun p => ?_
    rw [Nat.zero_testBit]
    rcases Nat.lt_or_ge p 32 with hp | hp
    · rw [an_bit (x32 (ac32 x) (ac32 x')) hm hp, m15_bit hi hp, Nat.testBit_xor]
      by_cases h : p / 4 = i
      · simp [h]
      · have e : (ac x 8) / 16 ^ (p / 4) % 16 = (ac x' 8) / 16 ^ (p / 4) % 16 := by
          rw [ac_digit x 8 (p / 4) (by omega) (by decide), ac_digit x' 8 (p / 4) (by omega) (by decide), dj _ (by omega) h]
        have e2 := congrArg (fun y => y.testBit (p % 4)) e
        simp only [dig_bit4 _ _ _ (Nat.mod_lt p (by decide : 0 < 4))] at e2
        rw [show 4 * (p / 4) + p % 4 = p by omega] at e2
        rw [e2]; simp
    · exact Nat.testBit_lt_two_pow (Nat.lt_of_lt_of_le (an_lt _ _) (Nat.pow_le_pow_right (n := 2) (by decide) hp))
  have q1 := shrv32 (a := x) (n := 4 * i) (by omega)
  have q2 := ba15 (a := x >>> (4 * i)) (Nat.lt_of_le_of_lt (Nat.shiftRight_le _ _) hx)
  rw [dig_shr] at q1 q2
  have q3 := shrv32 (a := v <<< (4 * i) % 4294967296) (n := 4 * i) (by omega)
  have q4 : (v <<< (4 * i) % 4294967296) >>> (4 * i) = v := by
    have h15 : v <<< (4 * i) < 4294967296 := by
      rw [Nat.shiftLeft_eq]
      have h1 : 2 ^ (4 * i) ≤ 2 ^ 28 := Nat.pow_le_pow_right (by decide) (by omega)
      have h2 : v * 2 ^ (4 * i) ≤ 15 * 2 ^ 28 := Nat.mul_le_mul (by omega) h1
      omega
    rw [Nat.mod_eq_of_lt h15, Nat.shiftLeft_shiftRight]
  rw [q4] at q3
  simp only [Int.cast_ofNat_Int] at sh15 g1 g2
  have fin : (decide (ac x 8 = ac x' 8)) = decide (x / 16 ^ i % 16 = v) := by
    rw [decide_eq_decide, ac_inj hx hx'l]
    refine ⟨fun h => by rw [h, di], fun h => digits_ext hx hx'l fun j hj => ?_⟩
    by_cases hji : j = i
    · subst hji; rw [di, h]
    · rw [dj j hj hji]
  unfold scrimlaw8_SmallRows.f
  rw [known8_eq hk, Option.bind_some, if_neg (by decide), w1, Option.bind_some, w2, Option.bind_some, s1, if_pos c0, g1, Option.bind_some, r1, Option.bind_some, if_pos c0, sh15, n1, uv, shv, o1, Option.bind_some, g2, Option.bind_some, r2, Option.bind_some, if_pos c0, b1, n2, z]
  rw [Option.bind_some, if_pos (by decide), if_pos c0, q1, q2, Option.bind_some, if_pos c0, q3, beq_nat, beq_nat, fin]
  simp
end Go.Scr.S
