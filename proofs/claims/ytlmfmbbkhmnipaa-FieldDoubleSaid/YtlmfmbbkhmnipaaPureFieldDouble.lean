/- The plain law of FieldDouble. -/
import Derived.Test.YtlmfmbbkhmnipaaFnFieldDouble
import Derived.Test.YtlmfmbbkhmnipaaXLaw
import Derived.Test.YtlmfmbbkhmnipaaLibNum
import Derived.Test.YtlmfmbbkhmnipaaLibGf
import Derived.Test.YtlmfmbbkhmnipaaLibFieldMul
import Derived.Test.YtlmfmbbkhmnipaaLibFieldRefMul
set_option linter.unusedVariables false
set_option linter.unusedSimpArgs false
set_option linter.unnecessarySimpa false
namespace Go.Scr.S
theorem mu_two {m a : Nat} (ha : a < 256) : mu m a 2 = xt m a := by
  have : ∀ n b, gm m n b 0 = 0 := fun n b => gm_none m n b
  show gm m 8 a 2 = _
  simp [gm, this]
theorem fdl {m a b t4 : Nat} {y7 : Int} (hm : Rst m) (ha : a < 256) (hb : b < 256) (ht : I64 (256 + (t4 : Int)) = (m : Int)) (hy : y7 = ((xt m a : Nat) : Int)) (d : Nat) {k i s x : Nat} (hk : d + 300 < k) (hi : i + d = 8) (hs : s < 256) (hx : x < 256)
    (he : s ^^^ gm m d x (b >>> i) = mu m a b) : scrimlaw3_FieldDouble.l0 k (a : Int) (b : Int) (t4 : Int) y7 (s : Int) (x : Int) (i : Int) = some true := by
  induction d generalizing k i s x with
  | zero =>
    obtain ⟨k, rfl⟩ : ∃ j, k = j + 1 := ⟨k - 1, by omega⟩
    have : i = 8 := by omega
    subst this
    have f1 := fm_eq (k := k) (b := 2) hm (by omega) ha (by decide)
    have f2 := fm_eq (k := k) hm (by omega) ha hb
    have f3 := rm_eq (k := k) hm (by omega) ha hb
    rw [mu_two ha] at f1
    have hxt := xt_lt hm ha
    have f4 := I64_nat (n := xt m a) (by omega)
    simp only [gm, Nat.xor_zero] at he
    rw [← he] at f2 f3
    simp only [Int.cast_ofNat_Int] at f1
    have c1 : decide (((8 : Nat) : Int) < 8) = false := by decide
    simp only [scrimlaw3_FieldDouble.l0, ht, f1, f2, f3, f4, hy, c1, Option.bind_some, Bool.false_eq_true, if_false, beq_self_eq_true, if_true]
  | succ d ih =>
    obtain ⟨k, rfl⟩ : ∃ j, k = j + 1 := ⟨k - 1, by omega⟩
    have e0 : shrv .u8 (b : Int) (i : Int) = ((b >>> i : Nat) : Int) := by
      show shr (b : Int) (min (i : Int).toNat 8) = _
      rw [shr_nat]; congr 2; rw [Int.toNat_natCast]; omega
    have hbi : b >>> i < 256 := by rw [Nat.shiftRight_eq_div_pow]; exact Nat.lt_of_le_of_lt (Nat.div_le_self _ _) hb
    have e2 : band .u8 ((b >>> i : Nat) : Int) 1 = (((b >>> i) &&& 1 : Nat) : Int) := ba8 hbi (by decide)
    have e5' : ∀ y : Nat, ((((y &&& 1 : Nat) : Int) == 1) = true) ↔ y.testBit 0 = true := by intro y; rw [Nat.testBit_zero, Nat.and_one_is_mod]; simp; omega
    have e5 := e5' (b >>> i)
    have e8 := bx8 hs hx
    have hsx : s ^^^ x < 256 := Nat.xor_lt_two_pow (n := 8) hs hx
    have e9 : U64 ((i : Int) + 1) = ((i + 1 : Nat) : Int) := by rw [U64_id (by omega) (by omega)]; simp
    have ea : b >>> (i + 1) = b >>> i >>> 1 := by rw [Nat.shiftRight_add]
    have c1 : decide ((i : Int) < 8) = true := by simp; omega
    have c2 : decide (0 ≤ (i : Int)) = true := by simp
    have f1 := fm_eq (k := k) (b := 2) hm (by omega) hx (by decide)
    rw [mu_two hx] at f1
    have hxt := xt_lt hm hx
    simp only [Int.cast_ofNat_Int] at f1
    simp only [scrimlaw3_FieldDouble.l0, e0, e2, e8, e9, c1, c2, if_true, ht, f1, Option.bind_some]
    simp only [gm] at he
    cases hb' : (b >>> i).testBit 0
    · rw [if_neg (by rw [e5, hb']; decide)]
      refine ih (by omega) (by omega) hs hxt ?_
      rw [ea, ← he, hb']; simp
    · rw [if_pos (by rw [e5, hb'])]
      refine ih (by omega) (by omega) hsx hxt ?_
      rw [ea, ← he, hb', if_pos rfl, Nat.xor_assoc]
theorem fdl1 {a b t4 : Nat} (d : Nat) {k i s x : Nat} (hk : d < k) (hi : i + d = 8) :
    scrimlaw3_FieldDouble.l1 k (a : Int) (b : Int) (t4 : Int) (s : Int) (x : Int) (i : Int) = scrimlaw3_FieldDouble.l0 k (a : Int) (b : Int) (t4 : Int) (shl .i64 (I64 (a : Int)) 1) (s : Int) (x : Int) (i : Int) := by
  suffices H : ∀ (k : Nat) (s x i : Int), scrimlaw3_FieldDouble.l1 k (a : Int) (b : Int) (t4 : Int) s x i = scrimlaw3_FieldDouble.l0 k (a : Int) (b : Int) (t4 : Int) (shl .i64 (I64 (a : Int)) 1) s x i from H k _ _ _
  intro k
  induction k with
  | zero => intro s x i; rfl
  | succ k ih => intro s x i; simp only [scrimlaw3_FieldDouble.l1, scrimlaw3_FieldDouble.l0, ih]
theorem FieldDouble (a0 : Int) (a1 : Int) (a2 : Int) (h0 : In .u8 a0) (h1 : In .u8 a1) (h2 : In .i64 a2) : ∃ k, scrimlaw3_FieldDouble.f k a0 a1 a2 = some true := by
  obtain ⟨a, ha, rfl⟩ := u8_of h0
  obtain ⟨b, hb, rfl⟩ := u8_of h1
  obtain ⟨k, hk⟩ : ∃ k : Nat, 400 ≤ k := ⟨400, Nat.le_refl _⟩
  have hw := within_eq (k := k) a2 256 (by decide) (by decide)
  obtain ⟨t, ht, et⟩ : ∃ i : Nat, i < 256 ∧ a2 % 256 = i := ⟨(a2 % 256).toNat, by omega, by omega⟩
  rw [et] at hw
  have hz : I64 (256 + (t : Int)) = ((256 + t : Nat) : Int) := by rw [I64_id (by omega) (by omega)]; simp
  have hm : Rst (256 + t) := ⟨by omega, by omega⟩
  have e1 : shl .i64 (I64 (a : Int)) 1 = ((a <<< 1 : Nat) : Int) := by rw [I64_nat (by omega)]; exact shli (by rw [Nat.shiftLeft_eq]; omega)
  have e4 : ((a <<< 1 : Nat) : Int) ≥ 256 ↔ a.testBit 7 = true := by rw [Nat.testBit_eq_decide_div_mod_eq, Nat.shiftLeft_eq]; simp; omega
  have h8 : 0 ^^^ gm (256 + t) 8 a (b >>> 0) = mu (256 + t) a b := by simp [mu]
  refine ⟨k, ?_⟩
  unfold scrimlaw3_FieldDouble.f
  simp only [known_eq (k := k) (by omega), hw, Option.bind_some, Bool.not_true, Bool.false_eq_true, if_false]
  cases hc : a.testBit 7
  · rw [if_neg (by rw [decide_eq_true_eq, e1, e4, hc]; decide)]
    refine (fdl1 (s := 0) (i := 0) 8 (by omega) (by omega)).trans ?_
    refine fdl (s := 0) (i := 0) hm ha hb hz ?_ 8 (by omega) (by omega) (by decide) ha h8
    rw [e1]; simp [xt, hc]
  · rw [if_pos (by rw [decide_eq_true_eq, e1, e4, hc])]
    refine fdl (s := 0) (i := 0) hm ha hb hz ?_ 8 (by omega) (by omega) (by decide) ha h8
    rw [e1, hz, bxi (by rw [Nat.shiftLeft_eq]; omega) (by omega)]; simp [xt, hc]
end Go.Scr.S
