/- The plain law of BoxAff. -/
import Derived.Test.YtekkdjgcbkoepaaDoorFnAriaRounds
import Derived.Test.YtekkdjgcbkoepaaDoorLibNum
import Derived.Test.YtekkdjgcbkoepaaDoorLibIl
set_option linter.unusedVariables false
set_option linter.unusedSimpArgs false
set_option linter.unnecessarySimpa false
namespace Go.Scr.S
/-- The sum of a byte's bits. -/
def par (y : Nat) : Bool := y.testBit 0 ^^ (y.testBit 1 ^^ (y.testBit 2 ^^ (y.testBit 3 ^^ (y.testBit 4 ^^ (y.testBit 5 ^^ (y.testBit 6 ^^ y.testBit 7))))))
theorem bx4 (a b c d : Bool) : ((a ^^ b) ^^ (c ^^ d)) = ((a ^^ c) ^^ (b ^^ d)) := by cases a <;> cases b <;> cases c <;> cases d <;> rfl
theorem xo4 (a b c d : Nat) : (a ^^^ b) ^^^ (c ^^^ d) = (a ^^^ c) ^^^ (b ^^^ d) := by
  rw [Nat.xor_assoc, ← Nat.xor_assoc b c d, Nat.xor_comm b c, Nat.xor_assoc c b d, ← Nat.xor_assoc]
theorem par_xor (a b : Nat) : par (a ^^^ b) = (par a ^^ par b) := by
  simp only [par, Nat.testBit_xor]
  rw [bx4 (a.testBit 6) (b.testBit 6), bx4 (a.testBit 5) (b.testBit 5), bx4 (a.testBit 4) (b.testBit 4), bx4 (a.testBit 3) (b.testBit 3), bx4 (a.testBit 2) (b.testBit 2), bx4 (a.testBit 1) (b.testBit 1), bx4 (a.testBit 0) (b.testBit 0)]
theorem par_zero : par 0 = false := by decide
/-- The first n bits' sums by rows. -/
def aff (l : List Nat) (x : Nat) : Nat → Nat
  | 0 => 0
  | n + 1 => aff l x n ^^^ (if par (x &&& l.getD n 0) then 2 ^ n else 0)
theorem aff_lt (l : List Nat) (x n : Nat) (hn : n ≤ 8) : aff l x n < 256 := by
  induction n with
  | zero => exact (by decide : 0 < 256)
  | succ n ih =>
    refine Nat.xor_lt_two_pow (n := 8) (ih (by omega)) ?_
    have : 2 ^ n < 2 ^ 8 := Nat.pow_lt_pow_right (by decide) (by omega)
    split <;> omega
theorem aff_xor (l : List Nat) (x y n : Nat) : aff l (x ^^^ y) n = aff l x n ^^^ aff l y n := by
  induction n with
  | zero => exact (Nat.xor_self 0).symm
  | succ n ih =>
    have e : ∀ p q : Bool, (if (p ^^ q) then 2 ^ n else 0) = (if p then 2 ^ n else 0) ^^^ (if q then 2 ^ n else 0) := by intro p q; cases p <;> cases q <;> simp
    simp only [aff, ih, Nat.and_xor_distrib_right, par_xor, e]
    rw [xo4]
theorem aff_zero (l : List Nat) (n : Nat) : aff l 0 n = 0 := by
  induction n with
  | zero => rfl
  | succ n ih => simp [aff, ih, par_zero]
theorem ones_eq {k y : Nat} (hy : y < 256) : ∃ c : Nat, bits_OnesCount8.f k (y : Int) = some (c : Int) ∧ (decide (Int.tmod (c : Int) 2 > 0)) = par y := by
  have key : ∀ y : Nat, y < 256 → ∃ c : Nat, c < 9 ∧ bits_OnesCount8.f 0 (y : Int) = some (c : Int) ∧ (decide (Int.tmod (c : Int) 2 > 0)) = par y := by
    intro y hy
    have := (by decide +kernel : ∀ y : Nat, y < 256 → (match bits_OnesCount8.f 0 ((y : Nat) : Int) with | some c => decide (0 ≤ c) && (decide (Int.tmod c 2 > 0) == par y) && decide (c < 9) | none => false) = true) y hy
    generalize bits_OnesCount8.f 0 ((y : Nat) : Int) = q at this ⊢
    cases q with
    | none => cases this
    | some c =>
      simp only [Bool.and_eq_true, decide_eq_true_eq, beq_iff_eq] at this
      have e : ((c.toNat : Nat) : Int) = c := Int.toNat_of_nonneg this.1.1
      exact ⟨c.toNat, by omega, by rw [e], by rw [e]; exact this.1.2⟩
  obtain ⟨c, _, h1, h2⟩ := key y hy
  exact ⟨c, h1, h2⟩
theorem one_at : ∀ i : Nat, i < 8 → rd ([1, 2, 4, 8, 16, 32, 64, 128] : List Int) (i : Int) = ((2 ^ i : Nat) : Int) := by decide
theorem baff_l0 {l : List Nat} (hl : ∀ x ∈ l, x < 256) {x : Nat} (hx : x < 256) (d : Nat) {k i c : Nat} (hk : d < k) (hi : i + d = 8) (hc : c < 256) :
    ∃ v : Nat, box_Affine.l0 k (x : Int) (il l) (c : Int) (i : Int) = some (v : Int) ∧ v ^^^ aff l x i = c ^^^ aff l x 8 ∧ v < 256 := by
  induction d generalizing k i c with
  | zero =>
    obtain ⟨k, rfl⟩ : ∃ j, k = j + 1 := ⟨k - 1, by omega⟩
    have : i = 8 := by omega
    subst this
    exact ⟨c, by simp [box_Affine.l0], rfl, hc⟩
  | succ d ih =>
    obtain ⟨k, rfl⟩ : ∃ j, k = j + 1 := ⟨k - 1, by omega⟩
    have hr := getD_lt hl i
    have hb := ba8 hx hr
    have hy : x &&& l.getD i 0 < 256 := Nat.lt_of_le_of_lt Nat.and_le_left hx
    obtain ⟨n, h1, h2⟩ := ones_eq (k := k) hy
    have hp8 : 2 ^ i < 2 ^ 8 := Nat.pow_lt_pow_right (by decide) (by omega)
    have hp : 2 ^ i < 256 := hp8
    have e5 : I64 ((i : Int) + 1) = ((i + 1 : Nat) : Int) := by rw [I64_id (by omega) (by omega)]; simp
    have c1 : decide ((i : Int) < 8) = true := by rw [decide_eq_true_eq]; omega
    have c2 : decide (0 ≤ (i : Int)) = true := by rw [decide_eq_true_eq]; omega
    simp only [box_Affine.l0, c1, c2, if_true, il_rd', hb, h1, Option.bind_some, h2, one_at i (by omega), bx8 hc hp, e5]
    cases hq : par (x &&& l.getD i 0)
    · rw [if_neg (by decide)]
      obtain ⟨v, v1, v2, v3⟩ := ih (k := k) (i := i + 1) (c := c) (by omega) (by omega) hc
      have e : aff l x (i + 1) = aff l x i := by simp only [aff, hq, Bool.false_eq_true, if_false, Nat.xor_zero]
      rw [e] at v2
      exact ⟨v, v1, v2, v3⟩
    · rw [if_pos rfl]
      obtain ⟨v, v1, v2, v3⟩ := ih (k := k) (i := i + 1) (c := c ^^^ 2 ^ i) (by omega) (by omega) (Nat.xor_lt_two_pow (n := 8) hc hp)
      refine ⟨v, v1, ?_, v3⟩
      have e : aff l x (i + 1) = aff l x i ^^^ 2 ^ i := by simp only [aff, hq, if_true]
      rw [e] at v2
      have h : (v ^^^ (aff l x i ^^^ 2 ^ i)) ^^^ 2 ^ i = ((c ^^^ 2 ^ i) ^^^ aff l x 8) ^^^ 2 ^ i := by rw [v2]
      have u : ∀ A P : Nat, (A ^^^ P) ^^^ P = A := fun A P => by rw [Nat.xor_assoc, Nat.xor_self, Nat.xor_zero]
      rw [← Nat.xor_assoc v, u, Nat.xor_assoc c, Nat.xor_comm (2 ^ i) (aff l x 8), ← Nat.xor_assoc c, u] at h
      exact h
theorem baff_eq {l : List Nat} (hl : ∀ x ∈ l, x < 256) {x c k : Nat} (hx : x < 256) (hc : c < 256) (hk : 8 < k) : box_Affine.f k (x : Int) (il l) (c : Int) = some ((c ^^^ aff l x 8 : Nat) : Int) := by
  obtain ⟨v, h1, h2, h3⟩ := baff_l0 hl hx 8 (k := k) (i := 0) (by omega) (by omega) hc
  rw [show aff l x 0 = 0 from rfl, Nat.xor_zero] at h2
  rw [← h2]; exact h1
end Go.Scr.S
