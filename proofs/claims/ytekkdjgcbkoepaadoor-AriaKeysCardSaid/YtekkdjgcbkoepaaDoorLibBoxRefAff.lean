/- The plain law of BoxRefAff. -/
import Derived.Test.YtekkdjgcbkoepaaDoorFnAriaKeys
import Derived.Test.YtekkdjgcbkoepaaDoorLibNum
import Derived.Test.YtekkdjgcbkoepaaDoorLibIl
import Derived.Test.YtekkdjgcbkoepaaDoorLibBoxAff
set_option linter.unusedVariables false
set_option linter.unusedSimpArgs false
set_option linter.unnecessarySimpa false
namespace Go.Scr.S
def pq (y : Nat) : Nat → Bool
  | 0 => false
  | q + 1 => pq y q ^^ y.testBit q
theorem pq_par (y : Nat) : pq y 8 = par y := by simp only [pq, par, Bool.false_xor, Bool.xor_assoc]
def bitv (p : Bool) (i : Nat) : Nat := if p then 2 ^ i else 0
theorem bitv_lt {p : Bool} {i : Nat} (hi : i < 8) : bitv p i < 256 := by
  have hp8 : 2 ^ i < 2 ^ 8 := Nat.pow_lt_pow_right (by decide) hi
  have hp : 2 ^ i < 256 := hp8
  unfold bitv; split <;> omega
theorem bitv_xor (p q : Bool) (i : Nat) : bitv (p ^^ q) i = bitv p i ^^^ bitv q i := by cases p <;> cases q <;> simp [bitv]
theorem raff_l1 {l : List Nat} (hl : ∀ x ∈ l, x < 256) {x i c0 F v : Nat} (hx : x < 256) (hi : i < 8) (hc0 : c0 < 256)
    (H : ∀ k, F < k → scrimref4_Affine.l0 k (x : Int) (il l) ((c0 ^^^ bitv (par (x &&& l.getD i 0)) i : Nat) : Int) ((i + 1 : Nat) : Int) = some (v : Int))
    (d : Nat) {k q : Nat} (hk : d + F + 1 < k) (hq : q + d = 8) :
    scrimref4_Affine.l1 k (x : Int) (il l) (i : Int) ((c0 ^^^ bitv (pq (x &&& l.getD i 0) q) i : Nat) : Int) (q : Int) = some (v : Int) := by
  induction d generalizing k q with
  | zero =>
    obtain ⟨k, rfl⟩ : ∃ j, k = j + 1 := ⟨k - 1, by omega⟩
    have : q = 8 := by omega
    subst this
    have e5 : I64 ((i : Int) + 1) = ((i + 1 : Nat) : Int) := by rw [I64_id (by omega) (by omega)]; simp
    have c1 : decide (((8 : Nat) : Int) < 8) = false := by decide
    simp only [scrimref4_Affine.l1, c1, Bool.false_eq_true, if_false, e5]
    rw [pq_par]
    exact H k (by omega)
  | succ d ih =>
    obtain ⟨k, rfl⟩ : ∃ j, k = j + 1 := ⟨k - 1, by omega⟩
    have hr := getD_lt hl i
    have hb := ba8 hr hx
    have hy : x &&& l.getD i 0 < 256 := Nat.lt_of_le_of_lt Nat.and_le_left hx
    rw [Nat.and_comm] at hb
    have c1 : decide ((q : Int) < 8) = true := by rw [decide_eq_true_eq]; omega
    have c2 : decide (0 ≤ (q : Int)) = true := by rw [decide_eq_true_eq]; omega
    have c3 : decide (0 ≤ (i : Int)) = true := by rw [decide_eq_true_eq]; omega
    have u1 : U64 (i : Int) = (i : Int) := U64_id (by omega) (by omega)
    have e9 : U64 ((q : Int) + 1) = ((q + 1 : Nat) : Int) := by rw [U64_id (by omega) (by omega)]; simp
    generalize hY : x &&& l.getD i 0 = y at *
    have e0 : shrv .u8 (y : Int) (q : Int) = ((y >>> q : Nat) : Int) := by
      show shr (y : Int) (min (q : Int).toNat 8) = _
      rw [shr_nat]; congr 2; rw [Int.toNat_natCast]; omega
    have hyq : y >>> q < 256 := by rw [Nat.shiftRight_eq_div_pow]; exact Nat.lt_of_le_of_lt (Nat.div_le_self _ _) hy
    have e2 : band .u8 ((y >>> q : Nat) : Int) 1 = (((y >>> q) &&& 1 : Nat) : Int) := ba8 hyq (by decide)
    have e3 : shlv .u8 (((y >>> q) &&& 1 : Nat) : Int) (i : Int) = ((bitv (y.testBit q) i : Nat) : Int) := by
      show shl .u8 _ (min ((i : Int)).toNat 8) = _
      rw [shl8, Int.toNat_natCast, Nat.min_eq_left (by omega)]
      have hp8 : 2 ^ i < 2 ^ 8 := Nat.pow_lt_pow_right (by decide) hi
      have hp : 2 ^ i < 256 := hp8
      have hb1 : (y >>> q) &&& 1 = (y.testBit q).toNat := by
        rw [Nat.testBit_eq_decide_div_mod_eq, Nat.and_one_is_mod, Nat.shiftRight_eq_div_pow]
        have := Nat.mod_two_eq_zero_or_one (y / 2 ^ q)
        rcases this with h | h <;> simp [h]
      rw [hb1]; unfold bitv
      cases y.testBit q
      · simp
      · simp [Nat.shiftLeft_eq, Nat.mod_eq_of_lt hp]
    have e4 := bx8 (a := c0 ^^^ bitv (pq y q) i) (b := bitv (y.testBit q) i) (Nat.xor_lt_two_pow (n := 8) hc0 (bitv_lt hi)) (bitv_lt hi)
    rw [Nat.xor_assoc, ← bitv_xor] at e4
    simp only [scrimref4_Affine.l1, c1, c2, c3, if_true, il_rd', hb, e0, e2, Option.bind_some, u1, e3, e4, e9]
    have := ih (k := k) (q := q + 1) (by omega) (by omega)
    exact this
theorem raff_l0 {l : List Nat} (hl : ∀ x ∈ l, x < 256) {x : Nat} (hx : x < 256) (d : Nat) {k i c : Nat} (hk : 12 * d < k) (hi : i + d = 8) (hc : c < 256) :
    ∃ v : Nat, (∀ k, 12 * d < k → scrimref4_Affine.l0 k (x : Int) (il l) (c : Int) (i : Int) = some (v : Int)) ∧ v ^^^ aff l x i = c ^^^ aff l x 8 ∧ v < 256 := by
  induction d generalizing k i c with
  | zero =>
    have : i = 8 := by omega
    subst this
    refine ⟨c, fun k hk => ?_, rfl, hc⟩
    obtain ⟨k, rfl⟩ : ∃ j, k = j + 1 := ⟨k - 1, by omega⟩
    simp [scrimref4_Affine.l0]
  | succ d ih =>
    obtain ⟨v, v1, v2, v3⟩ := ih (k := 12 * d + 1) (i := i + 1) (c := c ^^^ bitv (par (x &&& l.getD i 0)) i) (by omega) (by omega) (Nat.xor_lt_two_pow (n := 8) hc (bitv_lt (by omega)))
    refine ⟨v, fun k hk => ?_, ?_, v3⟩
    · obtain ⟨k, rfl⟩ : ∃ j, k = j + 1 := ⟨k - 1, by omega⟩
      have c1 : decide ((i : Int) < 8) = true := by rw [decide_eq_true_eq]; omega
      have c2 : decide (0 ≤ (i : Int)) = true := by rw [decide_eq_true_eq]; omega
      simp only [scrimref4_Affine.l0, c1, c2, if_true]
      have := raff_l1 hl hx (by omega : i < 8) hc (F := 12 * d) v1 8 (k := k) (q := 0) (by omega) (by omega)
      rw [show bitv (pq (x &&& l.getD i 0) 0) i = 0 from rfl, Nat.xor_zero] at this
      exact this
    · have e : aff l x (i + 1) = aff l x i ^^^ bitv (par (x &&& l.getD i 0)) i := rfl
      rw [e] at v2
      have u : ∀ A P : Nat, (A ^^^ P) ^^^ P = A := fun A P => by rw [Nat.xor_assoc, Nat.xor_self, Nat.xor_zero]
      generalize bitv (par (x &&& l.getD i 0)) i = P at *
      have h : (v ^^^ (aff l x i ^^^ P)) ^^^ P = ((c ^^^ P) ^^^ aff l x 8) ^^^ P := by rw [v2]
      rw [← Nat.xor_assoc v, u, Nat.xor_assoc c, Nat.xor_comm P (aff l x 8), ← Nat.xor_assoc c, u] at h
      exact h
theorem raff_eq {l : List Nat} (hl : ∀ x ∈ l, x < 256) {x c k : Nat} (hx : x < 256) (hc : c < 256) (hk : 96 < k) : scrimref4_Affine.f k (x : Int) (il l) (c : Int) = some ((c ^^^ aff l x 8 : Nat) : Int) := by
  obtain ⟨v, h1, h2, h3⟩ := raff_l0 hl hx 8 (k := k) (i := 0) (by omega) (by omega) hc
  rw [show aff l x 0 = 0 from rfl, Nat.xor_zero] at h2
  rw [← h2]; exact h1 k (by omega)
end Go.Scr.S
