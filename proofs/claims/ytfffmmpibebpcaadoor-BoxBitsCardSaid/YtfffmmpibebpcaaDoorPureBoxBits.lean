/- The plain law of BoxBits. -/
import Derived.Test.YtfffmmpibebpcaaDoorFnBoxBits
import Derived.Test.YtfffmmpibebpcaaDoorXLaw
import Derived.Test.YtfffmmpibebpcaaDoorLibNum
import Derived.Test.YtfffmmpibebpcaaDoorLibIl
import Derived.Test.YtfffmmpibebpcaaDoorLibBoxKnown0
import Derived.Test.YtfffmmpibebpcaaDoorLibBoxRows
import Derived.Test.YtfffmmpibebpcaaDoorLibBoxAff
import Derived.Test.YtfffmmpibebpcaaDoorLibBoxRefAff
set_option linter.unusedVariables false
set_option linter.unusedSimpArgs false
set_option linter.unnecessarySimpa false
namespace Go.Scr.S
theorem within4_eq {k : Nat} (a n : Int) (h : 0 < n) (h1 : n < 9223372036854775808) : scrimlaw4_within.f k a n = some (a % n) := by
  unfold scrimlaw4_within.f
  have e := tmod_fix a n h
  have := Int.emod_lt_of_pos a h
  have := Int.emod_nonneg a (Int.ne_of_gt h)
  rw [if_neg (by simp; omega)]
  by_cases c : a.tmod n < 0
  · rw [if_pos c] at e
    rw [if_pos (by simp; omega), I64_id (by omega) (by omega), e]
  · rw [if_neg c] at e
    rw [if_neg (by simp; omega), e]
/-- One row is another one by a sum. -/
theorem aff_row {l : List Nat} {x by_ r : Nat} (hr : r < l.length) (n : Nat) : aff (l.set r (l.getD r 0 ^^^ by_)) x n = aff l x n ^^^ (if r < n then bitv (par (x &&& by_)) r else 0) := by
  induction n with
  | zero => simp [aff]
  | succ n ih =>
    simp only [aff, ih]
    by_cases h : r = n
    · subst h
      have e1 : (l.set r (l.getD r 0 ^^^ by_)).getD r 0 = l.getD r 0 ^^^ by_ := by rw [List.getD_eq_getElem?_getD, List.getElem?_set_self hr]; rfl
      rw [e1, if_neg (Nat.lt_irrefl r), if_pos (Nat.lt_succ_self r), Nat.xor_zero, Nat.and_xor_distrib_left, par_xor, Nat.xor_assoc]
      congr 1
      exact bitv_xor _ _ r
    · have e1 : (l.set r (l.getD r 0 ^^^ by_)).getD n 0 = l.getD n 0 := by rw [List.getD_eq_getElem?_getD, List.getElem?_set_ne h, ← List.getD_eq_getElem?_getD]
      have e2 : (r < n + 1) = (r < n) := by apply propext; omega
      rw [e1]
      simp only [e2]
      rw [Nat.xor_assoc, Nat.xor_comm (if r < n then _ else 0), ← Nat.xor_assoc]
theorem bits_l0 {x y c r p q : Nat} {l : List Nat} {t28 : Int} (a0 a2 : Int) (hx : x < 256) (hy : y < 256) (hr : r < 8) (h28 : bxor .u8 (p : Int) t28 = ((bitv (par (x &&& y)) r : Nat) : Int))
    (href : ∀ k, 96 < k → scrimref4_Affine.f k (x : Int) (il l) a2 = some (p : Int)) (d : Nat) {k i : Nat} (hk : d + 100 < k) (hi : i + d = 8) :
    scrimlaw4_BoxBits.l0 k (x : Int) a2 (y : Int) (r : Int) (p : Int) t28 (il l) (((pq (x &&& y) i).toNat : Nat) : Int) (i : Int) = some true := by
  have hxy : x &&& y < 256 := Nat.lt_of_le_of_lt Nat.and_le_left hx
  induction d generalizing k i with
  | zero =>
    obtain ⟨k, rfl⟩ : ∃ j, k = j + 1 := ⟨k - 1, by omega⟩
    have : i = 8 := by omega
    subst this
    have u1 : U64 (r : Int) = (r : Int) := U64_id (by omega) (by omega)
    have e3 : shlv .u8 (((par (x &&& y)).toNat : Nat) : Int) (r : Int) = ((bitv (par (x &&& y)) r : Nat) : Int) := by
      show shl .u8 _ (min ((r : Int)).toNat 8) = _
      rw [shl8, Int.toNat_natCast, Nat.min_eq_left (by omega)]
      have hp8 : 2 ^ r < 2 ^ 8 := Nat.pow_lt_pow_right (by decide) hr
      have hp : 2 ^ r < 256 := hp8
      unfold bitv
      cases par (x &&& y)
      · simp
      · simp [Nat.shiftLeft_eq, Nat.mod_eq_of_lt hp]
    have c1 : decide (((8 : Nat) : Int) < 8) = false := by decide
    have c2 : decide (0 ≤ (r : Int)) = true := by rw [decide_eq_true_eq]; omega
    simp only [scrimlaw4_BoxBits.l0, c1, Bool.false_eq_true, if_false, u1, c2, if_true, Option.bind_some, pq_par, h28, e3, beq_self_eq_true, href k (by omega)]
  | succ d ih =>
    obtain ⟨k, rfl⟩ : ∃ j, k = j + 1 := ⟨k - 1, by omega⟩
    have c1 : decide ((i : Int) < 8) = true := by rw [decide_eq_true_eq]; omega
    have c2 : decide (0 ≤ (i : Int)) = true := by rw [decide_eq_true_eq]; omega
    have e9 : U64 ((i : Int) + 1) = ((i + 1 : Nat) : Int) := by rw [U64_id (by omega) (by omega)]; simp
    have b0 := ba8 hx hy
    have ih' := ih (k := k) (i := i + 1) (by omega) (by omega)
    have e0 : shrv .u8 ((x &&& y : Nat) : Int) (i : Int) = (((x &&& y) >>> i : Nat) : Int) := by
      show shr _ (min (i : Int).toNat 8) = _
      rw [shr_nat]; congr 2; rw [Int.toNat_natCast]; omega
    have hyq : (x &&& y) >>> i < 256 := by rw [Nat.shiftRight_eq_div_pow]; exact Nat.lt_of_le_of_lt (Nat.div_le_self _ _) hxy
    have e2 : band .u8 (((x &&& y) >>> i : Nat) : Int) 1 = ((((x &&& y) >>> i) &&& 1 : Nat) : Int) := ba8 hyq (by decide)
    have hb1 : ((x &&& y) >>> i) &&& 1 = ((x &&& y).testBit i).toNat := by
      rw [Nat.testBit_eq_decide_div_mod_eq, Nat.and_one_is_mod, Nat.shiftRight_eq_div_pow]
      have := Nat.mod_two_eq_zero_or_one ((x &&& y) / 2 ^ i)
      rcases this with h | h <;> simp [h]
    rw [hb1] at e2
    have e4 : bxor .u8 (((pq (x &&& y) i).toNat : Nat) : Int) ((((x &&& y).testBit i).toNat : Nat) : Int) = (((pq (x &&& y) (i + 1)).toNat : Nat) : Int) := by
      show _ = (((pq (x &&& y) i ^^ (x &&& y).testBit i).toNat : Nat) : Int)
      cases pq (x &&& y) i <;> cases (x &&& y).testBit i <;> decide
    simp only [scrimlaw4_BoxBits.l0, c1, c2, if_true, b0, e0, e2, e4, Option.bind_some, e9]
    exact ih'
theorem BoxBits (a0 : Int) (a1 : List Int) (a2 : Int) (a3 : Int) (a4 : Int) (h0 : In .u8 a0) (h1 : a1.length ≤ maxLen) (h2 : ∀ x ∈ a1, In .u8 x) (h3 : In .u8 a2) (h4 : In .i64 a3) (h5 : In .u8 a4) : ∃ k, scrimlaw4_BoxBits.f k a0 a1 a2 a3 a4 = some true := by
  obtain ⟨x, hx, rfl⟩ := u8_of h0
  obtain ⟨b, rfl, hb⟩ := il_of h2
  obtain ⟨c, hc, rfl⟩ := u8_of h3
  obtain ⟨y, hy, rfl⟩ := u8_of h5
  obtain ⟨r, hr, er⟩ : ∃ i : Nat, i < 8 ∧ a3 % 8 = i := ⟨(a3 % 8).toNat, by omega, by omega⟩
  obtain ⟨k, hk⟩ : ∃ k : Nat, 700 ≤ k := ⟨700, Nat.le_refl _⟩
  refine ⟨k, ?_⟩
  have w1 := within4_eq (k := k) a3 8 (by decide) (by decide)
  rw [er] at w1
  obtain ⟨l, e1, hn, hl⟩ := rows_eq hb (k := k) (by omega)
  have hlr := getD_lt hl r
  have b1 := bx8 hlr hy
  have hs : ∀ z ∈ l.set r (l.getD r 0 ^^^ y), z < 256 := by
    intro z hz
    rcases List.mem_or_eq_of_mem_set hz with hz | rfl
    · exact hl z hz
    · exact Nat.xor_lt_two_pow (n := 8) hlr hy
  have f1 := baff_eq hl hx hc (k := k) (by omega)
  have f2 := baff_eq hs hx hc (k := k) (by omega)
  rw [aff_row (by omega), if_pos hr] at f2
  have c1 : decide (0 ≤ (r : Int)) = true := by rw [decide_eq_true_eq]; omega
  have c2 : decide ((r : Int) < 8) = true := by rw [decide_eq_true_eq]; omega
  have la := aff_lt l x 8 (by decide)
  have hp : c ^^^ aff l x 8 < 256 := Nat.xor_lt_two_pow (n := 8) hc la
  have h28 : bxor .u8 ((c ^^^ aff l x 8 : Nat) : Int) ((c ^^^ (aff l x 8 ^^^ bitv (par (x &&& y)) r) : Nat) : Int) = ((bitv (par (x &&& y)) r : Nat) : Int) := by
    rw [← Nat.xor_assoc c, bx8 hp (Nat.xor_lt_two_pow (n := 8) hp (bitv_lt hr)), ← Nat.xor_assoc, Nat.xor_self, Nat.zero_xor]
  have href : ∀ k, 96 < k → scrimref4_Affine.f k (x : Int) (il l) (c : Int) = some ((c ^^^ aff l x 8 : Nat) : Int) := fun k hk => raff_eq hl hx hc hk
  have main := bits_l0 (l := l) (c := c) (q := 0) (x : Int) (c : Int) hx hy hr h28 href 8 (k := k) (i := 0) (by omega) (by omega)
  unfold scrimlaw4_BoxBits.f
  simp only [known4_eq (k := k) (by omega), Option.bind_some, Bool.not_true, Bool.false_eq_true, if_false, e1, w1, c1, c2, if_true, f1, il_rd', b1, Int.toNat_natCast, il_set, f2]
  exact main
end Go.Scr.S
