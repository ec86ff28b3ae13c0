/- The plain law of IdeaNum. -/
import Derived.Test.YtdagooiakgnecaaXDeep3
import Derived.Test.YtdagooiakgnecaaLibNum
set_option linter.unusedVariables false
set_option linter.unusedSimpArgs false
set_option linter.unnecessarySimpa false
namespace Go.Scr.S
def st (a : Nat) : Nat := if a = 0 then 65536 else a
def im (a b : Nat) : Nat := st a * st b % 65537 % 65536
theorem tmod_nat (a b : Nat) : Int.tmod (a : Int) (b : Int) = ((a % b : Nat) : Int) := rfl
theorem tdiv_nat (a b : Nat) : Int.tdiv (a : Int) (b : Int) = ((a / b : Nat) : Int) := rfl
theorem st_pos {a : Nat} : 0 < st a := by unfold st; split <;> omega
theorem st_lt {a : Nat} (h : a < 65536) : st a < 65537 := by unfold st; split <;> omega
theorem im_lt (a b : Nat) : im a b < 65536 := Nat.mod_lt _ (by decide)
set_option maxRecDepth 20000 in
theorem no_div : ∀ d, d < 257 → 2 ≤ d → 65537 % d ≠ 0 := by decide
theorem cop {x : Nat} (h0 : 0 < x) (h1 : x < 65537) : Nat.Coprime x 65537 := by
  unfold Nat.Coprime
  generalize hg : Nat.gcd x 65537 = g
  have d1 : g ∣ x := hg ▸ Nat.gcd_dvd_left x 65537
  have d2 : g ∣ 65537 := hg ▸ Nat.gcd_dvd_right x 65537
  have hgx : g ≤ x := Nat.le_of_dvd h0 d1
  have hg0 : 0 < g := by
    rcases Nat.eq_zero_or_pos g with h | h
    · subst h; obtain ⟨q, hq⟩ := d2; omega
    · exact h
  rcases Nat.lt_or_ge g 2 with h | h
  · omega
  · exfalso
    obtain ⟨q, hq⟩ := d2
    rcases Nat.lt_or_ge g 257 with h2 | h2
    · exact no_div g h2 h (by rw [hq]; exact Nat.mul_mod_right g q)
    · have hq2 : 2 ≤ q := by
        rcases Nat.lt_or_ge q 2 with h3 | h3
        · have : q = 0 ∨ q = 1 := by omega
          rcases this with rfl | rfl <;> omega
        · exact h3
      rcases Nat.lt_or_ge q 257 with h3 | h3
      · exact no_div q h3 hq2 (by rw [hq]; exact Nat.mul_mod_left g q)
      · have : 257 * 257 ≤ g * q := Nat.mul_le_mul h2 h3
        omega
theorem prm {x y : Nat} (h0 : 0 < x) (h1 : x < 65537) (h2 : 0 < y) (h3 : y < 65537) : x * y % 65537 ≠ 0 := by
  intro h
  have hd : 65537 ∣ x * y := Nat.dvd_of_mod_eq_zero h
  have := (cop h0 h1).symm.dvd_of_dvd_mul_left hd
  have := Nat.le_of_dvd h2 this
  omega
theorem st_of {z : Nat} (h0 : z ≠ 0) (h1 : z < 65537) : st (z % 65536) = z := by
  unfold st; split <;> omega
theorem st_im {a b : Nat} (ha : a < 65536) (hb : b < 65536) : st (im a b) = st a * st b % 65537 :=
  st_of (prm st_pos (st_lt ha) st_pos (st_lt hb)) (Nat.mod_lt _ (by decide))
theorem st_inj {a b : Nat} (ha : a < 65536) (hb : b < 65536) (h : st a = st b) : a = b := by unfold st at h; split at h <;> split at h <;> omega
theorem im_comm (a b : Nat) : im a b = im b a := by unfold im; rw [Nat.mul_comm]
theorem im_assoc {a b c : Nat} (ha : a < 65536) (hb : b < 65536) (hc : c < 65536) : im (im a b) c = im a (im b c) := by
  apply st_inj (im_lt _ _) (im_lt _ _)
  rw [st_im (im_lt _ _) hc, st_im ha (im_lt _ _), st_im ha hb, st_im hb hc]
  rw [Nat.mod_mul_mod, Nat.mul_mod_mod, Nat.mul_assoc]
theorem im_one {a : Nat} (ha : a < 65536) : im a 1 = a := by
  unfold im st; split <;> simp <;> omega
theorem one_im {a : Nat} (ha : a < 65536) : im 1 a = a := by rw [im_comm]; exact im_one ha
/-- The exponents, as names. -/
def eA : Nat := 65535
def eB : Nat := 65536
theorem eAB : eA + 1 = eB := rfl
/-- What undoes a number: a power of it. -/
def iv (a : Nat) : Nat := st a ^ eA % 65537 % 65536
def s1 (x : Nat) : Nat := x * x % 65537
def sq16 (x : Nat) : Nat := s1 (s1 (s1 (s1 (s1 (s1 (s1 (s1 (s1 (s1 (s1 (s1 (s1 (s1 (s1 (s1 x)))))))))))))))
def chk : Nat → Nat → Bool
  | 0, s => Nat.beq (sq16 s) 1
  | d + 1, s => bif chk d s then chk d (s + 2 ^ d) else false
theorem chk_all : chk 15 1 = true := by kernel_rfl
theorem chk_spec : ∀ {d s : Nat}, chk d s = true → ∀ x, s ≤ x → x < s + 2 ^ d → sq16 x = 1
  | 0, s, h, x, h0, h1 => by
    have : x = s := by omega
    subst this
    exact Nat.eq_of_beq_eq_true h
  | d + 1, s, h, x, h0, h1 => by
    unfold chk at h
    cases hc : chk d s with
    | false => rw [hc] at h; cases h
    | true =>
      rw [hc, cond_true] at h
      rw [Nat.pow_succ] at h1
      rcases Nat.lt_or_ge x (s + 2 ^ d) with h2 | h2
      · exact chk_spec hc x h0 h2
      · exact chk_spec h x h2 (by omega)
theorem s1_pow (x m : Nat) : s1 (x ^ m % 65537) = x ^ (m * 2) % 65537 := by
  unfold s1; rw [← Nat.mul_mod, ← Nat.pow_add]; congr 2; omega
def it : Nat → Nat → Nat
  | 0, x => x
  | n + 1, x => s1 (it n x)
theorem it_pow {x : Nat} (hx : x < 65537) : ∀ (n e : Nat), e = 2 ^ n → it n x = x ^ e % 65537
  | 0, e, h => by
    subst h
    rw [Nat.pow_zero, Nat.pow_one, Nat.mod_eq_of_lt hx]; rfl
  | n + 1, e, h => by
    rw [Nat.pow_succ] at h
    subst h
    show s1 (it n x) = _
    rw [it_pow hx n _ rfl, s1_pow]
theorem sq16_pow {x : Nat} (hx : x < 65537) : sq16 x = x ^ eB % 65537 := it_pow hx 16 eB rfl
theorem s1_neg {x : Nat} (h0 : 0 < x) (h1 : x < 65537) : s1 (65537 - x) = s1 x := by
  unfold s1
  obtain ⟨y, hy⟩ : ∃ y, 65537 = x + y := ⟨65537 - x, by omega⟩
  have e1 : 65537 - x = y := by omega
  rw [e1]
  have e2 : y * y + 65537 * x = x * x + 65537 * y := by
    rw [hy, Nat.add_mul, Nat.add_mul, Nat.mul_comm y x]; omega
  have e3 : (y * y + 65537 * x) % 65537 = (x * x + 65537 * y) % 65537 := by rw [e2]
  rwa [Nat.add_mul_mod_self_left, Nat.add_mul_mod_self_left] at e3
theorem fermat {x : Nat} (h0 : 0 < x) (h1 : x < 65537) : x ^ eB % 65537 = 1 := by
  rw [← sq16_pow h1]
  rcases Nat.lt_or_ge x 32769 with h | h
  · exact chk_spec chk_all x h0 (by omega)
  · have := chk_spec chk_all (65537 - x) (by omega) (by omega)
    unfold sq16 at this ⊢
    rwa [s1_neg h0 h1] at this
theorem iv_lt7 (a : Nat) : iv a < 65536 := Nat.mod_lt _ (by decide)
theorem pow_ne {x : Nat} (h0 : 0 < x) (h1 : x < 65537) (n : Nat) : x ^ n % 65537 ≠ 0 := by
  induction n with
  | zero => simp
  | succ n ih =>
    rw [Nat.pow_succ, ← Nat.mod_mul_mod]
    exact prm (Nat.pos_of_ne_zero ih) (Nat.mod_lt _ (by decide)) h0 h1
theorem st_iv {a : Nat} (ha : a < 65536) : st (iv a) = st a ^ eA % 65537 := st_of (pow_ne st_pos (st_lt ha) _) (Nat.mod_lt _ (by decide))
theorem im_iv {a : Nat} (ha : a < 65536) : im a (iv a) = 1 := by
  unfold im
  rw [st_iv ha, Nat.mul_mod_mod, Nat.mul_comm, ← Nat.pow_succ, Nat.succ_eq_add_one, eAB, fermat st_pos (st_lt ha)]
theorem im_cancel {a b c : Nat} (ha : a < 65536) (hb : b < 65536) (hc : c < 65536) : im a b = im a c ↔ b = c := by
  refine ⟨fun h => ?_, fun h => by rw [h]⟩
  have h2 : im (iv a) (im a b) = im (iv a) (im a c) := by rw [h]
  rw [← im_assoc (iv_lt7 a) ha hb, ← im_assoc (iv_lt7 a) ha hc, im_comm (iv a) a, im_iv ha, one_im hb, one_im hc] at h2
  exact h2
theorem iv_iv {a : Nat} (ha : a < 65536) : iv (iv a) = a := by
  have h1 := im_iv (iv_lt7 a)
  have h2 : im (iv a) a = 1 := by rw [im_comm]; exact im_iv ha
  exact (im_cancel (iv_lt7 a) (iv_lt7 _) ha).1 (h1.trans h2.symm)
theorem iv_of {a b : Nat} (ha : a < 65536) (hb : b < 65536) (h : im a b = 1) : b = iv a := (im_cancel ha hb (iv_lt7 a)).1 (h.trans (im_iv ha).symm)
end Go.Scr.S
