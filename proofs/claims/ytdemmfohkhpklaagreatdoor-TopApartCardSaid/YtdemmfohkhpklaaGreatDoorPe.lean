/- Numbers, powers and tables. -/
import Derived.Test.YtdemmfohkhpklaaGreatDoorFb
set_option linter.unusedVariables false
set_option linter.unusedSimpArgs false
set_option maxRecDepth 10000
namespace Go.Scr.S
theorem U8_nat (n : Nat) : U8 (n : Int) = ((n % 256 : Nat) : Int) := by simp [U8, IntKind.wrap, IntKind.bits, IntKind.signed]
theorem U8_id {x : Int} (h0 : 0 ≤ x) (h1 : x < 256) : U8 x = x := by simp [U8, IntKind.wrap, IntKind.bits, IntKind.signed]; omega
theorem I64_id {x : Int} (h0 : -9223372036854775808 ≤ x) (h1 : x < 9223372036854775808) : I64 x = x := by
  simp only [I64, IntKind.wrap, IntKind.bits, IntKind.signed, Bool.true_and]; split <;> simp at * <;> omega
theorem I64_nat {n : Nat} (h1 : n < 9223372036854775808) : I64 (n : Int) = n := I64_id (by omega) (by omega)
/-- Bits of numbers that fit. -/
theorem bx_of {k : IntKind} {a b : Nat} (ha : a < 2 ^ k.bits) (hb : b < 2 ^ k.bits) : bxor k (a : Int) (b : Int) = k.wrap ((a ^^^ b : Nat) : Int) := by
  unfold bxor; congr 2
  rw [BitVec.toNat_xor, BitVec.ofInt_natCast, BitVec.ofInt_natCast, BitVec.toNat_ofNat, BitVec.toNat_ofNat, Nat.mod_eq_of_lt ha, Nat.mod_eq_of_lt hb]
theorem ba_of {k : IntKind} {a b : Nat} (ha : a < 2 ^ k.bits) (hb : b < 2 ^ k.bits) : band k (a : Int) (b : Int) = k.wrap ((a &&& b : Nat) : Int) := by
  unfold band; congr 2
  rw [BitVec.toNat_and, BitVec.ofInt_natCast, BitVec.ofInt_natCast, BitVec.toNat_ofNat, BitVec.toNat_ofNat, Nat.mod_eq_of_lt ha, Nat.mod_eq_of_lt hb]
theorem bx8 {a b : Nat} (ha : a < 256) (hb : b < 256) : bxor .u8 (a : Int) (b : Int) = ((a ^^^ b : Nat) : Int) := by
  rw [bx_of (by simpa [IntKind.bits] using ha) (by simpa [IntKind.bits] using hb)]
  exact (U8_nat _).trans (by rw [Nat.mod_eq_of_lt (Nat.xor_lt_two_pow (n := 8) ha hb)])
theorem bxi {a b : Nat} (ha : a < 9223372036854775808) (hb : b < 9223372036854775808) : bxor .i64 (a : Int) (b : Int) = ((a ^^^ b : Nat) : Int) := by
  rw [bx_of (by simp [IntKind.bits]; omega) (by simp [IntKind.bits]; omega)]
  exact I64_nat (Nat.xor_lt_two_pow (n := 63) ha hb)
theorem bai {a b : Nat} (ha : a < 9223372036854775808) (hb : b < 9223372036854775808) : band .i64 (a : Int) (b : Int) = ((a &&& b : Nat) : Int) := by
  rw [ba_of (by simp [IntKind.bits]; omega) (by simp [IntKind.bits]; omega)]
  exact I64_nat (Nat.lt_of_le_of_lt Nat.and_le_left ha)
theorem ba8 {a b : Nat} (ha : a < 256) (hb : b < 256) : band .u8 (a : Int) (b : Int) = ((a &&& b : Nat) : Int) := by
  rw [ba_of (by simpa [IntKind.bits] using ha) (by simpa [IntKind.bits] using hb)]
  exact (U8_nat _).trans (by rw [Nat.mod_eq_of_lt (Nat.lt_of_le_of_lt Nat.and_le_left ha)])
/-- Shifts of numbers that fit. -/
theorem shr_nat (a n : Nat) : shr (a : Int) n = ((a >>> n : Nat) : Int) := by
  unfold shr; rw [Int.fdiv_eq_ediv_of_nonneg _ (Int.le_of_lt (Int.pow_pos (by decide)))]; simp [Nat.shiftRight_eq_div_pow]
theorem shl_nat (k : IntKind) (a n : Nat) : shl k (a : Int) n = k.wrap ((a <<< n : Nat) : Int) := by
  unfold shl; congr 1; simp [Nat.shiftLeft_eq]
theorem shli {a n : Nat} (h : a <<< n < 9223372036854775808) : shl .i64 (a : Int) n = ((a <<< n : Nat) : Int) := (shl_nat _ _ _).trans (I64_nat h)
end Go.Scr.S

namespace Go.Scr.S
def il (l : List Nat) : List Int := l.map (fun n : Nat => (n : Int))
theorem il_length (l : List Nat) : (il l).length = l.length := by simp [il]
theorem il_rd' (l : List Nat) (i : Nat) : rd (il l) (i : Int) = ((l.getD i 0 : Nat) : Int) := by
  unfold rd il; rw [Int.toNat_natCast, List.getD_eq_getElem?_getD, List.getElem?_map, List.getD_eq_getElem?_getD]
  cases l[i]? <;> rfl
theorem getD_lt {l : List Nat} (hl : ∀ x ∈ l, x < 256) (i : Nat) : l.getD i 0 < 256 := by
  rw [List.getD_eq_getElem?_getD]
  cases e : l[i]? with
  | none => decide
  | some x => exact hl x (List.mem_of_getElem? e)
theorem il_set (l : List Nat) (i v : Nat) : (il l).set i (v : Int) = il (l.set i v) := by simp [il, List.map_set]
theorem il_replicate (n : Nat) : List.replicate n (0 : Int) = il (List.replicate n 0) := by simp [il]
end Go.Scr.S

namespace Go.Scr.S
/-- A row that is filled from its first place on. -/
def fill (n : Nat) (F : Nat → Int) : List Int := (List.range n).map F
def Fl (F : Nat → Int) (n i : Nat) (x : List Int) : Prop := x.length = n ∧ ∀ j, j < i → x[j]? = some (F j)
theorem Fl.zero {F : Nat → Int} {n : Nat} {x : List Int} (h : x.length = n) : Fl F n 0 x := ⟨h, fun j hj => absurd hj (Nat.not_lt_zero j)⟩
theorem Fl.set {F : Nat → Int} {n i : Nat} {x : List Int} (h : Fl F n i x) (hi : i < n) {v : Int} (hv : v = F i) : Fl F n (i + 1) (x.set i v) := by
  refine ⟨by rw [List.length_set]; exact h.1, fun j hj => ?_⟩
  rw [List.getElem?_set]
  by_cases e : i = j
  · subst e; rw [if_pos rfl, if_pos (by rw [h.1]; exact hi), hv]
  · rw [if_neg e]; exact h.2 j (by omega)
theorem Fl.done {F : Nat → Int} {n : Nat} {x : List Int} (h : Fl F n n x) : x = fill n F := by
  refine List.ext_getElem? fun j => ?_
  unfold fill
  by_cases e : j < n
  · rw [h.2 j e, List.getElem?_map, List.getElem?_range e]; rfl
  · rw [List.getElem?_eq_none (by rw [h.1]; omega), List.getElem?_eq_none (by simp; omega)]
end Go.Scr.S

namespace Go.Scr.S
/-- Twice, by the rest m. -/
def xt (m a : Nat) : Nat := (a <<< 1) ^^^ (if a.testBit 7 then m else 0)
/-- The product, of the lowest n bits of b. -/
def gm (m : Nat) : Nat → Nat → Nat → Nat
  | 0, _, _ => 0
  | n + 1, a, b => (if b.testBit 0 then a else 0) ^^^ gm m n (xt m a) (b >>> 1)
theorem xor4 (a b c d : Nat) : (a ^^^ b) ^^^ (c ^^^ d) = (a ^^^ c) ^^^ (b ^^^ d) := by
  rw [Nat.xor_assoc, ← Nat.xor_assoc b c d, Nat.xor_comm b c, Nat.xor_assoc c b d, ← Nat.xor_assoc]
theorem pick_xor (p q : Bool) (a b : Nat) : (if (p ^^ q) then a else 0) = (if p then a else 0) ^^^ (if q then a else 0) := by cases p <;> cases q <;> simp
theorem pick_two (p : Bool) (a b : Nat) : (if p then a ^^^ b else 0) = (if p then a else 0) ^^^ (if p then b else 0) := by cases p <;> simp
theorem xt_xor (m a b : Nat) : xt m (a ^^^ b) = xt m a ^^^ xt m b := by
  unfold xt; rw [Nat.shiftLeft_xor_distrib, Nat.testBit_xor, pick_xor _ _ _ 0, xor4]
theorem xt_zero (m : Nat) : xt m 0 = 0 := by simp [xt]
theorem gm_left (m n a a' b : Nat) : gm m n (a ^^^ a') b = gm m n a b ^^^ gm m n a' b := by
  induction n generalizing a a' b with
  | zero => simp [gm]
  | succ n ih => simp only [gm]; rw [xt_xor, ih, pick_two, xor4]
theorem gm_zero (m n b : Nat) : gm m n 0 b = 0 := by
  induction n generalizing b with
  | zero => rfl
  | succ n ih => simp [gm, xt_zero, ih]
theorem gm_none (m n a : Nat) : gm m n a 0 = 0 := by
  induction n generalizing a with
  | zero => rfl
  | succ n ih => simp [gm, ih]
theorem gm_xt (m n a b : Nat) : gm m n (xt m a) b = xt m (gm m n a b) := by
  induction n generalizing a b with
  | zero => simp [gm, xt_zero]
  | succ n ih =>
    simp only [gm]; rw [xt_xor, ih]
    cases b.testBit 0 <;> simp [xt_zero]
theorem gm_pick (m n : Nat) (p : Bool) (x b : Nat) : gm m n (if p then x else 0) b = if p then gm m n x b else 0 := by cases p <;> simp [gm_zero]
theorem gm_swap (m n n' x a b : Nat) : gm m n (gm m n' x b) a = gm m n' (gm m n x a) b := by
  induction n generalizing x a with
  | zero => simp [gm, gm_zero]
  | succ n ih =>
    show _ ^^^ _ = gm m n' (_ ^^^ _) b
    rw [gm_left, gm_pick, ← gm_xt, ih]
theorem gm_one (m : Nat) {a : Nat} (h : a < 256) : gm m 8 1 a = a := by
  have hx : ∀ i, i < 7 → xt m (2 ^ i) = 2 ^ (i + 1) := by
    intro i hi
    have : (2 ^ i).testBit 7 = false := by rw [Nat.testBit_two_pow]; simp; omega
    simp only [xt, this]; simp [Nat.shiftLeft_eq, Nat.pow_succ]
  have h0 := hx 0 (by decide); have h1 := hx 1 (by decide); have h2 := hx 2 (by decide); have h3 := hx 3 (by decide)
  have h4 := hx 4 (by decide); have h5 := hx 5 (by decide); have h6 := hx 6 (by decide)
  simp only [Nat.reducePow, Nat.reduceAdd] at h0 h1 h2 h3 h4 h5 h6
  simp only [gm, h0, h1, h2, h3, h4, h5, h6]
  have : ∀ a, a < 256 → ((if a.testBit 0 then 1 else 0) ^^^ ((if (a >>> 1).testBit 0 then 2 else 0) ^^^ ((if (a >>> 1 >>> 1).testBit 0 then 4 else 0) ^^^ ((if (a >>> 1 >>> 1 >>> 1).testBit 0 then 8 else 0) ^^^ ((if (a >>> 1 >>> 1 >>> 1 >>> 1).testBit 0 then 16 else 0) ^^^ ((if (a >>> 1 >>> 1 >>> 1 >>> 1 >>> 1).testBit 0 then 32 else 0) ^^^ ((if (a >>> 1 >>> 1 >>> 1 >>> 1 >>> 1 >>> 1).testBit 0 then 64 else 0) ^^^ ((if (a >>> 1 >>> 1 >>> 1 >>> 1 >>> 1 >>> 1 >>> 1).testBit 0 then 128 else 0) ^^^ 0)))))))) = a := by decide +kernel
  exact this a h
/-- A rest of the eighth degree. -/
def Rst (m : Nat) : Prop := 256 ≤ m ∧ m < 512
theorem xt_lt {m a : Nat} (hm : Rst m) (ha : a < 256) : xt m a < 256 := by
  obtain ⟨h0, h1⟩ := hm
  have hm8 : m.testBit 8 = true := by rw [Nat.testBit_eq_decide_div_mod_eq]; simp; omega
  refine Nat.lt_pow_two_of_testBit (n := 8) _ fun i hi => ?_
  unfold xt; rw [Nat.testBit_xor, Nat.testBit_shiftLeft]
  have hi1 : decide (i ≥ 1) = true := by simp; omega
  rw [hi1, Bool.true_and]
  rcases Nat.eq_or_lt_of_le hi with h | h
  · subst h; cases hb : a.testBit 7 <;> simp [hb, hm8]
  · have e1 : a.testBit (i - 1) = false := Nat.testBit_lt_two_pow (Nat.lt_of_lt_of_le (by omega : a < 2 ^ 8) (Nat.pow_le_pow_right (by decide) (by omega)))
    have e2 : m.testBit i = false := Nat.testBit_lt_two_pow (Nat.lt_of_lt_of_le (by omega : m < 2 ^ 9) (Nat.pow_le_pow_right (by decide) (by omega)))
    rw [e1]; split <;> simp [e2]
theorem gm_lt {m : Nat} (hm : Rst m) (n : Nat) {a : Nat} (ha : a < 256) (b : Nat) : gm m n a b < 256 := by
  induction n generalizing a b with
  | zero => simp [gm]
  | succ n ih => exact Nat.xor_lt_two_pow (n := 8) (by split <;> omega) (ih (xt_lt hm ha) _)
/-- The product of two bytes. -/
def mu (m a b : Nat) : Nat := gm m 8 a b
theorem mu_lt {m a : Nat} (hm : Rst m) (ha : a < 256) (b : Nat) : mu m a b < 256 := gm_lt hm 8 ha b
theorem mu_comm (m : Nat) {a b : Nat} (ha : a < 256) (hb : b < 256) : mu m a b = mu m b a := by
  have e1 := gm_one m ha; have e2 := gm_one m hb
  show gm m 8 a b = gm m 8 b a
  calc gm m 8 a b = gm m 8 (gm m 8 1 a) b := by rw [e1]
    _ = gm m 8 (gm m 8 1 b) a := gm_swap m 8 8 1 b a
    _ = gm m 8 b a := by rw [e2]
theorem mu_assoc {m a b c : Nat} (hm : Rst m) (ha : a < 256) (hb : b < 256) (hc : c < 256) : mu m (mu m a b) c = mu m a (mu m b c) := by
  rw [mu_comm m ha (mu_lt hm hb c), mu_comm m ha hb]
  exact gm_swap m 8 8 b c a
theorem mu_one (m : Nat) {a : Nat} (ha : a < 256) : mu m a 1 = a := by rw [mu_comm m ha (by decide)]; exact gm_one m ha
theorem one_mu (m : Nat) {a : Nat} (ha : a < 256) : mu m 1 a = a := gm_one m ha
/-- Powers. -/
def pw (m a : Nat) : Nat → Nat
  | 0 => 1
  | n + 1 => mu m (pw m a n) a
theorem pw_lt {m a : Nat} (hm : Rst m) (ha : a < 256) (n : Nat) : pw m a n < 256 := by cases n with | zero => simp [pw] | succ n => exact mu_lt hm (by have := pw_lt hm ha n; omega) a
theorem pw_add {m a : Nat} (hm : Rst m) (ha : a < 256) (i j : Nat) : pw m a (i + j) = mu m (pw m a i) (pw m a j) := by
  induction j with
  | zero => exact (mu_one m (pw_lt hm ha i)).symm
  | succ j ih =>
    show mu m (pw m a (i + j)) a = mu m (pw m a i) (mu m (pw m a j) a)
    rw [ih, mu_assoc hm (pw_lt hm ha i) (pw_lt hm ha j) ha]
theorem pw_two {m a : Nat} (hm : Rst m) (ha : a < 256) (q : Nat) : pw m (mu m a a) q = pw m a (2 * q) := by
  induction q with
  | zero => rfl
  | succ q ih =>
    show mu m (pw m (mu m a a) q) (mu m a a) = mu m (mu m (pw m a (2 * q)) a) a
    rw [ih, mu_assoc hm (pw_lt hm ha _) ha ha]
theorem pw_one (m : Nat) {a : Nat} (ha : a < 256) : pw m a 1 = a := one_mu m ha
/-- Powers, by squares, as the program takes them. -/
def pl2 (m : Nat) : Nat → Nat → Nat → Nat → Nat
  | 0, _, _, s => s
  | f + 1, a, n, s => if n = 0 then s else pl2 m f (mu m a a) (n / 2) (if n % 2 = 1 then mu m s a else s)
theorem pl2_eq {m : Nat} (hm : Rst m) (f : Nat) {a n s : Nat} (ha : a < 256) (hs : s < 256) (hn : n < 2 ^ f) : pl2 m f a n s = mu m s (pw m a n) := by
  induction f generalizing a n s with
  | zero => have : n = 0 := by simpa using hn
            subst this; exact (mu_one m hs).symm
  | succ f ih =>
    simp only [pl2]
    split
    · next h => subst h; exact (mu_one m hs).symm
    · rw [ih (mu_lt hm ha a) (by split; exact mu_lt hm hs a; exact hs) (by omega), pw_two hm ha]
      split
      · next h => rw [mu_assoc hm hs ha (pw_lt hm ha _)]; congr 1
                  have : n = 1 + 2 * (n / 2) := by omega
                  conv => rhs; rw [this, pw_add hm ha, pw_one m ha]
      · next h => congr 1; congr 1; omega
/-- The least number that undoes one. -/
def iv (m a : Nat) : Nat := ((List.range 256).find? fun x => mu m a x == 1).getD 0
/-- The five rests by which bytes are a field. -/
def Fld (m : Nat) : Prop := m = 283 ∨ m = 361 ∨ m = 333 ∨ m = 285 ∨ m = 299
end Go.Scr.S
