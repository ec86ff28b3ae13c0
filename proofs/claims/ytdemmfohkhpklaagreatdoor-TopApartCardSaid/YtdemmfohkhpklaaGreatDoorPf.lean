/- aria's tables. -/
import Derived.Test.YtdemmfohkhpklaaGreatDoorPe
set_option linter.unusedVariables false
set_option linter.unusedSimpArgs false
set_option maxRecDepth 10000
namespace Go.Scr.S
theorem fm_l0 {m : Nat} (hm : Rst m) (n : Nat) {k s x y : Nat} (hk : n < k) (hs : s < 256) (hx : x < 256) (hy : y < 2 ^ n) (hn : n ≤ 8) :
    Vr.l0 k (m : Int) (s : Int) (x : Int) (y : Int) = some ((s ^^^ gm m n x y : Nat) : Int) := by
  induction n generalizing k s x y with
  | zero =>
    obtain ⟨k, rfl⟩ : ∃ j, k = j + 1 := ⟨k - 1, by omega⟩
    have : y = 0 := by simpa using hy
    subst this
    simp [Vr.l0, gm, U8_nat]; omega
  | succ n ih =>
    obtain ⟨k, rfl⟩ : ∃ j, k = j + 1 := ⟨k - 1, by omega⟩
    have hy9 : y < 256 := Nat.lt_of_lt_of_le hy (Nat.pow_le_pow_right (by decide) hn)
    by_cases h0 : y = 0
    · subst h0; simp [Vr.l0, gm_none, U8_nat]; omega
    have hm' := hm; obtain ⟨m0, m1⟩ := hm'
    have hxt := xt_lt hm hx
    have e1 : shl .i64 (x : Int) 1 = ((x <<< 1 : Nat) : Int) := shli (by rw [Nat.shiftLeft_eq]; omega)
    have e2 : band .i64 (y : Int) 1 = ((y &&& 1 : Nat) : Int) := bai (by omega) (by decide)
    have e3 : shr (y : Int) 1 = ((y >>> 1 : Nat) : Int) := shr_nat y 1
    have hy2 : y >>> 1 < 2 ^ n := by rw [Nat.shiftRight_eq_div_pow]; rw [Nat.pow_succ] at hy; omega
    have e4 : ((x <<< 1 : Nat) : Int) ≥ 256 ↔ x.testBit 7 = true := by rw [Nat.testBit_eq_decide_div_mod_eq, Nat.shiftLeft_eq]; simp; omega
    have e5 : ((y &&& 1 : Nat) : Int) > 0 ↔ y.testBit 0 = true := by rw [Nat.testBit_zero, Nat.and_one_is_mod]; simp; omega
    have e6 : x.testBit 7 = true → band .i64 (bxor .i64 ((x <<< 1 : Nat) : Int) (m : Int)) 255 = ((xt m x : Nat) : Int) := by
      intro h
      have : xt m x = (x <<< 1) ^^^ m := by simp [xt, h]
      rw [bxi (by rw [Nat.shiftLeft_eq]; omega) (by omega), ← this]
      refine (bai (by omega) (by decide)).trans ?_
      rw [Nat.and_two_pow_sub_one_of_lt_two_pow (n := 8) hxt]
    have e7 : x.testBit 7 = false → band .i64 ((x <<< 1 : Nat) : Int) 255 = ((xt m x : Nat) : Int) := by
      intro h
      have : xt m x = (x <<< 1) := by simp [xt, h]
      rw [← this]
      refine (bai (by omega) (by decide)).trans ?_
      rw [Nat.and_two_pow_sub_one_of_lt_two_pow (n := 8) hxt]
    have e8 : bxor .i64 (s : Int) (x : Int) = ((s ^^^ x : Nat) : Int) := bxi (by omega) (by omega)
    have hsx : s ^^^ x < 256 := Nat.xor_lt_two_pow (n := 8) hs hx
    have hz : ((y : Int) == 0) = false := by simp; omega
    simp only [Vr.l0, e1, e2, e3, e8, hz]
    rw [if_neg (by simp)]
    cases hb : y.testBit 0 <;> cases hc : x.testBit 7
    · rw [if_neg (by rw [decide_eq_true_eq, e5, hb]; decide), if_neg (by rw [decide_eq_true_eq, e4, hc]; decide), e7 hc, ih (by omega) hs hxt hy2 (by omega)]; simp [gm, hb]
    · rw [if_neg (by rw [decide_eq_true_eq, e5, hb]; decide), if_pos (by rw [decide_eq_true_eq, e4, hc]), e6 hc]
      show Vr.l0 k _ _ _ _ = _
      rw [ih (by omega) hs hxt hy2 (by omega)]; simp [gm, hb]
    · rw [if_pos (by rw [decide_eq_true_eq, e5, hb]), if_neg (by rw [decide_eq_true_eq, e4, hc]; decide), e7 hc, ih (by omega) hsx hxt hy2 (by omega)]; simp only [gm, hb, if_true, Nat.xor_assoc]
    · rw [if_pos (by rw [decide_eq_true_eq, e5, hb]), if_pos (by rw [decide_eq_true_eq, e4, hc]), e6 hc]
      show Vr.l0 k _ _ _ _ = _
      rw [ih (by omega) hsx hxt hy2 (by omega)]; simp only [gm, hb, if_true, Nat.xor_assoc]
theorem fm_eq {m a b k : Nat} (hm : Rst m) (hk : 9 ≤ k) (ha : a < 256) (hb : b < 256) : Vr.f k (a : Int) (b : Int) (m : Int) = some ((mu m a b : Nat) : Int) := by
  unfold Vr.f
  rw [I64_nat (by omega), I64_nat (by omega)]
  have := fm_l0 hm 8 (k := k) (s := 0) (by omega) (by decide) ha hb (by decide)
  rw [Nat.zero_xor] at this
  exact this
theorem fp_l0 {m : Nat} (hm : Rst m) (f : Nat) {k a n s : Nat} (hk : f + 9 < k) (ha : a < 256) (hs : s < 256) (hn : n < 2 ^ f) (hf : f ≤ 62) :
    Vs.l0 k (m : Int) (a : Int) (n : Int) (s : Int) = some ((mu m s (pw m a n) : Nat) : Int) := by
  have hn' : n < 2 ^ 62 := Nat.lt_of_lt_of_le hn (Nat.pow_le_pow_right (by decide) hf)
  rw [← pl2_eq hm f ha hs hn]
  clear hn'
  induction f generalizing k a n s with
  | zero =>
    obtain ⟨k, rfl⟩ : ∃ j, k = j + 1 := ⟨k - 1, by omega⟩
    have : n = 0 := by simpa using hn
    subst this; simp [Vs.l0, pl2]
  | succ f ih =>
    obtain ⟨k, rfl⟩ : ∃ j, k = j + 1 := ⟨k - 1, by omega⟩
    have hn' : n < 2 ^ 62 := Nat.lt_of_lt_of_le hn (Nat.pow_le_pow_right (by decide) hf)
    simp only [Vs.l0, pl2]
    by_cases h0 : n = 0
    · subst h0; simp
    rw [if_neg (by simp; omega), if_neg h0]
    have e1 : band .i64 (n : Int) 1 = ((n &&& 1 : Nat) : Int) := bai (by omega) (by decide)
    have e2 : shr (n : Int) 1 = ((n / 2 : Nat) : Int) := shr_nat n 1
    have hn2 : n / 2 < 2 ^ f := by rw [Nat.pow_succ] at hn; omega
    rw [e1, e2, Nat.and_one_is_mod, fm_eq hm (by omega) ha ha, fm_eq hm (by omega) hs ha]
    have haa := mu_lt hm ha a
    have hsa := mu_lt hm hs a
    by_cases h1 : n % 2 = 1
    · rw [if_pos (by simp [h1]), if_pos h1]; exact ih (by omega) haa hsa hn2 (by omega)
    · have h1' : n % 2 = 0 := by omega
      rw [if_neg (by simp [h1']), if_neg h1]; exact ih (by omega) haa hs hn2 (by omega)
theorem fp_eq {m a n k : Nat} (hm : Rst m) (hk : 72 ≤ k) (ha : a < 256) (hn : n < 2 ^ 62) : Vs.f k (a : Int) (n : Int) (m : Int) = some ((pw m a n : Nat) : Int) := by
  unfold Vs.f
  have := fp_l0 hm 62 (k := k) (s := 1) (by omega) ha (by decide) hn (by decide)
  rw [one_mu m (pw_lt hm ha n)] at this
  exact this
end Go.Scr.S

namespace Go.Scr.S
/-- The sum of a byte's bits. -/
def par (y : Nat) : Bool := y.testBit 0 ^^ (y.testBit 1 ^^ (y.testBit 2 ^^ (y.testBit 3 ^^ (y.testBit 4 ^^ (y.testBit 5 ^^ (y.testBit 6 ^^ y.testBit 7))))))
/-- The first n bits' sums by rows. -/
def aff (l : List Nat) (x : Nat) : Nat → Nat
  | 0 => 0
  | n + 1 => aff l x n ^^^ (if par (x &&& l.getD n 0) then 2 ^ n else 0)
theorem ones_eq {k y : Nat} (hy : y < 256) : ∃ c : Nat, Qm.f k (y : Int) = some (c : Int) ∧ (decide (Int.tmod (c : Int) 2 > 0)) = par y := by
  have key : ∀ y : Nat, y < 256 → ∃ c : Nat, c < 9 ∧ Qm.f 0 (y : Int) = some (c : Int) ∧ (decide (Int.tmod (c : Int) 2 > 0)) = par y := by
    intro y hy
    have := (by decide +kernel : ∀ y : Nat, y < 256 → (match Qm.f 0 ((y : Nat) : Int) with | some c => decide (0 ≤ c) && (decide (Int.tmod c 2 > 0) == par y) && decide (c < 9) | none => false) = true) y hy
    generalize Qm.f 0 ((y : Nat) : Int) = q at this ⊢
    cases q with
    | none => cases this
    | some c =>
      simp only [Bool.and_eq_true, decide_eq_true_eq, beq_iff_eq] at this
      have e : ((c.toNat : Nat) : Int) = c := Int.toNat_of_nonneg this.1.1
      exact ⟨c.toNat, by omega, by rw [e], by rw [e]; exact this.1.2⟩
  obtain ⟨c, _, h1, h2⟩ := key y hy
  exact ⟨c, h1, h2⟩
theorem one_at : ∀ i : Nat, i < 8 → rd ([1, 2, 4, 8, 16, 32, 64, 128] : List Int) (i : Int) = ((2 ^ i : Nat) : Int) := by decide
theorem baff_l0 {l : List Nat} (hl : ∀ x ∈ l, x < 256) {x : Nat} (hx : x < 256) (d : Nat) {k i c : Nat} (hk : d < k) (hi : i + d = 8) (hc : c < 256) :
    ∃ v : Nat, Qo.l0 k (x : Int) (il l) (c : Int) (i : Int) = some (v : Int) ∧ v ^^^ aff l x i = c ^^^ aff l x 8 ∧ v < 256 := by
  induction d generalizing k i c with
  | zero =>
    obtain ⟨k, rfl⟩ : ∃ j, k = j + 1 := ⟨k - 1, by omega⟩
    have : i = 8 := by omega
    subst this
    exact ⟨c, by simp [Qo.l0], rfl, hc⟩
  | succ d ih =>
    obtain ⟨k, rfl⟩ : ∃ j, k = j + 1 := ⟨k - 1, by omega⟩
    have hr := getD_lt hl i
    have hb := ba8 hx hr
    have hy : x &&& l.getD i 0 < 256 := Nat.lt_of_le_of_lt Nat.and_le_left hx
    obtain ⟨n, h1, h2⟩ := ones_eq (k := k) hy
    have hp8 : 2 ^ i < 2 ^ 8 := Nat.pow_lt_pow_right (by decide) (by omega)
    have hp : 2 ^ i < 256 := hp8
    have e5 : I64 ((i : Int) + 1) = ((i + 1 : Nat) : Int) := by rw [I64_id (by omega) (by omega)]; simp
    have c1 : decide ((i : Int) < 8) = true := by rw [decide_eq_true_eq]; omega
    have c2 : decide (0 ≤ (i : Int)) = true := by rw [decide_eq_true_eq]; omega
    simp only [Qo.l0, c1, c2, if_true, il_rd', hb, h1, Option.bind_some, h2, one_at i (by omega), bx8 hc hp, e5]
    cases hq : par (x &&& l.getD i 0)
    · rw [if_neg (by decide)]
      obtain ⟨v, v1, v2, v3⟩ := ih (k := k) (i := i + 1) (c := c) (by omega) (by omega) hc
      have e : aff l x (i + 1) = aff l x i := by simp only [aff, hq, Bool.false_eq_true, if_false, Nat.xor_zero]
      rw [e] at v2
      exact ⟨v, v1, v2, v3⟩
    · rw [if_pos rfl]
      obtain ⟨v, v1, v2, v3⟩ := ih (k := k) (i := i + 1) (c := c ^^^ 2 ^ i) (by omega) (by omega) (Nat.xor_lt_two_pow (n := 8) hc hp)
      refine ⟨v, v1, ?_, v3⟩
      have e : aff l x (i + 1) = aff l x i ^^^ 2 ^ i := by simp only [aff, hq, if_true]
      rw [e] at v2
      have h : (v ^^^ (aff l x i ^^^ 2 ^ i)) ^^^ 2 ^ i = ((c ^^^ 2 ^ i) ^^^ aff l x 8) ^^^ 2 ^ i := by rw [v2]
      have u : ∀ A P : Nat, (A ^^^ P) ^^^ P = A := fun A P => by rw [Nat.xor_assoc, Nat.xor_self, Nat.xor_zero]
      rw [← Nat.xor_assoc v, u, Nat.xor_assoc c, Nat.xor_comm (2 ^ i) (aff l x 8), ← Nat.xor_assoc c, u] at h
      exact h
theorem baff_eq {l : List Nat} (hl : ∀ x ∈ l, x < 256) {x c k : Nat} (hx : x < 256) (hc : c < 256) (hk : 8 < k) : Qo.f k (x : Int) (il l) (c : Int) = some ((c ^^^ aff l x 8 : Nat) : Int) := by
  obtain ⟨v, h1, h2, h3⟩ := baff_l0 hl hx 8 (k := k) (i := 0) (by omega) (by omega) hc
  rw [show aff l x 0 = 0 from rfl, Nat.xor_zero] at h2
  rw [← h2]; exact h1
end Go.Scr.S

namespace Go.Scr.S
def mk (m e : Nat) (l : List Nat) (c x : Nat) : Int := ((c ^^^ aff l (pw m x e) 8 : Nat) : Int)
theorem make_l0 {m e c : Nat} {l : List Nat} (hm : Rst m) (he : e < 2 ^ 62) (hl : ∀ x ∈ l, x < 256) (hc : c < 256) (d : Nat) {k i : Nat} {x : List Int} (hk : d + 100 < k) (hi : i + d = 256) (hx : Fl (mk m e l c) 256 i x) :
    Qr.l0 k (e : Int) (m : Int) (il l) (c : Int) x (i : Int) = some (fill 256 (mk m e l c)) := by
  induction d generalizing k i x with
  | zero =>
    obtain ⟨k, rfl⟩ : ∃ j, k = j + 1 := ⟨k - 1, by omega⟩
    have : i = 256 := by omega
    subst this
    simp only [Qr.l0]
    rw [if_neg (by decide), hx.done]
  | succ d ih =>
    obtain ⟨k, rfl⟩ : ∃ j, k = j + 1 := ⟨k - 1, by omega⟩
    have e1 : U8 (i : Int) = (i : Int) := U8_id (by omega) (by omega)
    have e5 : I64 ((i : Int) + 1) = ((i + 1 : Nat) : Int) := by rw [I64_id (by omega) (by omega)]; simp
    have c1 : decide ((i : Int) < 256) = true := by rw [decide_eq_true_eq]; omega
    have c2 : decide (0 ≤ (i : Int)) = true := by rw [decide_eq_true_eq]; omega
    have f1 := fp_eq hm (k := k) (a := i) (n := e) (by omega) (by omega) he
    have f2 := baff_eq hl (pw_lt hm (by omega : i < 256) e) hc (k := k) (by omega)
    simp only [Qr.l0, c1, c2, if_true, e1, f1, f2, Option.bind_some, e5, Int.toNat_natCast]
    exact ih (by omega) (by omega) (hx.set (by omega) rfl)
theorem make_eq {m e c k : Nat} {l : List Nat} (hm : Rst m) (he : e < 2 ^ 62) (hl : ∀ x ∈ l, x < 256) (hc : c < 256) (hk : 400 ≤ k) : Qr.f k (e : Int) (m : Int) (il l) (c : Int) = some (fill 256 (mk m e l c)) :=
  make_l0 hm he hl hc 256 (i := 0) (by omega) (by omega) (Fl.zero (by rw [List.length_replicate]))
end Go.Scr.S

namespace Go.Scr.S
def marks (P : Nat → Bool) : List Bool := (List.range 256).map P
theorem marks_length (P : Nat → Bool) : (marks P).length = 256 := by simp [marks]
theorem marks_at (P : Nat → Bool) (j : Nat) : (marks P)[j]? = if j < 256 then some (P j) else none := by
  unfold marks
  rw [List.getElem?_map]
  by_cases h : j < 256
  · rw [List.getElem?_range h, if_pos h]; rfl
  · rw [List.getElem?_eq_none (by simp; omega), if_neg h]; rfl
theorem marks_set (P : Nat → Bool) (v : Nat) : (marks P).set v true = marks (fun u => P u || decide (u = v)) := by
  refine List.ext_getElem? fun j => ?_
  rw [List.getElem?_set, marks_at, marks_at, marks_length]
  by_cases h : v = j
  · subst h; rw [if_pos rfl]; by_cases hv : v < 256 <;> simp [hv]
  · rw [if_neg h]
    have : decide (j = v) = false := by simp; omega
    rw [this, Bool.or_false]
theorem marks_congr {P Q : Nat → Bool} (h : ∀ u, P u = Q u) : marks P = marks Q := by unfold marks; exact List.map_congr_left fun u _ => h u
theorem marks_none : List.replicate 256 false = marks (fun _ => false) := by
  refine List.ext_getElem? fun j => ?_
  rw [List.getElem?_replicate, marks_at]
theorem mem_take_succ (l : List Nat) {i : Nat} (h : i < l.length) (u : Nat) : decide (u ∈ l.take (i + 1)) = (decide (u ∈ l.take i) || decide (u = l.getD i 0)) := by
  have e : l.getD i 0 = l[i] := by rw [List.getD_eq_getElem?_getD, List.getElem?_eq_getElem h]; rfl
  rw [List.take_succ_eq_append_getElem h, Bool.eq_iff_iff, e]
  simp only [decide_eq_true_eq, Bool.or_eq_true, List.mem_append, List.mem_singleton]
theorem seen_l0 {l : List Nat} (hl : ∀ x ∈ l, x < 256) (hlen : l.length < 1000000000) (d : Nat) {k i : Nat} (hk : d < k) (hi : i + d = l.length) :
    Qs.l0 k (il l) (marks fun u => decide (u ∈ l.take i)) (i : Int) = some (marks fun u => decide (u ∈ l)) := by
  induction d generalizing k i with
  | zero =>
    obtain ⟨k, rfl⟩ : ∃ j, k = j + 1 := ⟨k - 1, by omega⟩
    have : i = l.length := by omega
    subst this
    simp only [Qs.l0, il_length]
    rw [if_neg (by simp), List.take_length]
  | succ d ih =>
    obtain ⟨k, rfl⟩ : ∃ j, k = j + 1 := ⟨k - 1, by omega⟩
    have hv := getD_lt hl i
    have c1 : decide ((i : Int) < (l.length : Int)) = true := by rw [decide_eq_true_eq]; omega
    have c2 : decide (0 ≤ (i : Int)) = true := by rw [decide_eq_true_eq]; omega
    have c3 : decide (0 ≤ ((l.getD i 0 : Nat) : Int)) = true := by rw [decide_eq_true_eq]; omega
    have c4 : decide (((l.getD i 0 : Nat) : Int) < 256) = true := by rw [decide_eq_true_eq]; omega
    have e5 : I64 ((i : Int) + 1) = ((i + 1 : Nat) : Int) := by rw [I64_id (by omega) (by omega)]; simp
    simp only [Qs.l0, il_length, c1, c2, if_true, il_rd', c3, c4, Int.toNat_natCast, e5, marks_set]
    have := ih (k := k) (i := i + 1) (by omega) (by omega)
    rw [marks_congr (mem_take_succ l (by omega : i < l.length))] at this
    exact this
theorem seen_eq {l : List Nat} (hl : ∀ x ∈ l, x < 256) (hlen : l.length < 1000000000) {k : Nat} (hk : l.length < k) : Qs.f k (il l) = some (marks fun u => decide (u ∈ l)) := by
  unfold Qs.f
  rw [marks_none]
  have := seen_l0 hl hlen l.length (k := k) (i := 0) hk (by omega)
  rw [marks_congr (Q := fun _ => false) (by intro u; simp)] at this
  exact this
/-- Each of 0 to its length less 1, and no other. -/
def isP (l : List Nat) : Bool := decide (l.length ≤ 256) && (marks (fun u => decide (u ∈ l)) == marks (fun u => decide (u < l.length)))
theorem is_l0 {l : List Nat} (hl : ∀ x ∈ l, x < 256) (hlen : l.length ≤ 256) (d : Nat) {k i : Nat} (hk : d + 300 < k) (hi : i + d = l.length) :
    Qq.l0 k (il l) (marks fun u => decide (u < i)) (i : Int) = some (isP l) := by
  induction d generalizing k i with
  | zero =>
    obtain ⟨k, rfl⟩ : ∃ j, k = j + 1 := ⟨k - 1, by omega⟩
    have : i = l.length := by omega
    subst this
    have c1 : decide ((l.length : Int) < (l.length : Int)) = false := by simp
    simp only [Qq.l0, il_length, c1, Bool.false_eq_true, if_false, seen_eq hl (by omega : l.length < 1000000000) (by omega : l.length < k), Option.bind_some, isP, hlen, decide_true, Bool.true_and]
  | succ d ih =>
    obtain ⟨k, rfl⟩ : ∃ j, k = j + 1 := ⟨k - 1, by omega⟩
    have c1 : decide ((i : Int) < (l.length : Int)) = true := by rw [decide_eq_true_eq]; omega
    have c2 : decide (0 ≤ (i : Int)) = true := by rw [decide_eq_true_eq]; omega
    have c4 : decide ((i : Int) < 256) = true := by rw [decide_eq_true_eq]; omega
    have e5 : I64 ((i : Int) + 1) = ((i + 1 : Nat) : Int) := by rw [I64_id (by omega) (by omega)]; simp
    simp only [Qq.l0, il_length, c1, c2, c4, if_true, Int.toNat_natCast, e5, marks_set]
    have := ih (k := k) (i := i + 1) (by omega) (by omega)
    rw [marks_congr (Q := fun u => decide (u < i) || decide (u = i)) (by intro u; rw [Bool.eq_iff_iff]; simp; omega)] at this
    exact this
theorem is_eq {l : List Nat} (hl : ∀ x ∈ l, x < 256) {k : Nat} (hk : 600 ≤ k) : Qq.f k (il l) = some (isP l) := by
  unfold Qq.f
  rw [il_length]
  by_cases h : l.length ≤ 256
  · rw [if_neg (by rw [decide_eq_true_eq]; omega), marks_none]
    have := is_l0 hl h l.length (k := k) (i := 0) (by omega) (by omega)
    rw [marks_congr (Q := fun _ => false) (by intro u; simp)] at this
    exact this
  · rw [if_pos (by rw [decide_eq_true_eq]; omega)]
    simp [isP, h]
end Go.Scr.S

namespace Go.Scr.S
theorem len_of_all (m : Nat) : ∀ (l : List Nat), (∀ v, v < m → v ∈ l) → m ≤ l.length := by
  induction m with
  | zero => intro l _; exact Nat.zero_le _
  | succ m ih =>
    intro l h
    have h1 := ih (l.erase m) (fun v hv => (List.mem_erase_of_ne (by omega)).2 (h v (by omega)))
    rw [List.length_erase_of_mem (h m (by omega))] at h1
    have := List.length_pos_of_mem (h m (by omega))
    omega
theorem nodup_of_all (n : Nat) : ∀ (l : List Nat), l.length = n → (∀ v, v < n → v ∈ l) → l.Nodup := by
  induction n with
  | zero => intro l hl _; rw [List.length_eq_zero_iff.1 hl]; exact List.nodup_nil
  | succ n ih =>
    intro l hl h
    have hn := h n (by omega)
    have h1 : (l.erase n).length = n := by rw [List.length_erase_of_mem hn]; omega
    have h2 : ∀ v, v < n → v ∈ l.erase n := fun v hv => (List.mem_erase_of_ne (by omega)).2 (h v (by omega))
    have h3 := ih (l.erase n) h1 h2
    have h4 : n ∉ l.erase n := by
      intro hm
      have := len_of_all (n + 1) (l.erase n) (fun v hv => by
        by_cases e : v = n
        · subst e; exact hm
        · exact h2 v (by omega))
      omega
    exact (List.perm_cons_erase hn).nodup_iff.2 (List.nodup_cons.2 ⟨h4, h3⟩)
theorem inj_of_all {n : Nat} {l : List Nat} (hl : l.length = n) (h : ∀ v, v < n → v ∈ l) {i j : Nat} (hi : i < n) (hj : j < n) (e : l.getD i 0 = l.getD j 0) : i = j := by
  have hn := nodup_of_all n l hl h
  rw [List.getD_eq_getElem?_getD, List.getD_eq_getElem?_getD, List.getElem?_eq_getElem (by omega), List.getElem?_eq_getElem (by omega)] at e
  exact (List.getElem_inj hn).1 e
end Go.Scr.S

namespace Go.Scr.S
theorem isP_spec {l : List Nat} (h : isP l = true) : l.length ≤ 256 ∧ ∀ v, v < 256 → (v ∈ l ↔ v < l.length) := by
  unfold isP at h
  rw [Bool.and_eq_true, decide_eq_true_eq, beq_iff_eq] at h
  refine ⟨h.1, fun v hv => ?_⟩
  have := congrArg (fun x => x[v]?) h.2
  simp only [marks_at, if_pos hv, Option.some.injEq] at this
  simpa using this
theorem getD_mem {l : List Nat} {i : Nat} (h : i < l.length) : l.getD i 0 ∈ l := by
  rw [List.getD_eq_getElem?_getD, List.getElem?_eq_getElem h]; exact List.getElem_mem _
theorem isP_lt {l : List Nat} (hl : ∀ x ∈ l, x < 256) (h : isP l = true) {i : Nat} (hi : i < l.length) : l.getD i 0 < l.length :=
  ((isP_spec h).2 _ (hl _ (getD_mem hi))).1 (getD_mem hi)
theorem isP_inj {l : List Nat} (h : isP l = true) {i j : Nat} (hi : i < l.length) (hj : j < l.length) (e : l.getD i 0 = l.getD j 0) : i = j := by
  obtain ⟨h1, h2⟩ := isP_spec h
  exact inj_of_all rfl (fun v hv => (h2 v (by omega)).2 hv) hi hj e
/-- It undoes the table. -/
def Undoes (l u : List Nat) : Prop := u.length = l.length ∧ ∀ i, i < l.length → u.getD (l.getD i 0) 0 = i
theorem back_l0 {l : List Nat} (hl : ∀ x ∈ l, x < 256) (h : isP l = true) (d : Nat) {k i : Nat} {x : List Nat} (hk : d < k) (hi : i + d = l.length) (hx : x.length = l.length) (hu : ∀ j, j < i → x.getD (l.getD j 0) 0 = j) :
    ∃ u, Qp.l0 k (il l) (il x) (i : Int) = some (il u, true) ∧ Undoes l u := by
  obtain ⟨hlen, _⟩ := isP_spec h
  induction d generalizing k i x with
  | zero =>
    obtain ⟨k, rfl⟩ : ∃ j, k = j + 1 := ⟨k - 1, by omega⟩
    have e : i = l.length := by omega
    refine ⟨x, ?_, hx, fun j hj => hu j (by omega)⟩
    simp only [Qp.l0, il_length]
    rw [if_neg (by rw [decide_eq_true_eq]; omega)]
  | succ d ih =>
    obtain ⟨k, rfl⟩ : ∃ j, k = j + 1 := ⟨k - 1, by omega⟩
    have hv := isP_lt hl h (by omega : i < l.length)
    have c1 : decide ((i : Int) < (l.length : Int)) = true := by rw [decide_eq_true_eq]; omega
    have c2 : decide (0 ≤ (i : Int)) = true := by rw [decide_eq_true_eq]; omega
    have c3 : decide (0 ≤ ((l.getD i 0 : Nat) : Int)) = true := by rw [decide_eq_true_eq]; omega
    have c4 : decide (((l.getD i 0 : Nat) : Int) < (l.length : Int)) = true := by rw [decide_eq_true_eq]; omega
    have e5 : I64 ((i : Int) + 1) = ((i + 1 : Nat) : Int) := by rw [I64_id (by omega) (by omega)]; simp
    have e6 : U8 (i : Int) = (i : Int) := U8_id (by omega) (by omega)
    simp only [Qp.l0, il_length, c1, c2, if_true, il_rd', c3, c4, Int.toNat_natCast, e5, e6, il_set]
    refine ih (by omega) (by omega) (by rw [List.length_set]; exact hx) fun j hj => ?_
    rw [List.getD_eq_getElem?_getD, List.getElem?_set]
    by_cases e : l.getD i 0 = l.getD j 0
    · have := isP_inj h (by omega) (by omega) e
      subst this
      rw [if_pos rfl, if_pos (by omega)]; rfl
    · rw [if_neg e, ← List.getD_eq_getElem?_getD]
      refine hu j ?_
      rcases Nat.lt_or_ge j i with h' | h'
      · exact h'
      · have : j = i := by omega
        subst this; exact absurd rfl e
theorem back_eq {l : List Nat} (hl : ∀ x ∈ l, x < 256) (h : isP l = true) {k : Nat} (hk : 600 ≤ k) : ∃ u, Qp.f k (il l) = some (il u, true) ∧ Undoes l u := by
  obtain ⟨hlen, _⟩ := isP_spec h
  obtain ⟨u, h1, h2⟩ := back_l0 hl h l.length (k := k) (i := 0) (x := List.replicate l.length 0) (by omega) (by omega) (by rw [List.length_replicate]) (fun j hj => absurd hj (Nat.not_lt_zero j))
  refine ⟨u, ?_, h2⟩
  unfold Qp.f
  rw [is_eq hl hk, h]
  simp only [Option.bind_some, Bool.not_true, Bool.false_eq_true, if_false, il_length, Int.toNat_natCast]
  rw [if_pos (by rw [decide_eq_true_eq]; omega), if_pos (by rw [decide_eq_true_eq]; omega), il_replicate]
  exact h1
end Go.Scr.S

namespace Go.Scr.S
def tS : List Nat := [99, 124, 119, 123, 242, 107, 111, 197, 48, 1, 103, 43, 254, 215, 171, 118, 202, 130, 201, 125, 250, 89, 71, 240, 173, 212, 162, 175, 156, 164, 114, 192, 183, 253, 147, 38, 54, 63, 247, 204, 52, 165, 229, 241, 113, 216, 49, 21, 4, 199, 35, 195, 24, 150, 5, 154, 7, 18, 128, 226, 235, 39, 178, 117, 9, 131, 44, 26, 27, 110, 90, 160, 82, 59, 214, 179, 41, 227, 47, 132, 83, 209, 0, 237, 32, 252, 177, 91, 106, 203, 190, 57, 74, 76, 88, 207, 208, 239, 170, 251, 67, 77, 51, 133, 69, 249, 2, 127, 80, 60, 159, 168, 81, 163, 64, 143, 146, 157, 56, 245, 188, 182, 218, 33, 16, 255, 243, 210, 205, 12, 19, 236, 95, 151, 68, 23, 196, 167, 126, 61, 100, 93, 25, 115, 96, 129, 79, 220, 34, 42, 144, 136, 70, 238, 184, 20, 222, 94, 11, 219, 224, 50, 58, 10, 73, 6, 36, 92, 194, 211, 172, 98, 145, 149, 228, 121, 231, 200, 55, 109, 141, 213, 78, 169, 108, 86, 244, 234, 101, 122, 174, 8, 186, 120, 37, 46, 28, 166, 180, 198, 232, 221, 116, 31, 75, 189, 139, 138, 112, 62, 181, 102, 72, 3, 246, 14, 97, 53, 87, 185, 134, 193, 29, 158, 225, 248, 152, 17, 105, 217, 142, 148, 155, 30, 135, 233, 206, 85, 40, 223, 140, 161, 137, 13, 191, 230, 66, 104, 65, 153, 45, 15, 176, 84, 187, 22]
def tT : List Nat := [226, 78, 84, 252, 148, 194, 74, 204, 98, 13, 106, 70, 60, 77, 139, 209, 94, 250, 100, 203, 180, 151, 190, 43, 188, 119, 46, 3, 211, 25, 89, 193, 29, 6, 65, 107, 85, 240, 153, 105, 234, 156, 24, 174, 99, 223, 231, 187, 0, 115, 102, 251, 150, 76, 133, 228, 58, 9, 69, 170, 15, 238, 16, 235, 45, 127, 244, 41, 172, 207, 173, 145, 141, 120, 200, 149, 249, 47, 206, 205, 8, 122, 136, 56, 92, 131, 42, 40, 71, 219, 184, 199, 147, 164, 18, 83, 255, 135, 14, 49, 54, 33, 88, 72, 1, 142, 55, 116, 50, 202, 233, 177, 183, 171, 12, 215, 196, 86, 66, 38, 7, 152, 96, 217, 182, 185, 17, 64, 236, 32, 140, 189, 160, 201, 132, 4, 73, 35, 241, 79, 80, 31, 19, 220, 216, 192, 158, 87, 227, 195, 123, 101, 59, 2, 143, 62, 232, 37, 146, 229, 21, 221, 253, 23, 169, 191, 212, 154, 126, 197, 57, 103, 254, 118, 157, 67, 167, 225, 208, 245, 104, 242, 27, 52, 112, 5, 163, 138, 213, 121, 134, 168, 48, 198, 81, 75, 30, 166, 39, 246, 53, 210, 110, 36, 22, 130, 95, 218, 230, 117, 162, 239, 44, 178, 28, 159, 93, 111, 128, 10, 114, 68, 155, 108, 144, 11, 91, 51, 125, 90, 82, 243, 97, 161, 247, 176, 214, 63, 124, 109, 237, 20, 224, 165, 61, 34, 179, 248, 137, 222, 113, 26, 175, 186, 181, 129]
def tU : List Nat := [82, 9, 106, 213, 48, 54, 165, 56, 191, 64, 163, 158, 129, 243, 215, 251, 124, 227, 57, 130, 155, 47, 255, 135, 52, 142, 67, 68, 196, 222, 233, 203, 84, 123, 148, 50, 166, 194, 35, 61, 238, 76, 149, 11, 66, 250, 195, 78, 8, 46, 161, 102, 40, 217, 36, 178, 118, 91, 162, 73, 109, 139, 209, 37, 114, 248, 246, 100, 134, 104, 152, 22, 212, 164, 92, 204, 93, 101, 182, 146, 108, 112, 72, 80, 253, 237, 185, 218, 94, 21, 70, 87, 167, 141, 157, 132, 144, 216, 171, 0, 140, 188, 211, 10, 247, 228, 88, 5, 184, 179, 69, 6, 208, 44, 30, 143, 202, 63, 15, 2, 193, 175, 189, 3, 1, 19, 138, 107, 58, 145, 17, 65, 79, 103, 220, 234, 151, 242, 207, 206, 240, 180, 230, 115, 150, 172, 116, 34, 231, 173, 53, 133, 226, 249, 55, 232, 28, 117, 223, 110, 71, 241, 26, 113, 29, 41, 197, 137, 111, 183, 98, 14, 170, 24, 190, 27, 252, 86, 62, 75, 198, 210, 121, 32, 154, 219, 192, 254, 120, 205, 90, 244, 31, 221, 168, 51, 136, 7, 199, 49, 177, 18, 16, 89, 39, 128, 236, 95, 96, 81, 127, 169, 25, 181, 74, 13, 45, 229, 122, 159, 147, 201, 156, 239, 160, 224, 59, 77, 174, 42, 245, 176, 200, 235, 187, 60, 131, 83, 153, 97, 23, 43, 4, 126, 186, 119, 214, 38, 225, 105, 20, 99, 85, 33, 12, 125]
def tV : List Nat := [48, 104, 153, 27, 135, 185, 33, 120, 80, 57, 219, 225, 114, 9, 98, 60, 62, 126, 94, 142, 241, 160, 204, 163, 42, 29, 251, 182, 214, 32, 196, 141, 129, 101, 245, 137, 203, 157, 119, 198, 87, 67, 86, 23, 212, 64, 26, 77, 192, 99, 108, 227, 183, 200, 100, 106, 83, 170, 56, 152, 12, 244, 155, 237, 127, 34, 118, 175, 221, 58, 11, 88, 103, 136, 6, 195, 53, 13, 1, 139, 140, 194, 230, 95, 2, 36, 117, 147, 102, 30, 229, 226, 84, 216, 16, 206, 122, 232, 8, 44, 18, 151, 50, 171, 180, 39, 10, 35, 223, 239, 202, 217, 184, 250, 220, 49, 107, 209, 173, 25, 73, 189, 81, 150, 238, 228, 168, 65, 218, 255, 205, 85, 134, 54, 190, 97, 82, 248, 187, 14, 130, 72, 105, 154, 224, 71, 158, 92, 4, 75, 52, 21, 121, 38, 167, 222, 41, 174, 146, 215, 132, 233, 210, 186, 93, 243, 197, 176, 191, 164, 59, 113, 68, 70, 43, 252, 235, 111, 213, 246, 20, 254, 124, 112, 90, 125, 253, 47, 24, 131, 22, 165, 145, 31, 5, 149, 116, 169, 193, 91, 74, 133, 109, 19, 7, 79, 78, 69, 178, 15, 201, 28, 166, 188, 236, 115, 144, 123, 207, 89, 143, 161, 249, 45, 242, 177, 0, 148, 55, 159, 208, 46, 156, 110, 40, 63, 128, 240, 61, 211, 37, 138, 181, 231, 66, 179, 199, 234, 247, 76, 17, 51, 3, 162, 172, 96]
def tabs : List (List Int) := [il tS, il tT, il tU, il tV]
def keys0 : List (List Int) := [[135, 212, 52, 166, 242, 153, 155, 175, 13, 252, 27, 142, 49, 56, 214, 199], [234, 117, 71, 210, 201, 223, 201, 11, 115, 113, 0, 4, 5, 152, 255, 93], [211, 117, 74, 241, 38, 202, 78, 228, 113, 114, 93, 195, 250, 163, 251, 159], [126, 96, 140, 185, 183, 1, 251, 62, 7, 47, 170, 12, 12, 74, 92, 47], [108, 120, 125, 67, 74, 111, 41, 153, 186, 240, 223, 193, 184, 227, 19, 141], [186, 243, 96, 225, 236, 153, 37, 154, 178, 203, 121, 206, 42, 23, 4, 237], [128, 100, 29, 99, 203, 156, 97, 119, 32, 22, 107, 90, 1, 189, 46, 14], [126, 96, 140, 185, 183, 1, 251, 62, 7, 47, 170, 12, 12, 74, 92, 47], [27, 142, 49, 56, 214, 199, 135, 212, 52, 166, 242, 153, 155, 175, 13, 252], [44, 245, 39, 104, 28, 132, 32, 162, 15, 111, 157, 97, 16, 215, 145, 161], [88, 21, 80, 124, 182, 212, 51, 129, 161, 217, 140, 177, 57, 2, 69, 113], [126, 96, 140, 185, 183, 1, 251, 62, 7, 47, 170, 12, 12, 74, 92, 47], [110, 188, 55, 240, 110, 56, 196, 227, 91, 30, 31, 80, 210, 155, 202, 102]]
def enc0 : List Int := [75, 64, 166, 60, 127, 1, 113, 238, 60, 221, 164, 54, 63, 191, 174, 117]
def zero16 : List Int := [0, 0, 0, 0, 0, 0, 0, 0, 0, 0, 0, 0, 0, 0, 0, 0]
end Go.Scr.S

namespace Go.Scr.S
def tabN (m e : Nat) (l : List Nat) (c : Nat) : List Nat := (List.range 256).map fun x => c ^^^ aff l (pl2 m 8 x e 1) 8
theorem tab_eq {m e c : Nat} {l : List Nat} (hm : Rst m) (he : e < 256) : fill 256 (mk m e l c) = il (tabN m e l c) := by
  unfold tabN il
  rw [List.map_map]
  refine List.map_congr_left fun x hx => ?_
  have hx' : x < 256 := by simpa using hx
  show mk m e l c x = _
  unfold mk
  rw [Function.comp, pl2_eq hm 8 hx' (by decide) he, one_mu m (pw_lt hm hx' e)]
theorem tS_eq : tabN 283 254 [241, 227, 199, 143, 31, 62, 124, 248] 99 = tS := by decide +kernel
theorem tT_eq : tabN 283 247 [122, 188, 235, 185, 52, 129, 186, 203] 226 = tT := by decide +kernel
theorem tS_ok : tS.length = 256 ∧ (∀ x ∈ tS, x < 256) ∧ isP tS = true := by decide +kernel
theorem tT_ok : tT.length = 256 ∧ (∀ x ∈ tT, x < 256) ∧ isP tT = true := by decide +kernel
theorem tU_ok : tU.length = 256 ∧ (∀ x ∈ tU, x < 256) ∧ ∀ i, i < 256 → tS.getD (tU.getD i 0) 0 = i ∧ tU.getD i 0 < 256 := by decide +kernel
theorem tV_ok : tV.length = 256 ∧ (∀ x ∈ tV, x < 256) ∧ ∀ i, i < 256 → tT.getD (tV.getD i 0) 0 = i ∧ tV.getD i 0 < 256 := by decide +kernel
theorem undo_eq {l u v : List Nat} (hl : l.length = 256) (hu : Undoes l u) (hv : v.length = 256) (h : ∀ i, i < 256 → l.getD (v.getD i 0) 0 = i ∧ v.getD i 0 < 256) : u = v := by
  refine List.ext_getElem (by rw [hu.1, hl, hv]) fun i h1 h2 => ?_
  obtain ⟨e, lt⟩ := h i (by omega)
  have := hu.2 (v.getD i 0) (by omega)
  rw [e] at this
  rw [List.getD_eq_getElem?_getD, List.getD_eq_getElem?_getD, List.getElem?_eq_getElem h1, List.getElem?_eq_getElem h2] at this
  exact this
theorem made_eq {k : Nat} (hk : 700 ≤ k) : Qh.f k = some tabs := by
  have hm : Rst 283 := ⟨by decide, by decide⟩
  have p1 := make_eq (k := k) (e := 254) (c := 99) (l := [241, 227, 199, 143, 31, 62, 124, 248]) hm (by decide) (by decide) (by decide) (by omega)
  have p2 := make_eq (k := k) (e := 247) (c := 226) (l := [122, 188, 235, 185, 52, 129, 186, 203]) hm (by decide) (by decide) (by decide) (by omega)
  rw [tab_eq hm (by decide), tS_eq] at p1
  rw [tab_eq hm (by decide), tT_eq] at p2
  have q1 : Qr.f k 254 283 [241, 227, 199, 143, 31, 62, 124, 248] 99 = some (il tS) := p1
  have q2 : Qr.f k 247 283 [122, 188, 235, 185, 52, 129, 186, 203] 226 = some (il tT) := p2
  obtain ⟨u, b1, hu⟩ := back_eq tS_ok.2.1 tS_ok.2.2 (k := k) (by omega)
  obtain ⟨v, b2, hv⟩ := back_eq tT_ok.2.1 tT_ok.2.2 (k := k) (by omega)
  have e1 := undo_eq tS_ok.1 hu tU_ok.1 tU_ok.2.2
  have e2 := undo_eq tT_ok.1 hv tV_ok.1 tV_ok.2.2
  subst e1
  subst e2
  unfold Qh.f
  rw [q1, Option.bind_some, q2, Option.bind_some, b1, Option.bind_some, b2, Option.bind_some]; rfl
end Go.Scr.S
