/- The plain law of SmR5. -/
import Derived.Test.YtahfhogifkkoeaaFnSmallOwn
import Derived.Test.YtahfhogifkkoeaaLibNum
import Derived.Test.YtahfhogifkkoeaaLibIl
import Derived.Test.YtahfhogifkkoeaaLibGRest
import Derived.Test.YtahfhogifkkoeaaLibGRol
import Derived.Test.YtahfhogifkkoeaaLibSmNum
import Derived.Test.YtahfhogifkkoeaaLibSmRol
import Derived.Test.YtahfhogifkkoeaaLibGLoad
import Derived.Test.YtahfhogifkkoeaaLibFill
import Derived.Test.YtahfhogifkkoeaaLibGIl
import Derived.Test.YtahfhogifkkoeaaLibGStore
import Derived.Test.YtahfhogifkkoeaaLibSmWords
import Derived.Test.YtahfhogifkkoeaaLibSmX
set_option linter.unusedVariables false
set_option linter.unusedSimpArgs false
set_option linter.unnecessarySimpa false
namespace Go.Scr.S
/-- RC5: the words at first, the mixing, the rounds. -/
def c5 (j : Nat) : Nat := (3084996963 + j * 2654435769) % 4294967296
def pl (n : Nat) : List Nat := (List.range n).map c5
theorem pl_length (n : Nat) : (pl n).length = n := by simp [pl]
theorem pl_succ (n : Nat) : pl (n + 1) = pl n ++ [c5 n] := by simp [pl, List.range_succ]
theorem c5_lt (j : Nat) : c5 j < 4294967296 := Nat.mod_lt _ (by decide)
theorem pl_lt (n : Nat) : ∀ x ∈ pl n, x < 4294967296 := by
  intro x hx; unfold pl at hx; obtain ⟨j, _, rfl⟩ := List.mem_map.1 hx; exact c5_lt j
theorem getD_snoc (l : List Nat) (v : Nat) : (l ++ [v]).getD l.length 0 = v := by
  rw [List.getD_eq_getElem?_getD, List.getElem?_append_right (Nat.le_refl _), Nat.sub_self]; rfl
theorem pl_last (n : Nat) : (pl (n + 1)).getD n 0 = c5 n := by
  have h := getD_snoc (pl n) (c5 n)
  rw [pl_length] at h
  rw [pl_succ]; exact h
def mA (S : List Nat) (i A B : Nat) : Nat := rolN (wa (wa (S.getD (i % 26) 0) A) B) 3
def mB (L : List Nat) (i a B : Nat) : Nat := rolN (wa (wa (L.getD (i % 4) 0) a) B) (wa a B % 32)
theorem mA_lt (S : List Nat) (i A B : Nat) : mA S i A B < 4294967296 := rolN_lt (wa_lt _ _)
theorem mB_lt (L : List Nat) (i a B : Nat) : mB L i a B < 4294967296 := rolN_lt (wa_lt _ _)
def mx : Nat → Nat → List Nat → List Nat → Nat → Nat → List Nat
  | 0, _, _, S, _, _ => S
  | d + 1, i, L, S, A, B => mx d (i + 1) (L.set (i % 4) (mB L i (mA S i A B) B)) (S.set (i % 26) (mA S i A B)) (mA S i A B) (mB L i (mA S i A B) B)
theorem mx_succ (d i : Nat) (L S : List Nat) (A B : Nat) : mx (d + 1) i L S A B = mx d (i + 1) (L.set (i % 4) (mB L i (mA S i A B) B)) (S.set (i % 26) (mA S i A B)) (mA S i A B) (mB L i (mA S i A B) B) := rfl
theorem mx_length (d : Nat) : ∀ i L S A B, (mx d i L S A B).length = S.length := by
  induction d with
  | zero => intros; rfl
  | succ d ih => intro i L S A B; rw [mx_succ, ih, List.length_set]
theorem mx_lt (d : Nat) : ∀ i L S A B, (∀ x ∈ S, x < 4294967296) → ∀ x ∈ mx d i L S A B, x < 4294967296 := by
  induction d with
  | zero => intro _ _ _ _ _ h; exact h
  | succ d ih =>
    intro i L S A B h
    rw [mx_succ]
    refine ih _ _ _ _ _ fun x hx => ?_
    rcases List.mem_or_eq_of_mem_set hx with hx | rfl
    · exact h x hx
    · exact mA_lt _ _ _ _
theorem tm32 (z : Nat) : I64 (Int.tmod (z : Int) 32) = ((z % 32 : Nat) : Int) := I64_nat (n := z % 32) (by omega)
theorem em32 (z : Nat) : (((z % 32 : Nat) : Int) % 32).toNat = z % 32 := by omega
theorem rolP {a z k : Nat} (ha : a < 4294967296) : words_Rol32.f k (a : Int) ((z % 32 : Nat) : Int) = some ((rolN a (z % 32) : Nat) : Int) := by
  rw [rol32_eq ha, em32]
theorem rolM {a z k : Nat} (ha : a < 4294967296) : words_Rol32.f k (a : Int) (I64 (0 - ((z % 32 : Nat) : Int))) = some ((rolN a ((32 - z % 32) % 32) : Nat) : Int) := by
  have e : I64 (0 - ((z % 32 : Nat) : Int)) = 0 - ((z % 32 : Nat) : Int) := I64_id (by omega) (by omega)
  have e2 : ((0 - ((z % 32 : Nat) : Int)) % 32).toNat = (32 - z % 32) % 32 := by omega
  rw [e, rol32_eq ha, e2]
theorem grow_l1 {L0 S0 : List Nat} (h4 : L0.length = 4) (h26 : S0.length = 26) (d : Nat) {k i : Nat} {L S : List Nat} {A B : Nat} (hk : d + 20 < k) (hi : i + d = 77) (hL : ∀ x ∈ L, x < 4294967296) (hS : ∀ x ∈ S, x < 4294967296) (hA : A < 4294967296) (hB : B < 4294967296) :
    small_grow.l1 k (il L0) (il S0) (il L) (il S) (A : Int) (B : Int) (i : Int) = some (il (mx (d + 1) i L S A B)) := by
  induction d generalizing k i L S A B with
  | zero =>
    obtain ⟨k, rfl⟩ : ∃ j, k = j + 1 := ⟨k - 1, by omega⟩
    have lL : ((il L0).length : Int) = 4 := by rw [il_length, h4]; rfl
    have lS : ((il S0).length : Int) = 26 := by rw [il_length, h26]; rfl
    have t26 : Int.tmod (i : Int) 26 = ((i % 26 : Nat) : Int) := rfl
    have t4 : Int.tmod (i : Int) 4 = ((i % 4 : Nat) : Int) := rfl
    have a2 : I64 ((i : Int) + 1) = ((i + 1 : Nat) : Int) := I64_nat (n := i + 1) (by omega)
    have c0 : ∀ z : Nat, decide (0 ≤ (z : Int)) = true := fun z => by rw [decide_eq_true_eq]; omega
    have c26 : decide (((i % 26 : Nat) : Int) < 26) = true := by rw [decide_eq_true_eq]; omega
    have c4 : decide (((i % 4 : Nat) : Int) < 4) = true := by rw [decide_eq_true_eq]; omega
    have r3 : words_Rol32.f k ((wa (wa (S.getD (i % 26) 0) A) B : Nat) : Int) 3 = some ((mA S i A B : Nat) : Int) := rol32_eq (wa_lt _ _) 3
    have r4 : words_Rol32.f k ((wa (wa (L.getD (i % 4) 0) (mA S i A B)) B : Nat) : Int) ((wa (mA S i A B) B % 32 : Nat) : Int) = some ((mB L i (mA S i A B) B : Nat) : Int) := rolP (wa_lt _ _)
    rw [small_grow.l1, lL, lS, t26, t4, if_neg (by decide), if_pos (c0 _), if_pos c26, il_rd', U32_add, U32_add, Option.bind_some, r3, Option.bind_some, if_pos (c0 _), if_pos c26, if_pos (c0 _), if_pos c4, il_rd', U32_add, U32_add, Option.bind_some, U32_add, tm32, r4, Option.bind_some, if_pos (c0 _), if_pos c4, a2, if_neg (by rw [decide_eq_true_eq]; omega), Int.toNat_natCast, il_set]
    rfl
  | succ d ih =>
    obtain ⟨k, rfl⟩ : ∃ j, k = j + 1 := ⟨k - 1, by omega⟩
    have lL : ((il L0).length : Int) = 4 := by rw [il_length, h4]; rfl
    have lS : ((il S0).length : Int) = 26 := by rw [il_length, h26]; rfl
    have t26 : Int.tmod (i : Int) 26 = ((i % 26 : Nat) : Int) := rfl
    have t4 : Int.tmod (i : Int) 4 = ((i % 4 : Nat) : Int) := rfl
    have a2 : I64 ((i : Int) + 1) = ((i + 1 : Nat) : Int) := I64_nat (n := i + 1) (by omega)
    have c0 : ∀ z : Nat, decide (0 ≤ (z : Int)) = true := fun z => by rw [decide_eq_true_eq]; omega
    have c26 : decide (((i % 26 : Nat) : Int) < 26) = true := by rw [decide_eq_true_eq]; omega
    have c4 : decide (((i % 4 : Nat) : Int) < 4) = true := by rw [decide_eq_true_eq]; omega
    have r3 : words_Rol32.f k ((wa (wa (S.getD (i % 26) 0) A) B : Nat) : Int) 3 = some ((mA S i A B : Nat) : Int) := rol32_eq (wa_lt _ _) 3
    have r4 : words_Rol32.f k ((wa (wa (L.getD (i % 4) 0) (mA S i A B)) B : Nat) : Int) ((wa (mA S i A B) B % 32 : Nat) : Int) = some ((mB L i (mA S i A B) B : Nat) : Int) := rolP (wa_lt _ _)
    rw [small_grow.l1, lL, lS, t26, t4, if_neg (by decide), if_pos (c0 _), if_pos c26, il_rd', U32_add, U32_add, Option.bind_some, r3, Option.bind_some, if_pos (c0 _), if_pos c26, if_pos (c0 _), if_pos c4, il_rd', U32_add, U32_add, Option.bind_some, U32_add, tm32, r4, Option.bind_some, if_pos (c0 _), if_pos c4, a2, if_pos (by rw [decide_eq_true_eq]; omega), Int.toNat_natCast, Int.toNat_natCast, il_set, il_set]
    refine Eq.trans (ih (by omega) (by omega) (fun x hx => ?_) (fun x hx => ?_) (mA_lt _ _ _ _) (mB_lt _ _ _ _)) (by rw [mx_succ (d + 1)])
    · rcases List.mem_or_eq_of_mem_set hx with hx | rfl
      · exact hL x hx
      · exact mB_lt _ _ _ _
    · rcases List.mem_or_eq_of_mem_set hx with hx | rfl
      · exact hS x hx
      · exact mA_lt _ _ _ _
theorem grow_l0 {L0 : List Nat} (h4 : L0.length = 4) (hL : ∀ x ∈ L0, x < 4294967296) (d : Nat) {k i : Nat} (hk : d + 120 < k) (hi : i + 1 + d = 26) :
    small_grow.l0 k (il L0) (il (pl (i + 1))) = some (il (mx 78 0 L0 (pl 26) 0 0)) := by
  induction d generalizing k i with
  | zero =>
    obtain ⟨k, rfl⟩ : ∃ j, k = j + 1 := ⟨k - 1, by omega⟩
    have : i = 25 := by omega
    subst this
    rw [small_grow.l0, if_neg (by rw [il_length, pl_length]; decide)]
    generalize hP : pl 26 = P
    exact grow_l1 (L0 := L0) (S0 := P) h4 (by rw [← hP, pl_length]) 77 (i := 0) (L := L0) (S := P) (A := 0) (B := 0) (by omega) (by omega) hL (by rw [← hP]; exact pl_lt 26) (by decide) (by decide)
  | succ d ih =>
    obtain ⟨k, rfl⟩ : ∃ j, k = j + 1 := ⟨k - 1, by omega⟩
    have ll : ((il (pl (i + 1))).length : Int) = ((i + 1 : Nat) : Int) := by rw [il_length, pl_length]
    have e1 : I64 (((i + 1 : Nat) : Int) - 1) = (i : Int) := by rw [I64_id (by omega) (by omega)]; omega
    have e2 : U32 (((c5 i : Nat) : Int) + 2654435769) = ((c5 (i + 1) : Nat) : Int) := by
      have e : wa (c5 i) gold = c5 (i + 1) := by unfold wa c5 gold; omega
      rw [U32_gold, e]
    have e3 : il (pl (i + 1)) ++ [((c5 (i + 1) : Nat) : Int)] = il (pl (i + 1 + 1)) := by rw [pl_succ (i + 1), il_append]; rfl
    rw [small_grow.l0, ll, if_pos (by rw [decide_eq_true_eq]; omega), e1, if_pos (by rw [decide_eq_true_eq]; omega), if_pos (by rw [decide_eq_true_eq]; omega), il_rd', pl_last, e2, Option.bind_some, if_pos (by rw [decide_eq_true_eq, il_length, pl_length]; simp only [List.length_cons, List.length_nil]; omega), e3]
    exact ih (by omega) (by omega)
def s5 (K : List Nat) : List Nat := mx 78 0 K (pl 26) 0 0
theorem s5_length (K : List Nat) : (s5 K).length = 26 := by unfold s5; rw [mx_length, pl_length]
theorem s5_lt (K : List Nat) : ∀ x ∈ s5 K, x < 4294967296 := mx_lt _ _ _ _ _ _ (pl_lt 26)
theorem grow_eq {K : List Nat} (h4 : K.length = 4) (hK : ∀ x ∈ K, x < 4294967296) {k : Nat} (hk : 200 ≤ k) : small_grow.f k (il K) = some (il (s5 K)) := by
  unfold small_grow.f
  exact grow_l0 h4 hK 25 (i := 0) (by omega) (by omega)
theorem new8 {m : List Nat} (h : m.length = 16) (hm : ∀ x ∈ m, x < 256) {k : Nat} (hk : 200 ≤ k) : small_New.f k 8 (il m) = some (some (il (s5 (W true m)), 8), 0) := by
  have l := loaded_eq true (n := 4) (k := k) (by omega) hm (by decide) (by omega)
  have g := grow_eq (W_length true 4 m h) (W_lt true 4 m h hm) hk
  unfold small_New.f
  rw [if_neg (by decide), if_pos (by decide), if_neg (by rw [il_length, h]; decide), show ((8 : Int) == 8) = true from by decide, l, Option.bind_some, if_pos rfl, g, Option.bind_some]
def eS (S : List Nat) (i : Nat) (p : Nat × Nat) : Nat × Nat := (wa (rolN (p.1 ^^^ p.2) (p.2 % 32)) (S.getD (2 * i) 0), wa (rolN (p.2 ^^^ wa (rolN (p.1 ^^^ p.2) (p.2 % 32)) (S.getD (2 * i) 0)) (wa (rolN (p.1 ^^^ p.2) (p.2 % 32)) (S.getD (2 * i) 0) % 32)) (S.getD (2 * i + 1) 0))
def dB (S : List Nat) (i : Nat) (p : Nat × Nat) : Nat := rolN (ws p.2 (S.getD (2 * i + 1) 0)) ((32 - p.1 % 32) % 32) ^^^ p.1
def dS (S : List Nat) (i : Nat) (p : Nat × Nat) : Nat × Nat := (rolN (ws p.1 (S.getD (2 * i) 0)) ((32 - dB S i p % 32) % 32) ^^^ dB S i p, dB S i p)
theorem eS_wd (S : List Nat) (i : Nat) (p : Nat × Nat) : Wd (eS S i p) := ⟨wa_lt _ _, wa_lt _ _⟩
theorem dB_lt (S : List Nat) (i : Nat) {p : Nat × Nat} (hp : Wd p) : dB S i p < 4294967296 := x32 (rolN_lt (ws_lt _ _)) hp.1
theorem dS_wd (S : List Nat) (i : Nat) {p : Nat × Nat} (hp : Wd p) : Wd (dS S i p) := ⟨x32 (rolN_lt (ws_lt _ _)) (dB_lt S i hp), dB_lt S i hp⟩
def e5 (S : List Nat) : Nat → Nat → Nat × Nat → Nat × Nat
  | 0, _, p => p
  | d + 1, i, p => e5 S d (i + 1) (eS S i p)
def d5 (S : List Nat) : Nat → Nat × Nat → Nat × Nat
  | 0, p => p
  | i + 1, p => d5 S i (dS S (i + 1) p)
theorem e5_wd (S : List Nat) : ∀ d i p, Wd p → Wd (e5 S d i p)
  | 0, _, _, h => h
  | d + 1, i, p, _ => e5_wd S d _ _ (eS_wd S i p)
theorem d5_wd (S : List Nat) : ∀ i p, Wd p → Wd (d5 S i p)
  | 0, _, h => h
  | i + 1, _, h => d5_wd S i _ (dS_wd S _ h)
theorem r5_l0 {S : List Nat} (h : S.length = 26) (tag : Int) (d : Nat) {k i : Nat} {p : Nat × Nat} (hk : d < k) (hi : i + d = 13) (hp : Wd p) :
    small_Small_rc5.l0 k (il S, tag) (p.1 : Int) (p.2 : Int) ((2 * i : Nat) : Int) = some (pI (e5 S d i p)) := by
  induction d generalizing k i p with
  | zero =>
    obtain ⟨k, rfl⟩ : ∃ j, k = j + 1 := ⟨k - 1, by omega⟩
    rw [small_Small_rc5.l0, if_neg (by rw [decide_eq_true_eq]; omega)]; rfl
  | succ d ih =>
    obtain ⟨k, rfl⟩ : ∃ j, k = j + 1 := ⟨k - 1, by omega⟩
    have lS : ((il S).length : Int) = 26 := by rw [il_length, h]; rfl
    have a1 : I64 (((2 * i : Nat) : Int) + 1) = ((2 * i + 1 : Nat) : Int) := I64_nat (n := 2 * i + 1) (by omega)
    have a2 : I64 (((2 * i : Nat) : Int) + 2) = ((2 * (i + 1) : Nat) : Int) := I64_nat (n := 2 * i + 2) (by omega)
    have c0 : ∀ z : Nat, decide (0 ≤ (z : Int)) = true := fun z => by rw [decide_eq_true_eq]; omega
    have c1 : decide (((2 * i : Nat) : Int) < 26) = true := by rw [decide_eq_true_eq]; omega
    have c2 : decide (((2 * i + 1 : Nat) : Int) < 26) = true := by rw [decide_eq_true_eq]; omega
    rw [small_Small_rc5.l0, lS, if_pos c1, if_pos (c0 _), if_pos c1, bx32 hp.1 hp.2, tm32, rolP (x32 hp.1 hp.2), Option.bind_some, a1, if_pos (c0 _), if_pos c2, il_rd', il_rd', U32_add, bx32 hp.2 (wa_lt _ _), tm32, rolP (x32 hp.2 (wa_lt _ _)), Option.bind_some, U32_add, a2]
    exact ih (p := eS S i p) (by omega) (by omega) (eS_wd S i p)
theorem r5_l1 {S : List Nat} (h : S.length = 26) (hS : ∀ x ∈ S, x < 4294967296) (tag : Int) (i : Nat) {k : Nat} {p : Nat × Nat} (hk : i < k) (hi : i < 13) (hp : Wd p) :
    small_Small_rc5.l1 k (il S, tag) (p.1 : Int) (p.2 : Int) ((2 * i : Nat) : Int) = some (pI (ws (d5 S i p).1 (S.getD 0 0), ws (d5 S i p).2 (S.getD 1 0))) := by
  have lS : ((il S).length : Int) = 26 := by rw [il_length, h]; rfl
  have g := fun j => getW hS j
  induction i generalizing k p with
  | zero =>
    obtain ⟨k, rfl⟩ : ∃ j, k = j + 1 := ⟨k - 1, by omega⟩
    have r0 : rd (il S) 0 = ((S.getD 0 0 : Nat) : Int) := il_rd' S 0
    have r1 : rd (il S) 1 = ((S.getD 1 0 : Nat) : Int) := il_rd' S 1
    rw [small_Small_rc5.l1, if_neg (by decide), lS, if_pos (by decide), if_pos (by decide), r0, r1, U32_sub (g 0), U32_sub (g 1)]; rfl
  | succ i ih =>
    obtain ⟨k, rfl⟩ : ∃ j, k = j + 1 := ⟨k - 1, by omega⟩
    have a1 : I64 (((2 * (i + 1) : Nat) : Int) + 1) = ((2 * (i + 1) + 1 : Nat) : Int) := I64_nat (n := 2 * (i + 1) + 1) (by omega)
    have a2 : I64 (((2 * (i + 1) : Nat) : Int) - 2) = ((2 * i : Nat) : Int) := by rw [I64_id (by omega) (by omega)]; omega
    have c0 : ∀ z : Nat, decide (0 ≤ (z : Int)) = true := fun z => by rw [decide_eq_true_eq]; omega
    have c1 : decide (((2 * (i + 1) : Nat) : Int) < 26) = true := by rw [decide_eq_true_eq]; omega
    have c2 : decide (((2 * (i + 1) + 1 : Nat) : Int) < 26) = true := by rw [decide_eq_true_eq]; omega
    have c3 : decide (((2 * (i + 1) : Nat) : Int) ≥ 2) = true := by rw [decide_eq_true_eq]; omega
    have hb := dB_lt S (i + 1) hp
    have eb : bxor .u32 ((rolN (ws p.2 (S.getD (2 * (i + 1) + 1) 0)) ((32 - p.1 % 32) % 32) : Nat) : Int) (p.1 : Int) = ((dB S (i + 1) p : Nat) : Int) := bx32 (rolN_lt (ws_lt _ _)) hp.1
    rw [small_Small_rc5.l1, lS, if_pos c3, a1, if_pos (c0 _), if_pos c2, il_rd', U32_sub (g _), tm32, rolM (ws_lt _ _), Option.bind_some, if_pos (c0 _), if_pos c1, il_rd', U32_sub (g _), eb, tm32, Option.bind_some, rolM (ws_lt _ _), Option.bind_some, bx32 (rolN_lt (ws_lt _ _)) hb, a2]
    exact ih (p := dS S (i + 1) p) (by omega) (by omega) (dS_wd S _ hp)
def r5 (S : List Nat) (dir : Bool) (p : Nat × Nat) : Nat × Nat := if dir then (ws (d5 S 12 p).1 (S.getD 0 0), ws (d5 S 12 p).2 (S.getD 1 0)) else e5 S 12 1 (wa p.1 (S.getD 0 0), wa p.2 (S.getD 1 0))
theorem r5_wd (S : List Nat) (dir : Bool) {p : Nat × Nat} (hp : Wd p) : Wd (r5 S dir p) := by
  cases dir
  · exact e5_wd S 12 1 _ ⟨wa_lt _ _, wa_lt _ _⟩
  · exact ⟨ws_lt _ _, ws_lt _ _⟩
theorem rc5_eq {S : List Nat} (h : S.length = 26) (hS : ∀ x ∈ S, x < 4294967296) (tag : Int) (dir : Bool) {k : Nat} {p : Nat × Nat} (hp : Wd p) (hk : 40 ≤ k) : small_Small_rc5.f k (il S, tag) (p.1 : Int) (p.2 : Int) dir = some (pI (r5 S dir p)) := by
  have lS : ((il S).length : Int) = 26 := by rw [il_length, h]; rfl
  have r0 : rd (il S) 0 = ((S.getD 0 0 : Nat) : Int) := il_rd' S 0
  have r1 : rd (il S) 1 = ((S.getD 1 0 : Nat) : Int) := il_rd' S 1
  unfold small_Small_rc5.f
  cases dir with
  | false =>
    rw [if_pos (by decide), lS, if_pos (by decide), if_pos (by decide), r0, r1, U32_add, U32_add]
    exact r5_l0 h tag 12 (i := 1) (p := (wa p.1 (S.getD 0 0), wa p.2 (S.getD 1 0))) (by omega) (by omega) ⟨wa_lt _ _, wa_lt _ _⟩
  | true =>
    rw [if_neg (by decide)]
    exact r5_l1 h hS tag 12 (by omega) (by omega) hp
def digR (v : Nat) : List Nat := (dig v 4).reverse
theorem putle_eq {v k : Nat} (hv : v < 4294967296) (hk : 20 ≤ k) : words_PutLe32.f k (v : Int) = some (il (digR v)) := by
  unfold words_PutLe32.f
  have := turned4 (k := k) ((v >>> 24 % 256 : Nat) : Int) ((v >>> 16 % 256 : Nat) : Int) ((v >>> 8 % 256 : Nat) : Int) ((v % 256 : Nat) : Int) (by omega)
  have e : il (dig v 4) = [((v >>> 24 % 256 : Nat) : Int), ((v >>> 16 % 256 : Nat) : Int), ((v >>> 8 % 256 : Nat) : Int), ((v % 256 : Nat) : Int)] := by rw [dig4]; rfl
  rw [putbe32_eq v hv (by omega), Option.bind_some, e, this, Option.bind_some]
  unfold digR; rw [dig4]; rfl
def outL (p : Nat × Nat) : List Nat := digR p.1 ++ digR p.2
theorem storedL {v w k : Nat} (hv : v < 4294967296) (hw : w < 4294967296) (hk : 60 ≤ k) : small_stored.f k (v : Int) (w : Int) true = some (il (digR v ++ digR w)) := by
  unfold small_stored.f
  have c := concat44 (k := k) ((v % 256 : Nat) : Int) ((v >>> 8 % 256 : Nat) : Int) ((v >>> 16 % 256 : Nat) : Int) ((v >>> 24 % 256 : Nat) : Int) ((w % 256 : Nat) : Int) ((w >>> 8 % 256 : Nat) : Int) ((w >>> 16 % 256 : Nat) : Int) ((w >>> 24 % 256 : Nat) : Int) hk
  have e : ∀ v, il (digR v) = [((v % 256 : Nat) : Int), ((v >>> 8 % 256 : Nat) : Int), ((v >>> 16 % 256 : Nat) : Int), ((v >>> 24 % 256 : Nat) : Int)] := fun v => by unfold digR; rw [dig4]; rfl
  rw [if_pos rfl, putle_eq hv (by omega), Option.bind_some, putle_eq hw (by omega), Option.bind_some, e, e, c, Option.bind_some, ← il_app, e, e]
  rfl
theorem block8 {S : List Nat} (h26 : S.length = 26) (hS : ∀ x ∈ S, x < 4294967296) {m : List Nat} (h : m.length = 8) (hm : ∀ x ∈ m, x < 256) (dir : Bool) {k : Nat} (hk : 120 ≤ k) :
    small_Small_Block.f k (il S, 8) (il m) dir = some (il (outL (r5 S dir (B2 true m))), 0) := by
  have l := loaded_eq true (n := 2) (k := k) (by omega) hm (by decide) hk
  have wl : (il (W true m)).length = 2 := by rw [il_length, W_length true 2 m h]
  have hp := B2_wd true h hm
  have x := rc5_eq h26 hS 8 dir (k := k) hp (by omega)
  have r0 : rd (il (W true m)) 0 = ((B2 true m).1 : Int) := il_rd' _ 0
  have r1 : rd (il (W true m)) 1 = ((B2 true m).2 : Int) := il_rd' _ 1
  have ho := r5_wd S dir hp
  have s := storedL (k := k) ho.1 ho.2 (by omega)
  unfold small_Small_Block.f
  rw [if_neg (by rw [il_length, h]; decide), show ((8 : Int) == 8) = true from by decide, l, Option.bind_some, if_pos (by rw [wl]; decide), if_pos (by rw [wl]; decide), if_neg (show ¬ (((il S, (8 : Int)).2 == 4) : Bool) = true from by show ¬ (((8 : Int) == 4) : Bool) = true; decide), if_neg (show ¬ (((il S, (8 : Int)).2 == 5) : Bool) = true from by show ¬ (((8 : Int) == 5) : Bool) = true; decide), if_pos rfl, r0, r1, x, Option.bind_some]
  show (small_stored.f k (((r5 S dir (B2 true m)).1 : Nat) : Int) (((r5 S dir (B2 true m)).2 : Nat) : Int) true).bind _ = _
  rw [s, Option.bind_some]; rfl
end Go.Scr.S
