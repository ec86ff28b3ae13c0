/- The plain law of TwofishWords. -/
import Derived.Test.YtngagagokcnnaaaFnTwofishWords
import Derived.Test.YtngagagokcnnaaaLibNum
import Derived.Test.YtngagagokcnnaaaLibGf
import Derived.Test.YtngagagokcnnaaaLibFieldMu0
import Derived.Test.YtngagagokcnnaaaLibIl
import Derived.Test.YtngagagokcnnaaaLibGLoad
import Derived.Test.YtngagagokcnnaaaLibFill
import Derived.Test.YtngagagokcnnaaaLibGIl
import Derived.Test.YtngagagokcnnaaaLibGStore
import Derived.Test.YtngagagokcnnaaaLibGXor
import Derived.Test.YtngagagokcnnaaaLibTwQ
import Derived.Test.YtngagagokcnnaaaLibTwH
import Derived.Test.YtngagagokcnnaaaLibTwM
import Derived.Test.YtngagagokcnnaaaLibTwF
import Derived.Test.YtngagagokcnnaaaLibGRest
import Derived.Test.YtngagagokcnnaaaLibGRol
import Derived.Test.YtngagagokcnnaaaLibSmNum
import Derived.Test.YtngagagokcnnaaaLibTwKP
import Derived.Test.YtngagagokcnnaaaLibTwF2
import Derived.Test.YtngagagokcnnaaaLibGRRol
import Derived.Test.YtngagagokcnnaaaLibTwW
import Derived.Test.YtngagagokcnnaaaLibTwofishBytes
import Derived.Test.YtngagagokcnnaaaLibTwKey
import Derived.Test.YtngagagokcnnaaaLibTwK
set_option linter.unusedVariables false
set_option linter.unusedSimpArgs false
set_option linter.unnecessarySimpa false
namespace Go.Scr.S
theorem rlit4' {k : Nat} (a b c d : Int) (hk : 20 ≤ k) : scrimref1_Little.f k [a, b, c, d] = words_load.f k [d, c, b, a] := by
  obtain ⟨j, rfl⟩ : ∃ j, k = j + 20 := ⟨k - 20, by omega⟩
  kernel_rfl
theorem rlittle {a b c d k : Nat} (ha : a < 256) (hb : b < 256) (hc : c < 256) (hd : d < 256) (hk : 20 ≤ k) : scrimref1_Little.f k (il [a, b, c, d]) = some ((bigN [d, c, b, a] : Nat) : Int) := by
  have q := rlit4' (k := k) (a : Int) (b : Int) (c : Int) (d : Int) hk
  refine Eq.trans q ?_
  exact load_eq (l := [d, c, b, a]) (k := k) (by intro v hv; simp at hv; omega) (by simp) (by omega)
theorem dt (l : List Nat) (i n : Nat) : ((il l).take (i + n)).drop i = il ((l.drop i).take n) := by
  rw [il_take, il_drop, List.drop_take]; congr 2; omega
theorem tw_l0 {a2 a3 : Int} {t : List Int × List Int × Int} {M : List Nat} (hM : ∀ x ∈ M, x < 256) (hML : M.length < 1000) {n : Nat} : ∀ {E O : List Nat} {i k : Nat}, (M.drop i).length = 8 * n → i ≤ M.length → E.length + n < 1000 → O.length + n < 1000 → 120 ≤ k →
    scrimlaw9_TwofishWords.l0 (k + n + 1) a2 a3 t (il M) (il E) (il O) (i : Int) = scrimlaw9_TwofishWords.l1 k a2 a3 t (il M) (il (E ++ ev (M.drop i))) (il (O ++ od (M.drop i))) 0 := by
  induction n with
  | zero =>
    intro E O i k h hiM hE hO hk
    have e0 : M.drop i = [] := List.eq_nil_of_length_eq_zero (by omega)
    have e1 : M.length ≤ i := by rw [List.length_drop] at h; omega
    rw [e0]
    show scrimlaw9_TwofishWords.l0 (k + 1) _ _ _ _ _ _ _ = _
    rw [scrimlaw9_TwofishWords.l0, if_neg (by rw [decide_eq_true_eq, il_length]; omega)]
    simp only [ev, od, List.append_nil]
  | succ n ih =>
    intro E O i k h hiM hE hO hk
    obtain ⟨a, b, c, d, e, f, g, t, r, eD, hr⟩ := eight h
    have hD : ∀ x ∈ a :: b :: c :: d :: e :: f :: g :: t :: r, x < 256 := fun x hx => hM x (List.mem_of_mem_drop (by rw [eD]; exact hx))
    have ha := hD a (by simp); have hb := hD b (by simp); have hc := hD c (by simp); have hd := hD d (by simp)
    have he := hD e (by simp); have hf := hD f (by simp); have hg := hD g (by simp); have ht := hD t (by simp)
    have hL : M.length = i + 8 * (n + 1) := by rw [List.length_drop] at h; omega
    have s4 : I64 ((i : Int) + 4) = ((i + 4 : Nat) : Int) := I64_nat (n := i + 4) (by omega)
    have s8 : I64 ((i : Int) + 8) = ((i + 8 : Nat) : Int) := I64_nat (n := i + 8) (by omega)
    have d4 : M.drop (i + 4) = e :: f :: g :: t :: r := by rw [← List.drop_drop, eD]; rfl
    have d8 : M.drop (i + 8) = r := by rw [← List.drop_drop, eD]; rfl
    have e0 : ((il M).take (((i + 4 : Nat) : Int)).toNat).drop ((i : Int)).toNat = il [a, b, c, d] := by rw [Int.toNat_natCast, Int.toNat_natCast, dt, eD]; rfl
    have e1 : ((il M).take (((i + 8 : Nat) : Int)).toNat).drop (((i + 4 : Nat) : Int)).toNat = il [e, f, g, t] := by
      rw [Int.toNat_natCast, Int.toNat_natCast, show i + 8 = i + 4 + 4 from rfl, dt, d4]; rfl
    have l0 := rlittle (k := k + n + 1) ha hb hc hd (by omega)
    have l1 := rlittle (k := k + n + 1) he hf hg ht (by omega)
    have w0 : U32 ((bigN [d, c, b, a] : Nat) : Int) = ((bigN [d, c, b, a] : Nat) : Int) := by rw [U32_nat, Nat.mod_eq_of_lt (bg4_lt hd hc hb ha)]
    have w1 : U32 ((bigN [t, g, f, e] : Nat) : Int) = ((bigN [t, g, f, e] : Nat) : Int) := by rw [U32_nat, Nat.mod_eq_of_lt (bg4_lt ht hg hf he)]
    have ci : decide ((i : Int) < ((il M).length : Int)) = true := by rw [decide_eq_true_eq, il_length]; omega
    have c0 : ∀ z : Nat, decide (0 ≤ (z : Int)) = true := fun z => by rw [decide_eq_true_eq]; omega
    have c1 : ∀ y z : Nat, y ≤ z → decide ((y : Int) ≤ (z : Int)) = true := fun y z hz => by rw [decide_eq_true_eq]; omega
    have cx : ∀ (v : Int) (X : List Nat), X.length + (n + 1) < 1000 → decide ((il X).length + [v].length ≤ 1000000000) = true := fun v X hX => by
      rw [decide_eq_true_eq, il_length]; simp only [List.length_cons, List.length_nil]; omega
    have ih' := ih (E := E ++ [bigN [d, c, b, a]]) (O := O ++ [bigN [t, g, f, e]]) (i := i + 8) (k := k) (by rw [d8]; exact hr) (by omega) (by simp; omega) (by simp; omega) hk
    rw [il_append, il_append] at ih'
    show scrimlaw9_TwofishWords.l0 (k + n + 1 + 1) _ _ _ _ _ _ _ = _
    have i4 : ((i + 4 : Nat) : Int) ≤ ((il M).length : Int) := by rw [il_length]; omega
    have i8 : ((i + 8 : Nat) : Int) ≤ ((il M).length : Int) := by rw [il_length]; omega
    have k4 : decide (((i + 4 : Nat) : Int) ≤ ((il M).length : Int)) = true := by rw [decide_eq_true_eq]; exact i4
    have k8 : decide (((i + 8 : Nat) : Int) ≤ ((il M).length : Int)) = true := by rw [decide_eq_true_eq]; exact i8
    rw [scrimlaw9_TwofishWords.l0, if_pos ci, if_pos (c0 _), s4, s8, if_pos (c1 _ _ (by omega)), if_pos k4, e0, l0, Option.bind_some, w0, if_pos (cx _ _ hE), if_pos (c0 _), if_pos (c1 _ _ (by omega)), if_pos k8, e1, l1, Option.bind_some, w1, if_pos (cx _ _ hO)]
    refine Eq.trans ih' ?_
    rw [d8, eD]
    simp only [ev, od, List.append_assoc, List.cons_append, List.nil_append]
/-- What is left when all words have been looked at. -/
def rest9 (k : Nat) (a2 a3 : Int) (t11 : List Int × List Int × Int) (t5 : List Int) : Option Bool :=
  (if (decide (([] : List Int).length + t5.length ≤ 1000000000)) = true then ((scrimlaw9_within.f k a2 ((([] : List Int) ++ t5).length : Int)).bind fun t99 => (if (decide (0 ≤ t99)) = true then (if (decide (t99 < ((([] : List Int) ++ t5).length : Int))) = true then (if (decide (0 ≤ t99)) = true then (if (decide (t99 < ((([] : List Int) ++ t5).length : Int))) = true then ((twofish_Keys.f k ((([] : List Int) ++ t5).set (t99 : Int).toNat (bxor .u8 (rd (([] : List Int) ++ t5) t99) a3))).bind fun t108 => ((some (((t108.2.1.length : Int) != (t11.2.1.length : Int)) : Bool)).bind fun y117 => (if y117 = true then (some false) else (scrimlaw9_TwofishWords.l2 k a3 t108 t11 t99 0)))) else (none)) else (none)) else (none)) else (none))) else (none))
theorem tw_l1 {a2 a3 e : Int} {S t5 : List Int} {E O : List Nat} (hE : ∀ v ∈ E, v < 4294967296) (hO : ∀ v ∈ O, v < 4294967296) (d : Nat) : ∀ {i k : Nat}, i + d = 20 → 220 ≤ k →
    scrimlaw9_TwofishWords.l1 (k + d + 1) a2 a3 (il (ks E O 0 20), S, e) t5 (il E) (il O) (i : Int) = rest9 k a2 a3 (il (ks E O 0 20), S, e) t5 := by
  induction d with
  | zero =>
    intro i k hi hk
    have : i = 20 := by omega
    subst this
    show scrimlaw9_TwofishWords.l1 (k + 1) _ _ _ _ _ _ _ = _
    rw [scrimlaw9_TwofishWords.l1, if_neg (by decide)]; rfl
  | succ d ih =>
    intro i k hi hk
    have hi19 : i < 20 := by omega
    have y0 : I64 (2 * (i : Int)) = ((2 * i : Nat) : Int) := I64_nat (n := 2 * i) (by omega)
    have y1 : I64 (((2 * i : Nat) : Int) + 1) = ((2 * i + 1 : Nat) : Int) := I64_nat (n := 2 * i + 1) (by omega)
    have x0 : U32 ((U32 ((2 * i : Nat) : Int)) * 16843009) = ((2 * i * 16843009 : Nat) : Int) := by
      have : U32 ((2 * i : Nat) : Int) = ((2 * i : Nat) : Int) := by rw [U32_emod]; omega
      rw [this, U32_emod]; omega
    have x1 : U32 ((U32 ((2 * i + 1 : Nat) : Int)) * 16843009) = (((2 * i + 1) * 16843009 : Nat) : Int) := by
      have h2 : U32 ((2 * i + 1 : Nat) : Int) = ((2 * i + 1 : Nat) : Int) := by rw [U32_emod]; omega
      rw [h2, U32_emod]; omega
    have x2 : I64 ((i : Int) + 1) = ((i + 1 : Nat) : Int) := I64_nat (n := i + 1) (by omega)
    have h0 := h_eq hE (x := 2 * i * 16843009) (k := k + d + 1) (by omega) (by omega)
    have h1 := h_eq hO (x := (2 * i + 1) * 16843009) (k := k + d + 1) (by omega) (by omega)
    have r0 : scrimref1_Rol32.f (k + d + 1) ((hN O ((2 * i + 1) * 16843009) : Nat) : Int) 8 = some ((kb O i : Nat) : Int) := rrol32_eq (k := k + d + 1) (hN_lt O ((2 * i + 1) * 16843009)) 8
    have r1 : scrimref1_Rol32.f (k + d + 1) ((wa (ka E i) (wa (kb O i) (kb O i)) : Nat) : Int) 9 = some ((kc E O i : Nat) : Int) := rrol32_eq (k := k + d + 1) (wa_lt (ka E i) (wa (kb O i) (kb O i))) 9
    have c0 : ∀ z : Nat, decide (0 ≤ (z : Int)) = true := fun z => by rw [decide_eq_true_eq]; omega
    have g0 : rd (il (ks E O 0 20)) ((2 * i : Nat) : Int) = ((wa (ka E i) (kb O i) : Nat) : Int) := by rw [il_rd', ks_even E O 20 0 i (by omega), Nat.zero_add]
    have g1 : rd (il (ks E O 0 20)) ((2 * i + 1 : Nat) : Int) = ((kc E O i : Nat) : Int) := by rw [il_rd', ks_odd E O 20 0 i (by omega), Nat.zero_add]
    have ck : ∀ z : Nat, z < 40 → decide ((z : Int) < ((il (ks E O 0 20)).length : Int)) = true := fun z hz => by rw [decide_eq_true_eq, il_length, ks_length]; omega
    have ih' := ih (i := i + 1) (k := k) (by omega) hk
    have eA : hN E (2 * i * 16843009) = ka E i := rfl
    generalize il (ks E O 0 20) = K at g0 g1 ck ih' ⊢
    show scrimlaw9_TwofishWords.l1 (k + d + 1 + 1) _ _ _ _ _ _ _ = _
    rw [scrimlaw9_TwofishWords.l1, if_pos (by rw [decide_eq_true_eq]; omega), y0, y1, x0, h0, Option.bind_some, x1, Option.bind_some, h1, Option.bind_some, r0, Option.bind_some, if_pos (c0 _), if_pos (ck _ (by omega)), eA, U32_add, g0, if_neg (by simp), if_pos (c0 _), if_pos (ck _ (by omega)), U32_two, U32_add, r1, Option.bind_some, g1, Option.bind_some, Option.bind_some, if_neg (by simp), x2]
    exact ih'
theorem tw_l2 {by_ : Nat} {S T : List Nat} {K K' : List Int} {e e' : Int} {j : Nat} (hj : j < 1000) (hl : S.length = T.length) (hl4 : S.length < 1000) (hq : j / 8 < S.length) (h : ∀ i, i < S.length → (S.getD i 0 = T.getD i 0 ↔ (by_ = 0 ∨ i ≠ S.length - 1 - j / 8))) (d : Nat) : ∀ {i k : Nat}, i + d = S.length → d < k →
    scrimlaw9_TwofishWords.l2 k (by_ : Int) (K', il T, e') (K, il S, e) (j : Int) (i : Int) = some true := by
  induction d with
  | zero =>
    intro i k hi hk
    obtain ⟨k, rfl⟩ : ∃ j, k = j + 1 := ⟨k - 1, by omega⟩
    rw [scrimlaw9_TwofishWords.l2, if_neg (by rw [decide_eq_true_eq, il_length]; omega)]
  | succ d ih =>
    intro i k hi hk
    obtain ⟨k, rfl⟩ : ∃ j, k = j + 1 := ⟨k - 1, by omega⟩
    have c0 : ∀ z : Nat, decide (0 ≤ (z : Int)) = true := fun z => by rw [decide_eq_true_eq]; omega
    have x2 : I64 ((i : Int) + 1) = ((i + 1 : Nat) : Int) := I64_nat (n := i + 1) (by omega)
    have q1 : I64 (((il S).length : Int) - 1) = ((S.length - 1 : Nat) : Int) := by rw [il_length, I64_id (by omega) (by omega)]; omega
    have q2 : I64 (Int.tdiv (j : Int) 8) = ((j / 8 : Nat) : Int) := by
      have : Int.tdiv (j : Int) 8 = ((j / 8 : Nat) : Int) := (Int.ofNat_tdiv j 8).symm
      rw [this, I64_nat (by omega)]
    have q3 : I64 (((S.length - 1 : Nat) : Int) - ((j / 8 : Nat) : Int)) = ((S.length - 1 - j / 8 : Nat) : Int) := by rw [I64_id (by omega) (by omega)]; omega
    have hh := h i (by omega)
    have cS : decide ((i : Int) < ((il S).length : Int)) = true := by rw [decide_eq_true_eq, il_length]; omega
    have cT : decide ((i : Int) < ((il T).length : Int)) = true := by rw [decide_eq_true_eq, il_length]; omega
    rw [scrimlaw9_TwofishWords.l2, if_pos cS, if_pos (c0 _), if_pos cS, if_pos (c0 _), if_pos cT, q1, q2, q3, il_rd', il_rd', beq_nat]
    by_cases b0 : by_ = 0
    · subst b0
      rw [if_pos (by decide), Option.bind_some, if_neg (by rw [decide_eq_true (hh.2 (Or.inl rfl))]; decide), x2]
      exact ih (by omega) (by omega)
    · have bne : ((i : Int) != ((S.length - 1 - j / 8 : Nat) : Int)) = decide (i ≠ S.length - 1 - j / 8) := by
        unfold bne; rw [beq_nat]; simp
      have eqd : decide (S.getD i 0 = T.getD i 0) = decide (i ≠ S.length - 1 - j / 8) := by
        rw [decide_eq_decide, hh]; constructor
        · rintro (h | h)
          · exact absurd h b0
          · exact h
        · intro h; right; exact h
      rw [if_neg (by simp; omega), Option.bind_some, Option.bind_some, bne, eqd, if_neg (by simp), x2]
      exact ih (by omega) (by omega)
theorem TwofishWords (a0 : List Int) (a1 : Int) (a2 : Int) (a3 : Int) (h0 : a0.length ≤ maxLen) (h1 : ∀ x ∈ a0, In .u8 x) (h2 : In .i64 a1) (h3 : In .i64 a2) (h4 : In .u8 a3) : ∃ k, scrimlaw9_TwofishWords.f k a0 a1 a2 a3 = some true := by
  refine ⟨1000, ?_⟩
  obtain ⟨l, rfl, hl⟩ := il_of h1
  obtain ⟨b, hb, rfl⟩ := u8_of h4
  obtain ⟨m, n, em, hn, hml, hmb⟩ := key9_eq a1 hl (k := 1000) (by omega)
  obtain ⟨l1, l2, l3⟩ := esd_len n m hml
  obtain ⟨b1, b2, b3⟩ := esd_lt n m hml hmb
  have ke := keys_eq hml hn hmb (k := 1000) (by omega)
  obtain ⟨j, ej, hj⟩ : ∃ j : Nat, a2 % (m.length : Int) = (j : Int) ∧ j < m.length := by
    have h0 : 0 ≤ a2 % (m.length : Int) := Int.emod_nonneg _ (by omega)
    have h1 : a2 % (m.length : Int) < (m.length : Int) := Int.emod_lt_of_pos _ (by omega)
    exact ⟨(a2 % (m.length : Int)).toNat, by omega, by omega⟩
  have hy8 : (m.set j (m.getD j 0 ^^^ b)).length = 8 * n := by rw [List.length_set]; exact hml
  have hyb : ∀ x ∈ m.set j (m.getD j 0 ^^^ b), x < 256 := fun x hx => by
    rcases List.mem_or_eq_of_mem_set hx with hx | rfl
    · exact hmb x hx
    · exact x8lt (getD_lt hmb j) hb
  obtain ⟨y1, y2, y3⟩ := esd_len n _ hy8
  have F0 := tw_l0 (a2 := a2) (a3 := (b : Int)) (t := (il (ks (ev m) (od m) 0 20), il (sd m).reverse, 0)) hmb (by omega) (n := n) (E := []) (O := []) (i := 0) (k := 999 - n) (by rw [List.drop_zero]; exact hml) (by omega) (by simp; omega) (by simp; omega) (by omega)
  rw [show 999 - n + n + 1 = 1000 by omega] at F0
  simp only [List.nil_append, List.drop_zero] at F0
  have F1 := tw_l1 (a2 := a2) (a3 := (b : Int)) (e := 0) (S := il (sd m).reverse) (t5 := il m) b1 b2 20 (i := 0) (k := 999 - n - 21) (by omega) (by omega)
  rw [show 999 - n - 21 + 20 + 1 = 999 - n by omega] at F1
  have ke2 := keys_eq hy8 hn hyb (k := 999 - n - 21) (by omega)
  have w := within9_eq (k := 999 - n - 21) a2 ((m.length : Nat) : Int) (by omega) (by omega)
  rw [ej] at w
  have F2 := tw_l2 (by_ := b) (S := (sd m).reverse) (T := (sd (m.set j (m.getD j 0 ^^^ b))).reverse) (K := il (ks (ev m) (od m) 0 20)) (K' := il (ks (ev (m.set j (m.getD j 0 ^^^ b))) (od (m.set j (m.getD j 0 ^^^ b))) 0 20)) (e := 0) (e' := 0) (j := j) (by omega) (by rw [List.length_reverse, List.length_reverse]; omega) (by rw [List.length_reverse]; omega) (by rw [List.length_reverse]; omega)
    (fun i hi => by
      rw [List.length_reverse] at hi
      have R : ∀ L : List Nat, L.length = n → L.reverse.getD i 0 = L.getD (n - 1 - i) 0 := fun L hL => by
        rw [List.getD_eq_getElem?_getD, List.getElem?_reverse (by omega), hL, ← List.getD_eq_getElem?_getD]
      rw [R _ l3, R _ y3, List.length_reverse, l3]
      rw [eq_comm, sd_set hml hmb hj hb (by omega)]
      constructor
      · rintro (h | h)
        · exact Or.inl h
        · right; omega
      · rintro (h | h)
        · exact Or.inl h
        · right; omega) (sd m).reverse.length (i := 0) (k := 999 - n - 21) (by omega) (by rw [List.length_reverse]; omega)
  have c0 : ∀ z : Nat, decide (0 ≤ (z : Int)) = true := fun z => by rw [decide_eq_true_eq]; omega
  have tq : I64 (Int.tdiv ((il m).length : Int) 8) = (n : Int) := by
    have : Int.tdiv ((il m).length : Int) 8 = (((il m).length / 8 : Nat) : Int) := (Int.ofNat_tdiv _ 8).symm
    rw [this, I64_nat (by rw [il_length]; omega), il_length]; omega
  have sl : ((il (sd m).reverse).length : Int) = (n : Int) := by rw [il_length, List.length_reverse, l3]
  have sl2 : ((il (sd (m.set j (m.getD j 0 ^^^ b))).reverse).length : Int) = (n : Int) := by rw [il_length, List.length_reverse, y3]
  unfold scrimlaw9_TwofishWords.f
  rw [known9_eq (by omega), Option.bind_some, if_neg (by decide), em, Option.bind_some, ke, Option.bind_some, if_neg (by simp)]
  have kl : ((il (ks (ev m) (od m) 0 20)).length : Int) = 40 := by rw [il_length, ks_length]; rfl
  show (if (((il (ks (ev m) (od m) 0 20)).length : Int) != 40) = true then _ else (some ((((il (sd m).reverse).length : Int) != I64 (Int.tdiv ((il m).length : Int) 8)) : Bool)).bind _) = _
  rw [kl, if_neg (by decide), tq, sl, Option.bind_some, if_neg (by simp)]
  refine F0.trans (F1.trans ?_)
  unfold rest9
  rw [if_pos (by rw [decide_eq_true_eq, List.length_nil, il_length]; omega), List.nil_append, il_length, w, Option.bind_some, if_pos (c0 _), if_pos (by rw [decide_eq_true_eq]; omega), if_pos (c0 _), if_pos (by rw [decide_eq_true_eq]; omega), il_rd', bx8 (getD_lt hmb j) hb, Int.toNat_natCast, il_set, ke2, Option.bind_some]
  show (some ((((il (sd (m.set j (m.getD j 0 ^^^ b))).reverse).length : Int) != ((il (sd m).reverse).length : Int)) : Bool)).bind _ = _
  rw [sl, sl2, Option.bind_some, if_neg (by simp)]
  exact F2
end Go.Scr.S
