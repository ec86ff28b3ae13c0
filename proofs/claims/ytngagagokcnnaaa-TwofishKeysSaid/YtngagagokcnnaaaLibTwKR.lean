/- The plain law of TwKR. -/
import Derived.Test.YtngagagokcnnaaaFnTwofishKeys
import Derived.Test.YtngagagokcnnaaaLibNum
import Derived.Test.YtngagagokcnnaaaLibGf
import Derived.Test.YtngagagokcnnaaaLibFieldMu0
import Derived.Test.YtngagagokcnnaaaLibFieldRMu0
import Derived.Test.YtngagagokcnnaaaLibIl
import Derived.Test.YtngagagokcnnaaaLibGLoad
import Derived.Test.YtngagagokcnnaaaLibFill
import Derived.Test.YtngagagokcnnaaaLibGIl
import Derived.Test.YtngagagokcnnaaaLibGStore
import Derived.Test.YtngagagokcnnaaaLibGXor
import Derived.Test.YtngagagokcnnaaaLibTwQ
import Derived.Test.YtngagagokcnnaaaLibTwH
import Derived.Test.YtngagagokcnnaaaLibTwM
import Derived.Test.YtngagagokcnnaaaLibTwR
import Derived.Test.YtngagagokcnnaaaLibTwF
import Derived.Test.YtngagagokcnnaaaLibGRest
import Derived.Test.YtngagagokcnnaaaLibGRol
import Derived.Test.YtngagagokcnnaaaLibSmNum
import Derived.Test.YtngagagokcnnaaaLibTwRH
import Derived.Test.YtngagagokcnnaaaLibGRRol
import Derived.Test.YtngagagokcnnaaaLibTwKP
set_option linter.unusedVariables false
set_option linter.unusedSimpArgs false
set_option linter.unnecessarySimpa false
namespace Go.Scr.S
theorem rlit4' {k : Nat} (a b c d : Int) (hk : 20 ≤ k) : scrimref1_Little.f k [a, b, c, d] = words_load.f k [d, c, b, a] := by
  obtain ⟨j, rfl⟩ : ∃ j, k = j + 20 := ⟨k - 20, by omega⟩
  kernel_rfl
theorem rlittle {a b c d k : Nat} (ha : a < 256) (hb : b < 256) (hc : c < 256) (hd : d < 256) (hk : 20 ≤ k) : scrimref1_Little.f k (il [a, b, c, d]) = some ((bigN [d, c, b, a] : Nat) : Int) := by
  have q := rlit4' (k := k) (a : Int) (b : Int) (c : Int) (d : Int) hk
  refine Eq.trans q ?_
  exact load_eq (l := [d, c, b, a]) (k := k) (by intro v hv; simp at hv; omega) (by simp) (by omega)
theorem dt (l : List Nat) (i n : Nat) : ((il l).take (i + n)).drop i = il ((l.drop i).take n) := by
  rw [il_take, il_drop, List.drop_take]; congr 2; omega
theorem rk0 {M : List Nat} (hM : ∀ x ∈ M, x < 256) (hML : M.length < 1000) {n : Nat} : ∀ {E O S : List Nat} {i k : Nat}, (M.drop i).length = 8 * n → i ≤ M.length → E.length + n < 1000 → O.length + n < 1000 → S.length + n < 1000 → 120 ≤ k →
    scrimref9_Keys.l0 (k + n + 1) (il M) (il E) (il O) (il S) (i : Int) = scrimref9_Keys.l1 k (il (E ++ ev (M.drop i))) (il (O ++ od (M.drop i))) (il ((sd (M.drop i)).reverse ++ S)) ([] : List Int) 0 := by
  induction n with
  | zero =>
    intro E O S i k h hiM hE hO hS hk
    have e0 : M.drop i = [] := List.eq_nil_of_length_eq_zero (by omega)
    have e1 : M.length ≤ i := by rw [List.length_drop] at h; omega
    rw [e0]
    show scrimref9_Keys.l0 (k + 1) _ _ _ _ _ = _
    rw [scrimref9_Keys.l0, if_neg (by rw [decide_eq_true_eq, il_length]; omega)]
    simp only [ev, od, sd, List.append_nil, List.reverse_nil, List.nil_append]
  | succ n ih =>
    intro E O S i k h hiM hE hO hS hk
    obtain ⟨a, b, c, d, e, f, g, t, r, eD, hr⟩ := eight h
    have hD : ∀ x ∈ a :: b :: c :: d :: e :: f :: g :: t :: r, x < 256 := fun x hx => hM x (List.mem_of_mem_drop (by rw [eD]; exact hx))
    have ha := hD a (by simp); have hb := hD b (by simp); have hc := hD c (by simp); have hd := hD d (by simp)
    have he := hD e (by simp); have hf := hD f (by simp); have hg := hD g (by simp); have ht := hD t (by simp)
    have hL : M.length = i + 8 * (n + 1) := by rw [List.length_drop] at h; omega
    have s4 : I64 ((i : Int) + 4) = ((i + 4 : Nat) : Int) := I64_nat (n := i + 4) (by omega)
    have s8 : I64 ((i : Int) + 8) = ((i + 8 : Nat) : Int) := I64_nat (n := i + 8) (by omega)
    have d4 : M.drop (i + 4) = e :: f :: g :: t :: r := by rw [← List.drop_drop, eD]; rfl
    have d8 : M.drop (i + 8) = r := by rw [← List.drop_drop, eD]; rfl
    have e0 : ((il M).take (((i + 4 : Nat) : Int)).toNat).drop ((i : Int)).toNat = il [a, b, c, d] := by rw [Int.toNat_natCast, Int.toNat_natCast, dt, eD]; rfl
    have e1 : ((il M).take (((i + 8 : Nat) : Int)).toNat).drop (((i + 4 : Nat) : Int)).toNat = il [e, f, g, t] := by
      rw [Int.toNat_natCast, Int.toNat_natCast, show i + 8 = i + 4 + 4 from rfl, dt, d4]; rfl
    have e2 : ((il M).take (((i + 8 : Nat) : Int)).toNat).drop ((i : Int)).toNat = il [a, b, c, d, e, f, g, t] := by rw [Int.toNat_natCast, Int.toNat_natCast, dt, eD]; rfl
    have l0 := rlittle (k := k + n + 1) ha hb hc hd (by omega)
    have l1 := rlittle (k := k + n + 1) he hf hg ht (by omega)
    have l2 := told_eq (m := [a, b, c, d, e, f, g, t]) (k := k + n + 1) ⟨rfl, by intro v hv; simp at hv; omega⟩ (by omega)
    have w0 : U32 ((bigN [d, c, b, a] : Nat) : Int) = ((bigN [d, c, b, a] : Nat) : Int) := by rw [U32_nat, Nat.mod_eq_of_lt (bg4_lt hd hc hb ha)]
    have w1 : U32 ((bigN [t, g, f, e] : Nat) : Int) = ((bigN [t, g, f, e] : Nat) : Int) := by rw [U32_nat, Nat.mod_eq_of_lt (bg4_lt ht hg hf he)]
    have ci : decide ((i : Int) < ((il M).length : Int)) = true := by rw [decide_eq_true_eq, il_length]; omega
    have c0 : ∀ z : Nat, decide (0 ≤ (z : Int)) = true := fun z => by rw [decide_eq_true_eq]; omega
    have c1 : ∀ y z : Nat, y ≤ z → decide ((y : Int) ≤ (z : Int)) = true := fun y z hz => by rw [decide_eq_true_eq]; omega
    have cx : ∀ (v : Int) (X : List Nat), X.length + (n + 1) < 1000 → decide ((il X).length + [v].length ≤ 1000000000) = true := fun v X hX => by
      rw [decide_eq_true_eq, il_length]; simp only [List.length_cons, List.length_nil]; omega
    have cy : ∀ (v : Int) (X : List Nat), X.length + (n + 1) < 1000 → decide ([v].length + (il X).length ≤ 1000000000) = true := fun v X hX => by
      rw [decide_eq_true_eq, il_length]; simp only [List.length_cons, List.length_nil]; omega
    have ih' := ih (E := E ++ [bigN [d, c, b, a]]) (O := O ++ [bigN [t, g, f, e]]) (S := fd [a, b, c, d, e, f, g, t] :: S) (i := i + 8) (k := k) (by rw [d8]; exact hr) (by omega) (by simp; omega) (by simp; omega) (by simp; omega) hk
    rw [il_append, il_append] at ih'
    show scrimref9_Keys.l0 (k + n + 1 + 1) _ _ _ _ _ = _
    have i4 : ((i + 4 : Nat) : Int) ≤ ((il M).length : Int) := by rw [il_length]; omega
    have i8 : ((i + 8 : Nat) : Int) ≤ ((il M).length : Int) := by rw [il_length]; omega
    have k4 : decide (((i + 4 : Nat) : Int) ≤ ((il M).length : Int)) = true := by rw [decide_eq_true_eq]; exact i4
    have k8 : decide (((i + 8 : Nat) : Int) ≤ ((il M).length : Int)) = true := by rw [decide_eq_true_eq]; exact i8
    rw [scrimref9_Keys.l0, if_pos ci, if_pos (c0 _), s4, s8, if_pos (c1 _ _ (by omega)), if_pos k4, e0, l0, Option.bind_some, w0, if_pos (cx _ _ hE), if_pos (c0 _), if_pos (c1 _ _ (by omega)), if_pos k8, e1, l1, Option.bind_some, w1, if_pos (cx _ _ hO), if_pos (c0 _), if_pos (c1 _ _ (by omega)), if_pos k8, e2, l2, Option.bind_some, if_pos (cy _ _ hS)]
    refine Eq.trans ih' ?_
    rw [d8, eD]
    simp only [ev, od, sd, List.append_assoc, List.cons_append, List.nil_append, List.reverse_cons]
theorem rk1 {E O : List Nat} (hE : 2 ≤ E.length ∧ E.length ≤ 4) (hO : 2 ≤ O.length ∧ O.length ≤ 4) {S : List Nat} (d : Nat) : ∀ {i k : Nat} {K : List Nat}, i + d = 20 → K.length = 2 * i → 220 ≤ k →
    scrimref9_Keys.l1 (k + d + 1) (il E) (il O) (il S) (il K) (i : Int) = some (il (K ++ ks E O i d), il S, 0) := by
  induction d with
  | zero =>
    intro i k K hi hK hk
    have : i = 20 := by omega
    subst this
    show scrimref9_Keys.l1 (k + 1) _ _ _ _ _ = _
    rw [scrimref9_Keys.l1, if_neg (by decide)]
    simp only [ks, List.append_nil]
  | succ d ih =>
    intro i k K hi hK hk
    have hi19 : i < 20 := by omega
    have y0 : I64 (2 * (i : Int)) = ((2 * i : Nat) : Int) := I64_nat (n := 2 * i) (by omega)
    have y1 : I64 (((2 * i : Nat) : Int) + 1) = ((2 * i + 1 : Nat) : Int) := I64_nat (n := 2 * i + 1) (by omega)
    have x0 : U32 ((U32 ((2 * i : Nat) : Int)) * 16843009) = ((2 * i * 16843009 : Nat) : Int) := by
      have : U32 ((2 * i : Nat) : Int) = ((2 * i : Nat) : Int) := by rw [U32_emod]; omega
      rw [this, U32_emod]; omega
    have x1 : U32 ((U32 ((2 * i + 1 : Nat) : Int)) * 16843009) = (((2 * i + 1) * 16843009 : Nat) : Int) := by
      have h2 : U32 ((2 * i + 1 : Nat) : Int) = ((2 * i + 1 : Nat) : Int) := by rw [U32_emod]; omega
      rw [h2, U32_emod]; omega
    have x2 : I64 ((i : Int) + 1) = ((i + 1 : Nat) : Int) := I64_nat (n := i + 1) (by omega)
    have h0 := rh_eq hE.1 hE.2 (x := 2 * i * 16843009) (k := k + d + 1) (by omega)
    have h1 := rh_eq hO.1 hO.2 (x := (2 * i + 1) * 16843009) (k := k + d + 1) (by omega)
    have r0 := rrol32_eq (k := k + d + 1) (hN_lt O ((2 * i + 1) * 16843009)) 8
    have r1 := rrol32_eq (k := k + d + 1) (wa_lt (ka E i) (wa (kb O i) (kb O i))) 9
    have c1 : ∀ u v : Int, decide ((il K).length + [u, v].length ≤ 1000000000) = true := fun u v => by
      rw [decide_eq_true_eq, il_length, hK]; simp only [List.length_cons, List.length_nil]; omega
    have e1 : il K ++ [U32 ((ka E i : Int) + (kb O i : Int)), ((kc E O i : Nat) : Int)] = il (K ++ ks E O i 1) := by
      rw [il_append, U32_add]; rfl
    show scrimref9_Keys.l1 (k + d + 1 + 1) _ _ _ _ _ = _
    rw [scrimref9_Keys.l1, if_pos (by rw [decide_eq_true_eq]; omega), y0, y1, x0, h0, Option.bind_some, x1, Option.bind_some, h1, Option.bind_some, r0, Option.bind_some]
    show (scrimref1_Rol32.f (k + d + 1) (U32 ((ka E i : Int) + (U32 (2 * (kb O i : Int))))) 9).bind _ = _
    rw [U32_two, U32_add, r1, Option.bind_some, if_pos (c1 _ _), x2]
    show scrimref9_Keys.l1 (k + d + 1) (il E) (il O) (il S) (il K ++ [U32 ((ka E i : Int) + (kb O i : Int)), ((kc E O i : Nat) : Int)]) ((i + 1 : Nat) : Int) = _
    rw [e1, ih (by omega) (by rw [List.length_append, ks_length, hK]; omega) hk]
    simp only [ks, List.append_assoc, List.cons_append, List.nil_append]
theorem rk2 {M : List Nat} (hM : ∀ x ∈ M, x < 256) (hML : M.length < 1000) {n : Nat} : ∀ {E O S : List Nat} {i k : Nat}, (M.drop i).length = 8 * n → i ≤ M.length → E.length + n < 1000 → O.length + n < 1000 → S.length + n < 1000 → 120 ≤ k →
    scrimref9_Keys.l2 (k + n + 1) (il M) (il E) (il O) (il S) (i : Int) = scrimref9_Keys.l3 k (il (E ++ ev (M.drop i))) (il (O ++ od (M.drop i))) (il ((sd (M.drop i)).reverse ++ S)) ([] : List Int) 0 := by
  induction n with
  | zero =>
    intro E O S i k h hiM hE hO hS hk
    have e0 : M.drop i = [] := List.eq_nil_of_length_eq_zero (by omega)
    have e1 : M.length ≤ i := by rw [List.length_drop] at h; omega
    rw [e0]
    show scrimref9_Keys.l2 (k + 1) _ _ _ _ _ = _
    rw [scrimref9_Keys.l2, if_neg (by rw [decide_eq_true_eq, il_length]; omega)]
    simp only [ev, od, sd, List.append_nil, List.reverse_nil, List.nil_append]
  | succ n ih =>
    intro E O S i k h hiM hE hO hS hk
    obtain ⟨a, b, c, d, e, f, g, t, r, eD, hr⟩ := eight h
    have hD : ∀ x ∈ a :: b :: c :: d :: e :: f :: g :: t :: r, x < 256 := fun x hx => hM x (List.mem_of_mem_drop (by rw [eD]; exact hx))
    have ha := hD a (by simp); have hb := hD b (by simp); have hc := hD c (by simp); have hd := hD d (by simp)
    have he := hD e (by simp); have hf := hD f (by simp); have hg := hD g (by simp); have ht := hD t (by simp)
    have hL : M.length = i + 8 * (n + 1) := by rw [List.length_drop] at h; omega
    have s4 : I64 ((i : Int) + 4) = ((i + 4 : Nat) : Int) := I64_nat (n := i + 4) (by omega)
    have s8 : I64 ((i : Int) + 8) = ((i + 8 : Nat) : Int) := I64_nat (n := i + 8) (by omega)
    have d4 : M.drop (i + 4) = e :: f :: g :: t :: r := by rw [← List.drop_drop, eD]; rfl
    have d8 : M.drop (i + 8) = r := by rw [← List.drop_drop, eD]; rfl
    have e0 : ((il M).take (((i + 4 : Nat) : Int)).toNat).drop ((i : Int)).toNat = il [a, b, c, d] := by rw [Int.toNat_natCast, Int.toNat_natCast, dt, eD]; rfl
    have e1 : ((il M).take (((i + 8 : Nat) : Int)).toNat).drop (((i + 4 : Nat) : Int)).toNat = il [e, f, g, t] := by
      rw [Int.toNat_natCast, Int.toNat_natCast, show i + 8 = i + 4 + 4 from rfl, dt, d4]; rfl
    have e2 : ((il M).take (((i + 8 : Nat) : Int)).toNat).drop ((i : Int)).toNat = il [a, b, c, d, e, f, g, t] := by rw [Int.toNat_natCast, Int.toNat_natCast, dt, eD]; rfl
    have l0 := rlittle (k := k + n + 1) ha hb hc hd (by omega)
    have l1 := rlittle (k := k + n + 1) he hf hg ht (by omega)
    have l2 := told_eq (m := [a, b, c, d, e, f, g, t]) (k := k + n + 1) ⟨rfl, by intro v hv; simp at hv; omega⟩ (by omega)
    have w0 : U32 ((bigN [d, c, b, a] : Nat) : Int) = ((bigN [d, c, b, a] : Nat) : Int) := by rw [U32_nat, Nat.mod_eq_of_lt (bg4_lt hd hc hb ha)]
    have w1 : U32 ((bigN [t, g, f, e] : Nat) : Int) = ((bigN [t, g, f, e] : Nat) : Int) := by rw [U32_nat, Nat.mod_eq_of_lt (bg4_lt ht hg hf he)]
    have ci : decide ((i : Int) < ((il M).length : Int)) = true := by rw [decide_eq_true_eq, il_length]; omega
    have c0 : ∀ z : Nat, decide (0 ≤ (z : Int)) = true := fun z => by rw [decide_eq_true_eq]; omega
    have c1 : ∀ y z : Nat, y ≤ z → decide ((y : Int) ≤ (z : Int)) = true := fun y z hz => by rw [decide_eq_true_eq]; omega
    have cx : ∀ (v : Int) (X : List Nat), X.length + (n + 1) < 1000 → decide ((il X).length + [v].length ≤ 1000000000) = true := fun v X hX => by
      rw [decide_eq_true_eq, il_length]; simp only [List.length_cons, List.length_nil]; omega
    have cy : ∀ (v : Int) (X : List Nat), X.length + (n + 1) < 1000 → decide ([v].length + (il X).length ≤ 1000000000) = true := fun v X hX => by
      rw [decide_eq_true_eq, il_length]; simp only [List.length_cons, List.length_nil]; omega
    have ih' := ih (E := E ++ [bigN [d, c, b, a]]) (O := O ++ [bigN [t, g, f, e]]) (S := fd [a, b, c, d, e, f, g, t] :: S) (i := i + 8) (k := k) (by rw [d8]; exact hr) (by omega) (by simp; omega) (by simp; omega) (by simp; omega) hk
    rw [il_append, il_append] at ih'
    show scrimref9_Keys.l2 (k + n + 1 + 1) _ _ _ _ _ = _
    have i4 : ((i + 4 : Nat) : Int) ≤ ((il M).length : Int) := by rw [il_length]; omega
    have i8 : ((i + 8 : Nat) : Int) ≤ ((il M).length : Int) := by rw [il_length]; omega
    have k4 : decide (((i + 4 : Nat) : Int) ≤ ((il M).length : Int)) = true := by rw [decide_eq_true_eq]; exact i4
    have k8 : decide (((i + 8 : Nat) : Int) ≤ ((il M).length : Int)) = true := by rw [decide_eq_true_eq]; exact i8
    rw [scrimref9_Keys.l2, if_pos ci, if_pos (c0 _), s4, s8, if_pos (c1 _ _ (by omega)), if_pos k4, e0, l0, Option.bind_some, w0, if_pos (cx _ _ hE), if_pos (c0 _), if_pos (c1 _ _ (by omega)), if_pos k8, e1, l1, Option.bind_some, w1, if_pos (cx _ _ hO), if_pos (c0 _), if_pos (c1 _ _ (by omega)), if_pos k8, e2, l2, Option.bind_some, if_pos (cy _ _ hS)]
    refine Eq.trans ih' ?_
    rw [d8, eD]
    simp only [ev, od, sd, List.append_assoc, List.cons_append, List.nil_append, List.reverse_cons]
theorem rk3 {E O : List Nat} (hE : 2 ≤ E.length ∧ E.length ≤ 4) (hO : 2 ≤ O.length ∧ O.length ≤ 4) {S : List Nat} (d : Nat) : ∀ {i k : Nat} {K : List Nat}, i + d = 20 → K.length = 2 * i → 220 ≤ k →
    scrimref9_Keys.l3 (k + d + 1) (il E) (il O) (il S) (il K) (i : Int) = some (il (K ++ ks E O i d), il S, 0) := by
  induction d with
  | zero =>
    intro i k K hi hK hk
    have : i = 20 := by omega
    subst this
    show scrimref9_Keys.l3 (k + 1) _ _ _ _ _ = _
    rw [scrimref9_Keys.l3, if_neg (by decide)]
    simp only [ks, List.append_nil]
  | succ d ih =>
    intro i k K hi hK hk
    have hi19 : i < 20 := by omega
    have y0 : I64 (2 * (i : Int)) = ((2 * i : Nat) : Int) := I64_nat (n := 2 * i) (by omega)
    have y1 : I64 (((2 * i : Nat) : Int) + 1) = ((2 * i + 1 : Nat) : Int) := I64_nat (n := 2 * i + 1) (by omega)
    have x0 : U32 ((U32 ((2 * i : Nat) : Int)) * 16843009) = ((2 * i * 16843009 : Nat) : Int) := by
      have : U32 ((2 * i : Nat) : Int) = ((2 * i : Nat) : Int) := by rw [U32_emod]; omega
      rw [this, U32_emod]; omega
    have x1 : U32 ((U32 ((2 * i + 1 : Nat) : Int)) * 16843009) = (((2 * i + 1) * 16843009 : Nat) : Int) := by
      have h2 : U32 ((2 * i + 1 : Nat) : Int) = ((2 * i + 1 : Nat) : Int) := by rw [U32_emod]; omega
      rw [h2, U32_emod]; omega
    have x2 : I64 ((i : Int) + 1) = ((i + 1 : Nat) : Int) := I64_nat (n := i + 1) (by omega)
    have h0 := rh_eq hE.1 hE.2 (x := 2 * i * 16843009) (k := k + d + 1) (by omega)
    have h1 := rh_eq hO.1 hO.2 (x := (2 * i + 1) * 16843009) (k := k + d + 1) (by omega)
    have r0 := rrol32_eq (k := k + d + 1) (hN_lt O ((2 * i + 1) * 16843009)) 8
    have r1 := rrol32_eq (k := k + d + 1) (wa_lt (ka E i) (wa (kb O i) (kb O i))) 9
    have c1 : ∀ u v : Int, decide ((il K).length + [u, v].length ≤ 1000000000) = true := fun u v => by
      rw [decide_eq_true_eq, il_length, hK]; simp only [List.length_cons, List.length_nil]; omega
    have e1 : il K ++ [U32 ((ka E i : Int) + (kb O i : Int)), ((kc E O i : Nat) : Int)] = il (K ++ ks E O i 1) := by
      rw [il_append, U32_add]; rfl
    show scrimref9_Keys.l3 (k + d + 1 + 1) _ _ _ _ _ = _
    rw [scrimref9_Keys.l3, if_pos (by rw [decide_eq_true_eq]; omega), y0, y1, x0, h0, Option.bind_some, x1, Option.bind_some, h1, Option.bind_some, r0, Option.bind_some]
    show (scrimref1_Rol32.f (k + d + 1) (U32 ((ka E i : Int) + (U32 (2 * (kb O i : Int))))) 9).bind _ = _
    rw [U32_two, U32_add, r1, Option.bind_some, if_pos (c1 _ _), x2]
    show scrimref9_Keys.l3 (k + d + 1) (il E) (il O) (il S) (il K ++ [U32 ((ka E i : Int) + (kb O i : Int)), ((kc E O i : Nat) : Int)]) ((i + 1 : Nat) : Int) = _
    rw [e1, ih (by omega) (by rw [List.length_append, ks_length, hK]; omega) hk]
    simp only [ks, List.append_assoc, List.cons_append, List.nil_append]
theorem rk4 {M : List Nat} (hM : ∀ x ∈ M, x < 256) (hML : M.length < 1000) {n : Nat} : ∀ {E O S : List Nat} {i k : Nat}, (M.drop i).length = 8 * n → i ≤ M.length → E.length + n < 1000 → O.length + n < 1000 → S.length + n < 1000 → 120 ≤ k →
    scrimref9_Keys.l4 (k + n + 1) (il M) (il E) (il O) (il S) (i : Int) = scrimref9_Keys.l5 k (il (E ++ ev (M.drop i))) (il (O ++ od (M.drop i))) (il ((sd (M.drop i)).reverse ++ S)) ([] : List Int) 0 := by
  induction n with
  | zero =>
    intro E O S i k h hiM hE hO hS hk
    have e0 : M.drop i = [] := List.eq_nil_of_length_eq_zero (by omega)
    have e1 : M.length ≤ i := by rw [List.length_drop] at h; omega
    rw [e0]
    show scrimref9_Keys.l4 (k + 1) _ _ _ _ _ = _
    rw [scrimref9_Keys.l4, if_neg (by rw [decide_eq_true_eq, il_length]; omega)]
    simp only [ev, od, sd, List.append_nil, List.reverse_nil, List.nil_append]
  | succ n ih =>
    intro E O S i k h hiM hE hO hS hk
    obtain ⟨a, b, c, d, e, f, g, t, r, eD, hr⟩ := eight h
    have hD : ∀ x ∈ a :: b :: c :: d :: e :: f :: g :: t :: r, x < 256 := fun x hx => hM x (List.mem_of_mem_drop (by rw [eD]; exact hx))
    have ha := hD a (by simp); have hb := hD b (by simp); have hc := hD c (by simp); have hd := hD d (by simp)
    have he := hD e (by simp); have hf := hD f (by simp); have hg := hD g (by simp); have ht := hD t (by simp)
    have hL : M.length = i + 8 * (n + 1) := by rw [List.length_drop] at h; omega
    have s4 : I64 ((i : Int) + 4) = ((i + 4 : Nat) : Int) := I64_nat (n := i + 4) (by omega)
    have s8 : I64 ((i : Int) + 8) = ((i + 8 : Nat) : Int) := I64_nat (n := i + 8) (by omega)
    have d4 : M.drop (i + 4) = e :: f :: g :: t :: r := by rw [← List.drop_drop, eD]; rfl
    have d8 : M.drop (i + 8) = r := by rw [← List.drop_drop, eD]; rfl
    have e0 : ((il M).take (((i + 4 : Nat) : Int)).toNat).drop ((i : Int)).toNat = il [a, b, c, d] := by rw [Int.toNat_natCast, Int.toNat_natCast, dt, eD]; rfl
    have e1 : ((il M).take (((i + 8 : Nat) : Int)).toNat).drop (((i + 4 : Nat) : Int)).toNat = il [e, f, g, t] := by
      rw [Int.toNat_natCast, Int.toNat_natCast, show i + 8 = i + 4 + 4 from rfl, dt, d4]; rfl
    have e2 : ((il M).take (((i + 8 : Nat) : Int)).toNat).drop ((i : Int)).toNat = il [a, b, c, d, e, f, g, t] := by rw [Int.toNat_natCast, Int.toNat_natCast, dt, eD]; rfl
    have l0 := rlittle (k := k + n + 1) ha hb hc hd (by omega)
    have l1 := rlittle (k := k + n + 1) he hf hg ht (by omega)
    have l2 := told_eq (m := [a, b, c, d, e, f, g, t]) (k := k + n + 1) ⟨rfl, by intro v hv; simp at hv; omega⟩ (by omega)
    have w0 : U32 ((bigN [d, c, b, a] : Nat) : Int) = ((bigN [d, c, b, a] : Nat) : Int) := by rw [U32_nat, Nat.mod_eq_of_lt (bg4_lt hd hc hb ha)]
    have w1 : U32 ((bigN [t, g, f, e] : Nat) : Int) = ((bigN [t, g, f, e] : Nat) : Int) := by rw [U32_nat, Nat.mod_eq_of_lt (bg4_lt ht hg hf he)]
    have ci : decide ((i : Int) < ((il M).length : Int)) = true := by rw [decide_eq_true_eq, il_length]; omega
    have c0 : ∀ z : Nat, decide (0 ≤ (z : Int)) = true := fun z => by rw [decide_eq_true_eq]; omega
    have c1 : ∀ y z : Nat, y ≤ z → decide ((y : Int) ≤ (z : Int)) = true := fun y z hz => by rw [decide_eq_true_eq]; omega
    have cx : ∀ (v : Int) (X : List Nat), X.length + (n + 1) < 1000 → decide ((il X).length + [v].length ≤ 1000000000) = true := fun v X hX => by
      rw [decide_eq_true_eq, il_length]; simp only [List.length_cons, List.length_nil]; omega
    have cy : ∀ (v : Int) (X : List Nat), X.length + (n + 1) < 1000 → decide ([v].length + (il X).length ≤ 1000000000) = true := fun v X hX => by
      rw [decide_eq_true_eq, il_length]; simp only [List.length_cons, List.length_nil]; omega
    have ih' := ih (E := E ++ [bigN [d, c, b, a]]) (O := O ++ [bigN [t, g, f, e]]) (S := fd [a, b, c, d, e, f, g, t] :: S) (i := i + 8) (k := k) (by rw [d8]; exact hr) (by omega) (by simp; omega) (by simp; omega) (by simp; omega) hk
    rw [il_append, il_append] at ih'
    show scrimref9_Keys.l4 (k + n + 1 + 1) _ _ _ _ _ = _
    have i4 : ((i + 4 : Nat) : Int) ≤ ((il M).length : Int) := by rw [il_length]; omega
    have i8 : ((i + 8 : Nat) : Int) ≤ ((il M).length : Int) := by rw [il_length]; omega
    have k4 : decide (((i + 4 : Nat) : Int) ≤ ((il M).length : Int)) = true := by rw [decide_eq_true_eq]; exact i4
    have k8 : decide (((i + 8 : Nat) : Int) ≤ ((il M).length : Int)) = true := by rw [decide_eq_true_eq]; exact i8
    rw [scrimref9_Keys.l4, if_pos ci, if_pos (c0 _), s4, s8, if_pos (c1 _ _ (by omega)), if_pos k4, e0, l0, Option.bind_some, w0, if_pos (cx _ _ hE), if_pos (c0 _), if_pos (c1 _ _ (by omega)), if_pos k8, e1, l1, Option.bind_some, w1, if_pos (cx _ _ hO), if_pos (c0 _), if_pos (c1 _ _ (by omega)), if_pos k8, e2, l2, Option.bind_some, if_pos (cy _ _ hS)]
    refine Eq.trans ih' ?_
    rw [d8, eD]
    simp only [ev, od, sd, List.append_assoc, List.cons_append, List.nil_append, List.reverse_cons]
theorem rk5 {E O : List Nat} (hE : 2 ≤ E.length ∧ E.length ≤ 4) (hO : 2 ≤ O.length ∧ O.length ≤ 4) {S : List Nat} (d : Nat) : ∀ {i k : Nat} {K : List Nat}, i + d = 20 → K.length = 2 * i → 220 ≤ k →
    scrimref9_Keys.l5 (k + d + 1) (il E) (il O) (il S) (il K) (i : Int) = some (il (K ++ ks E O i d), il S, 0) := by
  induction d with
  | zero =>
    intro i k K hi hK hk
    have : i = 20 := by omega
    subst this
    show scrimref9_Keys.l5 (k + 1) _ _ _ _ _ = _
    rw [scrimref9_Keys.l5, if_neg (by decide)]
    simp only [ks, List.append_nil]
  | succ d ih =>
    intro i k K hi hK hk
    have hi19 : i < 20 := by omega
    have y0 : I64 (2 * (i : Int)) = ((2 * i : Nat) : Int) := I64_nat (n := 2 * i) (by omega)
    have y1 : I64 (((2 * i : Nat) : Int) + 1) = ((2 * i + 1 : Nat) : Int) := I64_nat (n := 2 * i + 1) (by omega)
    have x0 : U32 ((U32 ((2 * i : Nat) : Int)) * 16843009) = ((2 * i * 16843009 : Nat) : Int) := by
      have : U32 ((2 * i : Nat) : Int) = ((2 * i : Nat) : Int) := by rw [U32_emod]; omega
      rw [this, U32_emod]; omega
    have x1 : U32 ((U32 ((2 * i + 1 : Nat) : Int)) * 16843009) = (((2 * i + 1) * 16843009 : Nat) : Int) := by
      have h2 : U32 ((2 * i + 1 : Nat) : Int) = ((2 * i + 1 : Nat) : Int) := by rw [U32_emod]; omega
      rw [h2, U32_emod]; omega
    have x2 : I64 ((i : Int) + 1) = ((i + 1 : Nat) : Int) := I64_nat (n := i + 1) (by omega)
    have h0 := rh_eq hE.1 hE.2 (x := 2 * i * 16843009) (k := k + d + 1) (by omega)
    have h1 := rh_eq hO.1 hO.2 (x := (2 * i + 1) * 16843009) (k := k + d + 1) (by omega)
    have r0 := rrol32_eq (k := k + d + 1) (hN_lt O ((2 * i + 1) * 16843009)) 8
    have r1 := rrol32_eq (k := k + d + 1) (wa_lt (ka E i) (wa (kb O i) (kb O i))) 9
    have c1 : ∀ u v : Int, decide ((il K).length + [u, v].length ≤ 1000000000) = true := fun u v => by
      rw [decide_eq_true_eq, il_length, hK]; simp only [List.length_cons, List.length_nil]; omega
    have e1 : il K ++ [U32 ((ka E i : Int) + (kb O i : Int)), ((kc E O i : Nat) : Int)] = il (K ++ ks E O i 1) := by
      rw [il_append, U32_add]; rfl
    show scrimref9_Keys.l5 (k + d + 1 + 1) _ _ _ _ _ = _
    rw [scrimref9_Keys.l5, if_pos (by rw [decide_eq_true_eq]; omega), y0, y1, x0, h0, Option.bind_some, x1, Option.bind_some, h1, Option.bind_some, r0, Option.bind_some]
    show (scrimref1_Rol32.f (k + d + 1) (U32 ((ka E i : Int) + (U32 (2 * (kb O i : Int))))) 9).bind _ = _
    rw [U32_two, U32_add, r1, Option.bind_some, if_pos (c1 _ _), x2]
    show scrimref9_Keys.l5 (k + d + 1) (il E) (il O) (il S) (il K ++ [U32 ((ka E i : Int) + (kb O i : Int)), ((kc E O i : Nat) : Int)]) ((i + 1 : Nat) : Int) = _
    rw [e1, ih (by omega) (by rw [List.length_append, ks_length, hK]; omega) hk]
    simp only [ks, List.append_assoc, List.cons_append, List.nil_append]
theorem rkeys_l0 {m : List Nat} {n : Nat} (h : m.length = 8 * n) (hn : n = 2 ∨ n = 3 ∨ n = 4) (hm : ∀ x ∈ m, x < 256) {k : Nat} (hk : 300 ≤ k) :
    scrimref9_Keys.l0 k (il m) ([] : List Int) ([] : List Int) ([] : List Int) 0 = some (il (ks (ev m) (od m) 0 20), il (sd m).reverse, 0) := by
  obtain ⟨k, rfl⟩ : ∃ j, k = j + 21 + n + 1 := ⟨k - 21 - n - 1, by omega⟩
  obtain ⟨l1, l2, l3⟩ := esd_len n m h
  have e := rk0 hm (by omega) (E := []) (O := []) (S := []) (i := 0) (n := n) (k := k + 21) (by rw [List.drop_zero]; exact h) (by omega) (by simp; omega) (by simp; omega) (by simp; omega) (by omega)
  refine Eq.trans e ?_
  simp only [List.nil_append, List.append_nil, List.drop_zero]
  have f := rk1 (E := ev m) (O := od m) (by omega) (by omega) (S := (sd m).reverse) 20 (i := 0) (k := k) (K := []) (by omega) rfl (by omega)
  exact f
theorem rkeys_l2 {m : List Nat} {n : Nat} (h : m.length = 8 * n) (hn : n = 2 ∨ n = 3 ∨ n = 4) (hm : ∀ x ∈ m, x < 256) {k : Nat} (hk : 300 ≤ k) :
    scrimref9_Keys.l2 k (il m) ([] : List Int) ([] : List Int) ([] : List Int) 0 = some (il (ks (ev m) (od m) 0 20), il (sd m).reverse, 0) := by
  obtain ⟨k, rfl⟩ : ∃ j, k = j + 21 + n + 1 := ⟨k - 21 - n - 1, by omega⟩
  obtain ⟨l1, l2, l3⟩ := esd_len n m h
  have e := rk2 hm (by omega) (E := []) (O := []) (S := []) (i := 0) (n := n) (k := k + 21) (by rw [List.drop_zero]; exact h) (by omega) (by simp; omega) (by simp; omega) (by simp; omega) (by omega)
  refine Eq.trans e ?_
  simp only [List.nil_append, List.append_nil, List.drop_zero]
  have f := rk3 (E := ev m) (O := od m) (by omega) (by omega) (S := (sd m).reverse) 20 (i := 0) (k := k) (K := []) (by omega) rfl (by omega)
  exact f
theorem rkeys_l4 {m : List Nat} {n : Nat} (h : m.length = 8 * n) (hn : n = 2 ∨ n = 3 ∨ n = 4) (hm : ∀ x ∈ m, x < 256) {k : Nat} (hk : 300 ≤ k) :
    scrimref9_Keys.l4 k (il m) ([] : List Int) ([] : List Int) ([] : List Int) 0 = some (il (ks (ev m) (od m) 0 20), il (sd m).reverse, 0) := by
  obtain ⟨k, rfl⟩ : ∃ j, k = j + 21 + n + 1 := ⟨k - 21 - n - 1, by omega⟩
  obtain ⟨l1, l2, l3⟩ := esd_len n m h
  have e := rk4 hm (by omega) (E := []) (O := []) (S := []) (i := 0) (n := n) (k := k + 21) (by rw [List.drop_zero]; exact h) (by omega) (by simp; omega) (by simp; omega) (by simp; omega) (by omega)
  refine Eq.trans e ?_
  simp only [List.nil_append, List.append_nil, List.drop_zero]
  have f := rk5 (E := ev m) (O := od m) (by omega) (by omega) (S := (sd m).reverse) 20 (i := 0) (k := k) (K := []) (by omega) rfl (by omega)
  exact f
theorem rkeys_eq {m : List Nat} {n : Nat} (h : m.length = 8 * n) (hn : n = 2 ∨ n = 3 ∨ n = 4) (hm : ∀ x ∈ m, x < 256) {k : Nat} (hk : 300 ≤ k) :
    scrimref9_Keys.f k (il m) = some (il (ks (ev m) (od m) 0 20), il (sd m).reverse, 0) := by
  unfold scrimref9_Keys.f
  rw [il_length, h]
  rcases hn with rfl | rfl | rfl
  · rw [if_neg (by decide)]; exact rkeys_l4 h (by omega) hm hk
  · rw [if_pos (by decide), if_neg (by decide)]; exact rkeys_l2 h (by omega) hm hk
  · rw [if_pos (by decide), if_pos (by decide), if_neg (by decide)]; exact rkeys_l0 h (by omega) hm hk
theorem rkeys_no {m : List Int} (h : m.length ≠ 16) (h1 : m.length ≠ 24) (h2 : m.length ≠ 32) {k : Nat} : scrimref9_Keys.f k m = some ([], [], 4) := by
  unfold scrimref9_Keys.f
  rw [if_pos (by simp; omega), if_pos (by simp; omega), if_pos (by simp; omega)]
end Go.Scr.S
