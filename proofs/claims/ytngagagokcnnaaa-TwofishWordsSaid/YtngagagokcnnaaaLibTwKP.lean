/- The plain law of TwKP. -/
import Derived.Test.YtngagagokcnnaaaFnTwofishWords
import Derived.Test.YtngagagokcnnaaaLibNum
import Derived.Test.YtngagagokcnnaaaLibGf
import Derived.Test.YtngagagokcnnaaaLibFieldMu0
import Derived.Test.YtngagagokcnnaaaLibIl
import Derived.Test.YtngagagokcnnaaaLibGLoad
import Derived.Test.YtngagagokcnnaaaLibFill
import Derived.Test.YtngagagokcnnaaaLibGIl
import Derived.Test.YtngagagokcnnaaaLibGStore
import Derived.Test.YtngagagokcnnaaaLibGXor
import Derived.Test.YtngagagokcnnaaaLibTwQ
import Derived.Test.YtngagagokcnnaaaLibTwH
import Derived.Test.YtngagagokcnnaaaLibTwM
import Derived.Test.YtngagagokcnnaaaLibTwF
import Derived.Test.YtngagagokcnnaaaLibGRest
import Derived.Test.YtngagagokcnnaaaLibGRol
import Derived.Test.YtngagagokcnnaaaLibSmNum
set_option linter.unusedVariables false
set_option linter.unusedSimpArgs false
set_option linter.unnecessarySimpa false
namespace Go.Scr.S
/-- A key's words with even numbers, with odd ones, and those of its tables. -/
def ev : List Nat → List Nat
  | a :: b :: c :: d :: _ :: _ :: _ :: _ :: r => bigN [d, c, b, a] :: ev r
  | _ => []
def od : List Nat → List Nat
  | _ :: _ :: _ :: _ :: a :: b :: c :: d :: r => bigN [d, c, b, a] :: od r
  | _ => []
def sd : List Nat → List Nat
  | a :: b :: c :: d :: e :: f :: g :: h :: r => fd [a, b, c, d, e, f, g, h] :: sd r
  | _ => []
theorem eight {l : List Nat} {n : Nat} (h : l.length = 8 * (n + 1)) : ∃ a b c d e f g i r, l = a :: b :: c :: d :: e :: f :: g :: i :: r ∧ r.length = 8 * n := by
  match l, h with
  | a :: b :: c :: d :: e :: f :: g :: i :: r, h => exact ⟨a, b, c, d, e, f, g, i, r, rfl, by simp only [List.length_cons] at h; omega⟩
  | [], h => simp only [List.length_cons, List.length_nil] at h; omega
  | [_], h => simp only [List.length_cons, List.length_nil] at h; omega
  | [_, _], h => simp only [List.length_cons, List.length_nil] at h; omega
  | [_, _, _], h => simp only [List.length_cons, List.length_nil] at h; omega
  | [_, _, _, _], h => simp only [List.length_cons, List.length_nil] at h; omega
  | [_, _, _, _, _], h => simp only [List.length_cons, List.length_nil] at h; omega
  | [_, _, _, _, _, _], h => simp only [List.length_cons, List.length_nil] at h; omega
  | [_, _, _, _, _, _, _], h => simp only [List.length_cons, List.length_nil] at h; omega
theorem bg4_lt {x y z w : Nat} (hx : x < 256) (hy : y < 256) (hz : z < 256) (hw : w < 256) : bigN [x, y, z, w] < 4294967296 := by
  simp only [bigN, List.foldl]; omega
theorem esd_len : ∀ (n : Nat) (l : List Nat), l.length = 8 * n → (ev l).length = n ∧ (od l).length = n ∧ (sd l).length = n
  | 0, l, h => by have : l = [] := List.eq_nil_of_length_eq_zero (by omega); subst this; exact ⟨rfl, rfl, rfl⟩
  | n + 1, l, h => by
    obtain ⟨a, b, c, d, e, f, g, i, r, rfl, hr⟩ := eight h
    obtain ⟨h1, h2, h3⟩ := esd_len n r hr
    simp only [ev, od, sd, List.length_cons, h1, h2, h3]; exact ⟨trivial, trivial, trivial⟩
theorem esd_lt : ∀ (n : Nat) (l : List Nat), l.length = 8 * n → (∀ x ∈ l, x < 256) → (∀ x ∈ ev l, x < 4294967296) ∧ (∀ x ∈ od l, x < 4294967296) ∧ (∀ x ∈ sd l, x < 4294967296)
  | 0, l, h, _ => by have : l = [] := List.eq_nil_of_length_eq_zero (by omega); subst this; simp [ev, od, sd]
  | n + 1, l, h, hl => by
    obtain ⟨a, b, c, d, e, f, g, i, r, rfl, hr⟩ := eight h
    obtain ⟨h1, h2, h3⟩ := esd_lt n r hr (fun x hx => hl x (by simp [hx]))
    have ha := hl a (by simp); have hb := hl b (by simp); have hc := hl c (by simp); have hd := hl d (by simp)
    have he := hl e (by simp); have hf := hl f (by simp); have hg := hl g (by simp); have hi := hl i (by simp)
    refine ⟨?_, ?_, ?_⟩
    · intro v hv
      rcases List.mem_cons.1 hv with rfl | hv
      · exact bg4_lt hd hc hb ha
      · exact h1 v hv
    · intro v hv
      rcases List.mem_cons.1 hv with rfl | hv
      · exact bg4_lt hi hg hf he
      · exact h2 v hv
    · intro v hv
      rcases List.mem_cons.1 hv with rfl | hv
      · exact fd_lt _
      · exact h3 v hv
/-- The two words of a number. -/
def ka (E : List Nat) (i : Nat) : Nat := hN E (2 * i * 16843009)
def kb (O : List Nat) (i : Nat) : Nat := rolN (hN O ((2 * i + 1) * 16843009)) 8
def kc (E O : List Nat) (i : Nat) : Nat := rolN (wa (ka E i) (wa (kb O i) (kb O i))) 9
def ks (E O : List Nat) : Nat → Nat → List Nat
  | _, 0 => []
  | i, d + 1 => wa (ka E i) (kb O i) :: kc E O i :: ks E O (i + 1) d
theorem hN_lt (W : List Nat) (x : Nat) : hN W x < 4294967296 := by
  have h := bigN_lt (mds (stg W (min W.length 4) (wb x))).reverse (fun x hx => (mds_ok _).2 x (by simpa using hx))
  rw [List.length_reverse, (mds_ok _).1] at h
  exact h
theorem ka_lt (E : List Nat) (i : Nat) : ka E i < 4294967296 := hN_lt _ _
theorem kb_lt (O : List Nat) (i : Nat) : kb O i < 4294967296 := rolN_lt (hN_lt _ _)
theorem kc_lt (E O : List Nat) (i : Nat) : kc E O i < 4294967296 := rolN_lt (wa_lt _ _)
theorem ks_length (E O : List Nat) : ∀ d i, (ks E O i d).length = 2 * d
  | 0, _ => rfl
  | d + 1, i => by simp only [ks, List.length_cons, ks_length E O d]; omega
theorem ks_lt (E O : List Nat) : ∀ d i, ∀ x ∈ ks E O i d, x < 4294967296
  | 0, _ => by simp [ks]
  | d + 1, i => by
    intro x hx
    rcases List.mem_cons.1 hx with rfl | hx
    · exact wa_lt _ _
    rcases List.mem_cons.1 hx with rfl | hx
    · exact kc_lt _ _ _
    · exact ks_lt E O d _ x hx
theorem U32_two (x : Nat) : U32 (2 * (x : Int)) = ((wa x x : Nat) : Int) := by
  rw [show 2 * (x : Int) = ((x : Int) + (x : Int)) by omega, U32_add]
theorem rev_eq {S : List Nat} (h : S.length = 2 ∨ S.length = 3 ∨ S.length = 4) {k : Nat} (hk : 20 ≤ k) : slices_Reverse_uint32_uint32.f k (il S) = some (il S.reverse) := by
  obtain ⟨k, rfl⟩ : ∃ j, k = j + 20 := ⟨k - 20, by omega⟩
  match S, h with
  | [a, b], _ =>
    show slices_Reverse_uint32_uint32.f (k + 20) [(a : Int), (b : Int)] = some [(b : Int), (a : Int)]
    kernel_rfl
  | [a, b, c], _ =>
    show slices_Reverse_uint32_uint32.f (k + 20) [(a : Int), (b : Int), (c : Int)] = some [(c : Int), (b : Int), (a : Int)]
    kernel_rfl
  | [a, b, c, d], _ =>
    show slices_Reverse_uint32_uint32.f (k + 20) [(a : Int), (b : Int), (c : Int), (d : Int)] = some [(d : Int), (c : Int), (b : Int), (a : Int)]
    kernel_rfl
  | [], h => simp at h
  | [_], h => simp at h
  | _ :: _ :: _ :: _ :: _ :: _, h => simp at h
theorem cln_eq {S : List Nat} (h : S.length ≤ 100) {k : Nat} : slices_Clone_uint32_uint32.f k (il S) = some (il S) := by
  unfold slices_Clone_uint32_uint32.f
  rw [if_pos (by rw [decide_eq_true_eq, il_length, List.length_nil]; omega), List.nil_append]
theorem ele4 {a b c d k : Nat} (ha : a < 256) (hb : b < 256) (hc : c < 256) (hd : d < 256) (hk : 20 ≤ k) : words_Le32.f k (il [a, b, c, d]) = some (((bigN [d, c, b, a] : Nat) : Int), true) :=
  le4 (x := [a, b, c, d]) ⟨rfl, by intro v hv; simp at hv; omega⟩ (by omega)
theorem p0 {n : Nat} : ∀ {m E O S : List Nat} {k : Nat}, m.length = 8 * n → (∀ x ∈ m, x < 256) → E.length + n < 1000 → O.length + n < 1000 → S.length + n < 1000 → 120 ≤ k →
    twofish_Keys.l0 (k + n + 1) (il S) (il E) (il O) (il m) = (slices_Reverse_uint32_uint32.f k (il (S ++ sd m))).bind fun t => twofish_Keys.l1 k (il (E ++ ev m)) (il (O ++ od m)) ([] : List Int) t 0 := by
  induction n with
  | zero =>
    intro m E O S k h hm hE hO hS hk
    have : m = [] := List.eq_nil_of_length_eq_zero (by omega)
    subst this
    show twofish_Keys.l0 (k + 1) _ _ _ _ = _
    rw [twofish_Keys.l0, if_neg (by decide)]
    simp only [ev, od, sd, List.append_nil]
  | succ n ih =>
    intro m E O S k h hm hE hO hS hk
    obtain ⟨a, b, c, d, e, f, g, i, r, rfl, hr⟩ := eight h
    have ha := hm a (by simp); have hb := hm b (by simp); have hc := hm c (by simp); have hd := hm d (by simp)
    have he := hm e (by simp); have hf := hm f (by simp); have hg := hm g (by simp); have hi := hm i (by simp)
    obtain ⟨M, eM⟩ : ∃ M, M = a :: b :: c :: d :: e :: f :: g :: i :: r := ⟨_, rfl⟩
    have hl : (il M).length = 8 * (n + 1) := by rw [il_length, eM]; exact h
    have e0 : ((il M).take (4 : Int).toNat).drop (0 : Int).toNat = il [a, b, c, d] := by rw [eM]; rfl
    have e1 : ((il M).take (8 : Int).toNat).drop (4 : Int).toNat = il [e, f, g, i] := by rw [eM]; rfl
    have e2 : ((il M).take (8 : Int).toNat).drop (0 : Int).toNat = il [a, b, c, d, e, f, g, i] := by rw [eM]; rfl
    have e3 : ((il M).take (((il M).length : Int) : Int).toNat).drop (8 : Int).toNat = il r := by
      rw [Int.toNat_natCast, List.take_length, eM]; rfl
    have l0 := ele4 (k := k + n + 1) ha hb hc hd (by omega)
    have l1 := ele4 (k := k + n + 1) he hf hg hi (by omega)
    have l2 := folded_eq (m := [a, b, c, d, e, f, g, i]) (k := k + n + 1) ⟨rfl, by intro v hv; simp at hv; omega⟩ (by omega)
    have c0 : decide (((il M).length : Int) > 0) = true := by rw [decide_eq_true_eq]; omega
    have c4 : decide (4 ≤ ((il M).length : Int)) = true := by rw [decide_eq_true_eq]; omega
    have c8 : decide (8 ≤ ((il M).length : Int)) = true := by rw [decide_eq_true_eq]; omega
    have cx : ∀ (v : Int) (X : List Nat), X.length + (n + 1) < 1000 → decide ((il X).length + [v].length ≤ 1000000000) = true := fun v X hX => by
      rw [decide_eq_true_eq, il_length]; simp only [List.length_cons, List.length_nil]; omega
    have ih' := ih (m := r) (E := E ++ [bigN [d, c, b, a]]) (O := O ++ [bigN [i, g, f, e]]) (S := S ++ [fd [a, b, c, d, e, f, g, i]]) (k := k) hr (fun x hx => hm x (by simp [hx])) (by simp; omega) (by simp; omega) (by simp; omega) hk
    rw [il_append, il_append, il_append] at ih'
    rw [← eM]
    show twofish_Keys.l0 (k + n + 1 + 1) _ _ _ _ = _
    rw [twofish_Keys.l0, if_pos c0, if_pos (by decide), if_pos c4, e0, l0, Option.bind_some, if_pos (by decide), if_pos c8, e1, l1, Option.bind_some, if_pos (by decide), if_pos c8, if_pos (cx _ _ hE), if_pos (cx _ _ hO), e2, l2, Option.bind_some, if_pos (cx _ _ hS), if_pos c8, e3]
    refine Eq.trans ih' ?_
    rw [eM]
    simp only [ev, od, sd, List.append_assoc, List.cons_append, List.nil_append]
theorem p1 {E O : List Nat} (hE : ∀ v ∈ E, v < 4294967296) (hO : ∀ v ∈ O, v < 4294967296) {S : List Nat} (hS : S.length ≤ 100) (d : Nat) : ∀ {i k : Nat} {K : List Nat}, i + d = 19 → K.length = 2 * i → 220 ≤ k →
    twofish_Keys.l1 (k + d + 1) (il E) (il O) (il K) (il S) (i : Int) = some (il (K ++ ks E O i (d + 1)), il S, 0) := by
  induction d with
  | zero =>
    intro i k K hi hK hk
    have : i = 19 := by omega
    subst this
    have x0 : U32 ((U32 (2 * ((19 : Nat) : Int))) * 16843009) = ((2 * 19 * 16843009 : Nat) : Int) := by decide
    have x1 : U32 ((U32 ((U32 (2 * ((19 : Nat) : Int))) + 1)) * 16843009) = (((2 * 19 + 1) * 16843009 : Nat) : Int) := by decide
    have h0 := h_eq hE (x := 2 * 19 * 16843009) (k := k) (by decide) (by omega)
    have h1 := h_eq hO (x := (2 * 19 + 1) * 16843009) (k := k) (by decide) (by omega)
    have r0 := rol32_eq (k := k) (hN_lt O ((2 * 19 + 1) * 16843009)) 8
    have r1 := rol32_eq (k := k) (wa_lt (ka E 19) (wa (kb O 19) (kb O 19))) 9
    have c1 : ∀ u v : Int, decide ((il K).length + [u, v].length ≤ 1000000000) = true := fun u v => by
      rw [decide_eq_true_eq, il_length, hK]; simp only [List.length_cons, List.length_nil]; omega
    have e1 : il K ++ [U32 ((ka E 19 : Int) + (kb O 19 : Int)), ((kc E O 19 : Nat) : Int)] = il (K ++ ks E O 19 1) := by
      rw [il_append, U32_add]; rfl
    show twofish_Keys.l1 (k + 1) _ _ _ _ _ = _
    rw [twofish_Keys.l1, x0, h0, Option.bind_some, x1, Option.bind_some, h1, Option.bind_some, r0, Option.bind_some]
    show (words_Rol32.f k (U32 ((ka E 19 : Int) + (U32 (2 * (kb O 19 : Int))))) 9).bind _ = _
    rw [U32_two, U32_add, r1, Option.bind_some, if_pos (c1 _ _), if_neg (by decide)]
    show (slices_Clone_uint32_uint32.f k (il K ++ [U32 ((ka E 19 : Int) + (kb O 19 : Int)), ((kc E O 19 : Nat) : Int)])).bind _ = _
    rw [e1, cln_eq (by rw [List.length_append, ks_length, hK]; decide), Option.bind_some, cln_eq hS, Option.bind_some]
  | succ d ih =>
    intro i k K hi hK hk
    have hi19 : i < 19 := by omega
    have x0 : U32 ((U32 (2 * (i : Int))) * 16843009) = ((2 * i * 16843009 : Nat) : Int) := by
      have : U32 (2 * (i : Int)) = ((2 * i : Nat) : Int) := by rw [U32_emod]; omega
      rw [this, U32_emod]; omega
    have x1 : U32 ((U32 ((U32 (2 * (i : Int))) + 1)) * 16843009) = (((2 * i + 1) * 16843009 : Nat) : Int) := by
      have : U32 (2 * (i : Int)) = ((2 * i : Nat) : Int) := by rw [U32_emod]; omega
      have h2 : U32 (((2 * i : Nat) : Int) + 1) = ((2 * i + 1 : Nat) : Int) := by rw [U32_emod]; omega
      rw [this, h2, U32_emod]; omega
    have x2 : U32 ((i : Int) + 1) = ((i + 1 : Nat) : Int) := by rw [U32_emod]; omega
    have h0 := h_eq hE (x := 2 * i * 16843009) (k := k + d + 1) (by omega) (by omega)
    have h1 := h_eq hO (x := (2 * i + 1) * 16843009) (k := k + d + 1) (by omega) (by omega)
    have r0 := rol32_eq (k := k + d + 1) (hN_lt O ((2 * i + 1) * 16843009)) 8
    have r1 := rol32_eq (k := k + d + 1) (wa_lt (ka E i) (wa (kb O i) (kb O i))) 9
    have c1 : ∀ u v : Int, decide ((il K).length + [u, v].length ≤ 1000000000) = true := fun u v => by
      rw [decide_eq_true_eq, il_length, hK]; simp only [List.length_cons, List.length_nil]; omega
    have e1 : il K ++ [U32 ((ka E i : Int) + (kb O i : Int)), ((kc E O i : Nat) : Int)] = il (K ++ ks E O i 1) := by
      rw [il_append, U32_add]; rfl
    show twofish_Keys.l1 (k + d + 1 + 1) _ _ _ _ _ = _
    rw [twofish_Keys.l1, x0, h0, Option.bind_some, x1, Option.bind_some, h1, Option.bind_some, r0, Option.bind_some]
    show (words_Rol32.f (k + d + 1) (U32 ((ka E i : Int) + (U32 (2 * (kb O i : Int))))) 9).bind _ = _
    rw [U32_two, U32_add, r1, Option.bind_some, if_pos (c1 _ _), x2, if_pos (by rw [decide_eq_true_eq]; omega)]
    show twofish_Keys.l1 (k + d + 1) (il E) (il O) (il K ++ [U32 ((ka E i : Int) + (kb O i : Int)), ((kc E O i : Nat) : Int)]) (il S) ((i + 1 : Nat) : Int) = _
    rw [e1, ih (by omega) (by rw [List.length_append, ks_length, hK]; omega) hk]
    simp only [ks, List.append_assoc, List.cons_append, List.nil_append]
theorem p2 {n : Nat} : ∀ {m E O S : List Nat} {k : Nat}, m.length = 8 * n → (∀ x ∈ m, x < 256) → E.length + n < 1000 → O.length + n < 1000 → S.length + n < 1000 → 120 ≤ k →
    twofish_Keys.l2 (k + n + 1) (il S) (il E) (il O) (il m) = (slices_Reverse_uint32_uint32.f k (il (S ++ sd m))).bind fun t => twofish_Keys.l3 k (il (E ++ ev m)) (il (O ++ od m)) ([] : List Int) t 0 := by
  induction n with
  | zero =>
    intro m E O S k h hm hE hO hS hk
    have : m = [] := List.eq_nil_of_length_eq_zero (by omega)
    subst this
    show twofish_Keys.l2 (k + 1) _ _ _ _ = _
    rw [twofish_Keys.l2, if_neg (by decide)]
    simp only [ev, od, sd, List.append_nil]
  | succ n ih =>
    intro m E O S k h hm hE hO hS hk
    obtain ⟨a, b, c, d, e, f, g, i, r, rfl, hr⟩ := eight h
    have ha := hm a (by simp); have hb := hm b (by simp); have hc := hm c (by simp); have hd := hm d (by simp)
    have he := hm e (by simp); have hf := hm f (by simp); have hg := hm g (by simp); have hi := hm i (by simp)
    obtain ⟨M, eM⟩ : ∃ M, M = a :: b :: c :: d :: e :: f :: g :: i :: r := ⟨_, rfl⟩
    have hl : (il M).length = 8 * (n + 1) := by rw [il_length, eM]; exact h
    have e0 : ((il M).take (4 : Int).toNat).drop (0 : Int).toNat = il [a, b, c, d] := by rw [eM]; rfl
    have e1 : ((il M).take (8 : Int).toNat).drop (4 : Int).toNat = il [e, f, g, i] := by rw [eM]; rfl
    have e2 : ((il M).take (8 : Int).toNat).drop (0 : Int).toNat = il [a, b, c, d, e, f, g, i] := by rw [eM]; rfl
    have e3 : ((il M).take (((il M).length : Int) : Int).toNat).drop (8 : Int).toNat = il r := by
      rw [Int.toNat_natCast, List.take_length, eM]; rfl
    have l0 := ele4 (k := k + n + 1) ha hb hc hd (by omega)
    have l1 := ele4 (k := k + n + 1) he hf hg hi (by omega)
    have l2 := folded_eq (m := [a, b, c, d, e, f, g, i]) (k := k + n + 1) ⟨rfl, by intro v hv; simp at hv; omega⟩ (by omega)
    have c0 : decide (((il M).length : Int) > 0) = true := by rw [decide_eq_true_eq]; omega
    have c4 : decide (4 ≤ ((il M).length : Int)) = true := by rw [decide_eq_true_eq]; omega
    have c8 : decide (8 ≤ ((il M).length : Int)) = true := by rw [decide_eq_true_eq]; omega
    have cx : ∀ (v : Int) (X : List Nat), X.length + (n + 1) < 1000 → decide ((il X).length + [v].length ≤ 1000000000) = true := fun v X hX => by
      rw [decide_eq_true_eq, il_length]; simp only [List.length_cons, List.length_nil]; omega
    have ih' := ih (m := r) (E := E ++ [bigN [d, c, b, a]]) (O := O ++ [bigN [i, g, f, e]]) (S := S ++ [fd [a, b, c, d, e, f, g, i]]) (k := k) hr (fun x hx => hm x (by simp [hx])) (by simp; omega) (by simp; omega) (by simp; omega) hk
    rw [il_append, il_append, il_append] at ih'
    rw [← eM]
    show twofish_Keys.l2 (k + n + 1 + 1) _ _ _ _ = _
    rw [twofish_Keys.l2, if_pos c0, if_pos (by decide), if_pos c4, e0, l0, Option.bind_some, if_pos (by decide), if_pos c8, e1, l1, Option.bind_some, if_pos (by decide), if_pos c8, if_pos (cx _ _ hE), if_pos (cx _ _ hO), e2, l2, Option.bind_some, if_pos (cx _ _ hS), if_pos c8, e3]
    refine Eq.trans ih' ?_
    rw [eM]
    simp only [ev, od, sd, List.append_assoc, List.cons_append, List.nil_append]
theorem p3 {E O : List Nat} (hE : ∀ v ∈ E, v < 4294967296) (hO : ∀ v ∈ O, v < 4294967296) {S : List Nat} (hS : S.length ≤ 100) (d : Nat) : ∀ {i k : Nat} {K : List Nat}, i + d = 19 → K.length = 2 * i → 220 ≤ k →
    twofish_Keys.l3 (k + d + 1) (il E) (il O) (il K) (il S) (i : Int) = some (il (K ++ ks E O i (d + 1)), il S, 0) := by
  induction d with
  | zero =>
    intro i k K hi hK hk
    have : i = 19 := by omega
    subst this
    have x0 : U32 ((U32 (2 * ((19 : Nat) : Int))) * 16843009) = ((2 * 19 * 16843009 : Nat) : Int) := by decide
    have x1 : U32 ((U32 ((U32 (2 * ((19 : Nat) : Int))) + 1)) * 16843009) = (((2 * 19 + 1) * 16843009 : Nat) : Int) := by decide
    have h0 := h_eq hE (x := 2 * 19 * 16843009) (k := k) (by decide) (by omega)
    have h1 := h_eq hO (x := (2 * 19 + 1) * 16843009) (k := k) (by decide) (by omega)
    have r0 := rol32_eq (k := k) (hN_lt O ((2 * 19 + 1) * 16843009)) 8
    have r1 := rol32_eq (k := k) (wa_lt (ka E 19) (wa (kb O 19) (kb O 19))) 9
    have c1 : ∀ u v : Int, decide ((il K).length + [u, v].length ≤ 1000000000) = true := fun u v => by
      rw [decide_eq_true_eq, il_length, hK]; simp only [List.length_cons, List.length_nil]; omega
    have e1 : il K ++ [U32 ((ka E 19 : Int) + (kb O 19 : Int)), ((kc E O 19 : Nat) : Int)] = il (K ++ ks E O 19 1) := by
      rw [il_append, U32_add]; rfl
    show twofish_Keys.l3 (k + 1) _ _ _ _ _ = _
    rw [twofish_Keys.l3, x0, h0, Option.bind_some, x1, Option.bind_some, h1, Option.bind_some, r0, Option.bind_some]
    show (words_Rol32.f k (U32 ((ka E 19 : Int) + (U32 (2 * (kb O 19 : Int))))) 9).bind _ = _
    rw [U32_two, U32_add, r1, Option.bind_some, if_pos (c1 _ _), if_neg (by decide)]
    show (slices_Clone_uint32_uint32.f k (il K ++ [U32 ((ka E 19 : Int) + (kb O 19 : Int)), ((kc E O 19 : Nat) : Int)])).bind _ = _
    rw [e1, cln_eq (by rw [List.length_append, ks_length, hK]; decide), Option.bind_some, cln_eq hS, Option.bind_some]
  | succ d ih =>
    intro i k K hi hK hk
    have hi19 : i < 19 := by omega
    have x0 : U32 ((U32 (2 * (i : Int))) * 16843009) = ((2 * i * 16843009 : Nat) : Int) := by
      have : U32 (2 * (i : Int)) = ((2 * i : Nat) : Int) := by rw [U32_emod]; omega
      rw [this, U32_emod]; omega
    have x1 : U32 ((U32 ((U32 (2 * (i : Int))) + 1)) * 16843009) = (((2 * i + 1) * 16843009 : Nat) : Int) := by
      have : U32 (2 * (i : Int)) = ((2 * i : Nat) : Int) := by rw [U32_emod]; omega
      have h2 : U32 (((2 * i : Nat) : Int) + 1) = ((2 * i + 1 : Nat) : Int) := by rw [U32_emod]; omega
      rw [this, h2, U32_emod]; omega
    have x2 : U32 ((i : Int) + 1) = ((i + 1 : Nat) : Int) := by rw [U32_emod]; omega
    have h0 := h_eq hE (x := 2 * i * 16843009) (k := k + d + 1) (by omega) (by omega)
    have h1 := h_eq hO (x := (2 * i + 1) * 16843009) (k := k + d + 1) (by omega) (by omega)
    have r0 := rol32_eq (k := k + d + 1) (hN_lt O ((2 * i + 1) * 16843009)) 8
    have r1 := rol32_eq (k := k + d + 1) (wa_lt (ka E i) (wa (kb O i) (kb O i))) 9
    have c1 : ∀ u v : Int, decide ((il K).length + [u, v].length ≤ 1000000000) = true := fun u v => by
      rw [decide_eq_true_eq, il_length, hK]; simp only [List.length_cons, List.length_nil]; omega
    have e1 : il K ++ [U32 ((ka E i : Int) + (kb O i : Int)), ((kc E O i : Nat) : Int)] = il (K ++ ks E O i 1) := by
      rw [il_append, U32_add]; rfl
    show twofish_Keys.l3 (k + d + 1 + 1) _ _ _ _ _ = _
    rw [twofish_Keys.l3, x0, h0, Option.bind_some, x1, Option.bind_some, h1, Option.bind_some, r0, Option.bind_some]
    show (words_Rol32.f (k + d + 1) (U32 ((ka E i : Int) + (U32 (2 * (kb O i : Int))))) 9).bind _ = _
    rw [U32_two, U32_add, r1, Option.bind_some, if_pos (c1 _ _), x2, if_pos (by rw [decide_eq_true_eq]; omega)]
    show twofish_Keys.l3 (k + d + 1) (il E) (il O) (il K ++ [U32 ((ka E i : Int) + (kb O i : Int)), ((kc E O i : Nat) : Int)]) (il S) ((i + 1 : Nat) : Int) = _
    rw [e1, ih (by omega) (by rw [List.length_append, ks_length, hK]; omega) hk]
    simp only [ks, List.append_assoc, List.cons_append, List.nil_append]
theorem p4 {n : Nat} : ∀ {m E O S : List Nat} {k : Nat}, m.length = 8 * n → (∀ x ∈ m, x < 256) → E.length + n < 1000 → O.length + n < 1000 → S.length + n < 1000 → 120 ≤ k →
    twofish_Keys.l4 (k + n + 1) (il S) (il E) (il O) (il m) = (slices_Reverse_uint32_uint32.f k (il (S ++ sd m))).bind fun t => twofish_Keys.l5 k (il (E ++ ev m)) (il (O ++ od m)) ([] : List Int) t 0 := by
  induction n with
  | zero =>
    intro m E O S k h hm hE hO hS hk
    have : m = [] := List.eq_nil_of_length_eq_zero (by omega)
    subst this
    show twofish_Keys.l4 (k + 1) _ _ _ _ = _
    rw [twofish_Keys.l4, if_neg (by decide)]
    simp only [ev, od, sd, List.append_nil]
  | succ n ih =>
    intro m E O S k h hm hE hO hS hk
    obtain ⟨a, b, c, d, e, f, g, i, r, rfl, hr⟩ := eight h
    have ha := hm a (by simp); have hb := hm b (by simp); have hc := hm c (by simp); have hd := hm d (by simp)
    have he := hm e (by simp); have hf := hm f (by simp); have hg := hm g (by simp); have hi := hm i (by simp)
    obtain ⟨M, eM⟩ : ∃ M, M = a :: b :: c :: d :: e :: f :: g :: i :: r := ⟨_, rfl⟩
    have hl : (il M).length = 8 * (n + 1) := by rw [il_length, eM]; exact h
    have e0 : ((il M).take (4 : Int).toNat).drop (0 : Int).toNat = il [a, b, c, d] := by rw [eM]; rfl
    have e1 : ((il M).take (8 : Int).toNat).drop (4 : Int).toNat = il [e, f, g, i] := by rw [eM]; rfl
    have e2 : ((il M).take (8 : Int).toNat).drop (0 : Int).toNat = il [a, b, c, d, e, f, g, i] := by rw [eM]; rfl
    have e3 : ((il M).take (((il M).length : Int) : Int).toNat).drop (8 : Int).toNat = il r := by
      rw [Int.toNat_natCast, List.take_length, eM]; rfl
    have l0 := ele4 (k := k + n + 1) ha hb hc hd (by omega)
    have l1 := ele4 (k := k + n + 1) he hf hg hi (by omega)
    have l2 := folded_eq (m := [a, b, c, d, e, f, g, i]) (k := k + n + 1) ⟨rfl, by intro v hv; simp at hv; omega⟩ (by omega)
    have c0 : decide (((il M).length : Int) > 0) = true := by rw [decide_eq_true_eq]; omega
    have c4 : decide (4 ≤ ((il M).length : Int)) = true := by rw [decide_eq_true_eq]; omega
    have c8 : decide (8 ≤ ((il M).length : Int)) = true := by rw [decide_eq_true_eq]; omega
    have cx : ∀ (v : Int) (X : List Nat), X.length + (n + 1) < 1000 → decide ((il X).length + [v].length ≤ 1000000000) = true := fun v X hX => by
      rw [decide_eq_true_eq, il_length]; simp only [List.length_cons, List.length_nil]; omega
    have ih' := ih (m := r) (E := E ++ [bigN [d, c, b, a]]) (O := O ++ [bigN [i, g, f, e]]) (S := S ++ [fd [a, b, c, d, e, f, g, i]]) (k := k) hr (fun x hx => hm x (by simp [hx])) (by simp; omega) (by simp; omega) (by simp; omega) hk
    rw [il_append, il_append, il_append] at ih'
    rw [← eM]
    show twofish_Keys.l4 (k + n + 1 + 1) _ _ _ _ = _
    rw [twofish_Keys.l4, if_pos c0, if_pos (by decide), if_pos c4, e0, l0, Option.bind_some, if_pos (by decide), if_pos c8, e1, l1, Option.bind_some, if_pos (by decide), if_pos c8, if_pos (cx _ _ hE), if_pos (cx _ _ hO), e2, l2, Option.bind_some, if_pos (cx _ _ hS), if_pos c8, e3]
    refine Eq.trans ih' ?_
    rw [eM]
    simp only [ev, od, sd, List.append_assoc, List.cons_append, List.nil_append]
theorem p5 {E O : List Nat} (hE : ∀ v ∈ E, v < 4294967296) (hO : ∀ v ∈ O, v < 4294967296) {S : List Nat} (hS : S.length ≤ 100) (d : Nat) : ∀ {i k : Nat} {K : List Nat}, i + d = 19 → K.length = 2 * i → 220 ≤ k →
    twofish_Keys.l5 (k + d + 1) (il E) (il O) (il K) (il S) (i : Int) = some (il (K ++ ks E O i (d + 1)), il S, 0) := by
  induction d with
  | zero =>
    intro i k K hi hK hk
    have : i = 19 := by omega
    subst this
    have x0 : U32 ((U32 (2 * ((19 : Nat) : Int))) * 16843009) = ((2 * 19 * 16843009 : Nat) : Int) := by decide
    have x1 : U32 ((U32 ((U32 (2 * ((19 : Nat) : Int))) + 1)) * 16843009) = (((2 * 19 + 1) * 16843009 : Nat) : Int) := by decide
    have h0 := h_eq hE (x := 2 * 19 * 16843009) (k := k) (by decide) (by omega)
    have h1 := h_eq hO (x := (2 * 19 + 1) * 16843009) (k := k) (by decide) (by omega)
    have r0 := rol32_eq (k := k) (hN_lt O ((2 * 19 + 1) * 16843009)) 8
    have r1 := rol32_eq (k := k) (wa_lt (ka E 19) (wa (kb O 19) (kb O 19))) 9
    have c1 : ∀ u v : Int, decide ((il K).length + [u, v].length ≤ 1000000000) = true := fun u v => by
      rw [decide_eq_true_eq, il_length, hK]; simp only [List.length_cons, List.length_nil]; omega
    have e1 : il K ++ [U32 ((ka E 19 : Int) + (kb O 19 : Int)), ((kc E O 19 : Nat) : Int)] = il (K ++ ks E O 19 1) := by
      rw [il_append, U32_add]; rfl
    show twofish_Keys.l5 (k + 1) _ _ _ _ _ = _
    rw [twofish_Keys.l5, x0, h0, Option.bind_some, x1, Option.bind_some, h1, Option.bind_some, r0, Option.bind_some]
    show (words_Rol32.f k (U32 ((ka E 19 : Int) + (U32 (2 * (kb O 19 : Int))))) 9).bind _ = _
    rw [U32_two, U32_add, r1, Option.bind_some, if_pos (c1 _ _), if_neg (by decide)]
    show (slices_Clone_uint32_uint32.f k (il K ++ [U32 ((ka E 19 : Int) + (kb O 19 : Int)), ((kc E O 19 : Nat) : Int)])).bind _ = _
    rw [e1, cln_eq (by rw [List.length_append, ks_length, hK]; decide), Option.bind_some, cln_eq hS, Option.bind_some]
  | succ d ih =>
    intro i k K hi hK hk
    have hi19 : i < 19 := by omega
    have x0 : U32 ((U32 (2 * (i : Int))) * 16843009) = ((2 * i * 16843009 : Nat) : Int) := by
      have : U32 (2 * (i : Int)) = ((2 * i : Nat) : Int) := by rw [U32_emod]; omega
      rw [this, U32_emod]; omega
    have x1 : U32 ((U32 ((U32 (2 * (i : Int))) + 1)) * 16843009) = (((2 * i + 1) * 16843009 : Nat) : Int) := by
      have : U32 (2 * (i : Int)) = ((2 * i : Nat) : Int) := by rw [U32_emod]; omega
      have h2 : U32 (((2 * i : Nat) : Int) + 1) = ((2 * i + 1 : Nat) : Int) := by rw [U32_emod]; omega
      rw [this, h2, U32_emod]; omega
    have x2 : U32 ((i : Int) + 1) = ((i + 1 : Nat) : Int) := by rw [U32_emod]; omega
    have h0 := h_eq hE (x := 2 * i * 16843009) (k := k + d + 1) (by omega) (by omega)
    have h1 := h_eq hO (x := (2 * i + 1) * 16843009) (k := k + d + 1) (by omega) (by omega)
    have r0 := rol32_eq (k := k + d + 1) (hN_lt O ((2 * i + 1) * 16843009)) 8
    have r1 := rol32_eq (k := k + d + 1) (wa_lt (ka E i) (wa (kb O i) (kb O i))) 9
    have c1 : ∀ u v : Int, decide ((il K).length + [u, v].length ≤ 1000000000) = true := fun u v => by
      rw [decide_eq_true_eq, il_length, hK]; simp only [List.length_cons, List.length_nil]; omega
    have e1 : il K ++ [U32 ((ka E i : Int) + (kb O i : Int)), ((kc E O i : Nat) : Int)] = il (K ++ ks E O i 1) := by
      rw [il_append, U32_add]; rfl
    show twofish_Keys.l5 (k + d + 1 + 1) _ _ _ _ _ = _
    rw [twofish_Keys.l5, x0, h0, Option.bind_some, x1, Option.bind_some, h1, Option.bind_some, r0, Option.bind_some]
    show (words_Rol32.f (k + d + 1) (U32 ((ka E i : Int) + (U32 (2 * (kb O i : Int))))) 9).bind _ = _
    rw [U32_two, U32_add, r1, Option.bind_some, if_pos (c1 _ _), x2, if_pos (by rw [decide_eq_true_eq]; omega)]
    show twofish_Keys.l5 (k + d + 1) (il E) (il O) (il K ++ [U32 ((ka E i : Int) + (kb O i : Int)), ((kc E O i : Nat) : Int)]) (il S) ((i + 1 : Nat) : Int) = _
    rw [e1, ih (by omega) (by rw [List.length_append, ks_length, hK]; omega) hk]
    simp only [ks, List.append_assoc, List.cons_append, List.nil_append]
theorem keys_l0 {m : List Nat} {n : Nat} (h : m.length = 8 * n) (hn : n = 2 ∨ n = 3 ∨ n = 4) (hm : ∀ x ∈ m, x < 256) {k : Nat} (hk : 300 ≤ k) :
    twofish_Keys.l0 k ([] : List Int) ([] : List Int) ([] : List Int) (il m) = some (il (ks (ev m) (od m) 0 20), il (sd m).reverse, 0) := by
  obtain ⟨k, rfl⟩ : ∃ j, k = j + 20 + n + 1 := ⟨k - 20 - n - 1, by omega⟩
  obtain ⟨l1, l2, l3⟩ := esd_len n m h
  obtain ⟨b1, b2, b3⟩ := esd_lt n m h hm
  have e := p0 (E := []) (O := []) (S := []) (k := k + 20) h hm (by simp; omega) (by simp; omega) (by simp; omega) (by omega)
  refine Eq.trans e ?_
  simp only [List.nil_append]
  rw [rev_eq (by omega) (by omega), Option.bind_some]
  have f := p1 b1 b2 (S := (sd m).reverse) (by rw [List.length_reverse]; omega) 19 (i := 0) (k := k) (K := []) (by omega) rfl (by omega)
  exact f
theorem keys_l2 {m : List Nat} {n : Nat} (h : m.length = 8 * n) (hn : n = 2 ∨ n = 3 ∨ n = 4) (hm : ∀ x ∈ m, x < 256) {k : Nat} (hk : 300 ≤ k) :
    twofish_Keys.l2 k ([] : List Int) ([] : List Int) ([] : List Int) (il m) = some (il (ks (ev m) (od m) 0 20), il (sd m).reverse, 0) := by
  obtain ⟨k, rfl⟩ : ∃ j, k = j + 20 + n + 1 := ⟨k - 20 - n - 1, by omega⟩
  obtain ⟨l1, l2, l3⟩ := esd_len n m h
  obtain ⟨b1, b2, b3⟩ := esd_lt n m h hm
  have e := p2 (E := []) (O := []) (S := []) (k := k + 20) h hm (by simp; omega) (by simp; omega) (by simp; omega) (by omega)
  refine Eq.trans e ?_
  simp only [List.nil_append]
  rw [rev_eq (by omega) (by omega), Option.bind_some]
  have f := p3 b1 b2 (S := (sd m).reverse) (by rw [List.length_reverse]; omega) 19 (i := 0) (k := k) (K := []) (by omega) rfl (by omega)
  exact f
theorem keys_l4 {m : List Nat} {n : Nat} (h : m.length = 8 * n) (hn : n = 2 ∨ n = 3 ∨ n = 4) (hm : ∀ x ∈ m, x < 256) {k : Nat} (hk : 300 ≤ k) :
    twofish_Keys.l4 k ([] : List Int) ([] : List Int) ([] : List Int) (il m) = some (il (ks (ev m) (od m) 0 20), il (sd m).reverse, 0) := by
  obtain ⟨k, rfl⟩ : ∃ j, k = j + 20 + n + 1 := ⟨k - 20 - n - 1, by omega⟩
  obtain ⟨l1, l2, l3⟩ := esd_len n m h
  obtain ⟨b1, b2, b3⟩ := esd_lt n m h hm
  have e := p4 (E := []) (O := []) (S := []) (k := k + 20) h hm (by simp; omega) (by simp; omega) (by simp; omega) (by omega)
  refine Eq.trans e ?_
  simp only [List.nil_append]
  rw [rev_eq (by omega) (by omega), Option.bind_some]
  have f := p5 b1 b2 (S := (sd m).reverse) (by rw [List.length_reverse]; omega) 19 (i := 0) (k := k) (K := []) (by omega) rfl (by omega)
  exact f
/-- The words of a key. -/
theorem keys_eq {m : List Nat} {n : Nat} (h : m.length = 8 * n) (hn : n = 2 ∨ n = 3 ∨ n = 4) (hm : ∀ x ∈ m, x < 256) {k : Nat} (hk : 300 ≤ k) :
    twofish_Keys.f k (il m) = some (il (ks (ev m) (od m) 0 20), il (sd m).reverse, 0) := by
  unfold twofish_Keys.f
  rw [il_length, h]
  rcases hn with rfl | rfl | rfl
  · rw [if_neg (by decide)]; exact keys_l4 h (by omega) hm hk
  · rw [if_pos (by decide), if_neg (by decide)]; exact keys_l2 h (by omega) hm hk
  · rw [if_pos (by decide), if_pos (by decide), if_neg (by decide)]; exact keys_l0 h (by omega) hm hk
theorem keys_no {m : List Int} (h : m.length ≠ 16) (h1 : m.length ≠ 24) (h2 : m.length ≠ 32) {k : Nat} : twofish_Keys.f k m = some ([], [], 4) := by
  unfold twofish_Keys.f
  rw [if_pos (by simp; omega), if_pos (by simp; omega), if_pos (by simp; omega)]
end Go.Scr.S
