/- The plain law of BoxIs. -/
import Derived.Test.YtfffmmpibebpcaaDoorFnBoxIs
import Derived.Test.YtfffmmpibebpcaaDoorLibNum
import Derived.Test.YtfffmmpibebpcaaDoorLibIl
import Derived.Test.YtfffmmpibebpcaaDoorLibBoxKnown0
import Derived.Test.YtfffmmpibebpcaaDoorLibBoxIsL
import Derived.Test.YtfffmmpibebpcaaDoorLibPigeon
import Derived.Test.YtfffmmpibebpcaaDoorLibBoxBackL
import Derived.Test.YtfffmmpibebpcaaDoorLibBoxWithin
import Derived.Test.YtfffmmpibebpcaaDoorLibBoxTable
import Derived.Test.YtfffmmpibebpcaaDoorLibBoxRIs
set_option linter.unusedVariables false
set_option linter.unusedSimpArgs false
set_option linter.unnecessarySimpa false
namespace Go.Scr.S
theorem row7 {a b c : List Nat} {K : Nat} (ha : a.length < K) (hb : b.length < K) (hc : c.length < K) (hK : 10 < K) (ba : ∀ x ∈ a, x < 256) (bb : ∀ x ∈ b, x < 256) (bc : ∀ x ∈ c, x < 256) {i : Nat} (hi : i < 7) :
    ∃ q : List Nat, rdr ([] : List Int) ([il a, il b, il c, ([] : List Int), ([0] : List Int), ([1] : List Int), ([0, 0] : List Int)] : List (List Int)) (i : Int) = il q ∧ q.length < K ∧ ∀ x ∈ q, x < 256 := by
  have : i = 0 ∨ i = 1 ∨ i = 2 ∨ i = 3 ∨ i = 4 ∨ i = 5 ∨ i = 6 := by omega
  rcases this with rfl | rfl | rfl | rfl | rfl | rfl | rfl
  · exact ⟨a, rfl, ha, ba⟩
  · exact ⟨b, rfl, hb, bb⟩
  · exact ⟨c, rfl, hc, bc⟩
  · exact ⟨[], rfl, by simp; omega, by simp⟩
  · exact ⟨[0], rfl, by simp; omega, by simp⟩
  · exact ⟨[1], rfl, by simp; omega, by simp⟩
  · exact ⟨[0, 0], rfl, by simp; omega, by simp⟩
theorem boxis_l0 {t c : List Nat} (ht : ∀ x ∈ t, x < 256) (hp : isP t = true) (hc : ∀ x ∈ c, x < 256) (hcl : c.length < 400) (a4 : Int) {j : Nat} (d : Nat) {k i : Nat} (hk : d + 800 < k) (hi : i + d = 7) :
    scrimlaw4_BoxIs.l0 k (il c) a4 (j : Int) (il t) (i : Int) = some true := by
  obtain ⟨htl, _⟩ := isP_spec hp
  obtain ⟨v, hv, ev⟩ : ∃ v : Nat, v < 256 ∧ U8 (rd (([] : List Int) ++ il t) (j : Int) + a4) = (v : Int) := by
    refine ⟨(U8 (rd (([] : List Int) ++ il t) (j : Int) + a4)).toNat, ?_, ?_⟩ <;> (simp only [U8, IntKind.wrap, IntKind.bits, IntKind.signed]; simp; omega)
  have es : (([] : List Int) ++ il t).set (j : Int).toNat (U8 (rd (([] : List Int) ++ il t) (j : Int) + a4)) = il (t.set j v) := by
    rw [ev, List.nil_append, Int.toNat_natCast, il_set]
  have bs : ∀ x ∈ t.set j v, x < 256 := fun x hx => by
    rcases List.mem_or_eq_of_mem_set hx with h | rfl
    · exact ht x h
    · exact hv
  induction d generalizing k i with
  | zero =>
    obtain ⟨k, rfl⟩ : ∃ j, k = j + 1 := ⟨k - 1, by omega⟩
    rw [scrimlaw4_BoxIs.l0, if_neg (by rw [decide_eq_true_eq]; omega), is_eq ht (by omega), hp, Option.bind_some]
  | succ d ih =>
    obtain ⟨k, rfl⟩ : ∃ j, k = j + 1 := ⟨k - 1, by omega⟩
    have a2 : I64 ((i : Int) + 1) = ((i + 1 : Nat) : Int) := I64_nat (n := i + 1) (by omega)
    have c0 : decide (0 ≤ (i : Int)) = true := by rw [decide_eq_true_eq]; omega
    have c1 : decide ((i : Int) < 7) = true := by rw [decide_eq_true_eq]; omega
    have c2 : decide ((i : Int) < ((7 : Nat) : Int)) = true := c1
    obtain ⟨q, eq, hq, bq⟩ := row7 (a := t) (b := t.set j v) (c := c) (K := 400) (by omega) (by rw [List.length_set]; omega) hcl (by decide) ht bs hc (i := i) (by omega)
    obtain ⟨r, b1, b2⟩ := two_back bq (by omega) (k := k) (by omega) (by omega)
    have i1 := is_eq bq (k := k) (by omega)
    have i2 := ris_eq bq (by omega) (k := k) (by omega)
    rw [scrimlaw4_BoxIs.l0, es, if_pos c2, if_pos c0, if_pos c1, eq, b1, Option.bind_some, if_pos c0, if_pos c1, b2, Option.bind_some, if_pos c0, if_pos c1, if_pos c0, if_pos c1, i1, Option.bind_some, i2, Option.bind_some]
    simp only [beq_self_eq_true, Bool.not_true, Bool.false_eq_true, if_false, Option.bind_some]
    rw [a2]
    exact ih (by omega) (by omega)
theorem boxis_l1 {t c : List Nat} (ht : ∀ x ∈ t, x < 256) (hp : isP t = true) (hc : ∀ x ∈ c, x < 256) (hcl : c.length < 400) (d : Nat) {k i : Nat} (hk : d + 800 < k) (hi : i + d = 7) :
    scrimlaw4_BoxIs.l1 k (il c) (il t) (i : Int) = some true := by
  obtain ⟨htl, _⟩ := isP_spec hp
  have es : (([] : List Int) ++ il t) = il t := List.nil_append _
  induction d generalizing k i with
  | zero =>
    obtain ⟨k, rfl⟩ : ∃ j, k = j + 1 := ⟨k - 1, by omega⟩
    rw [scrimlaw4_BoxIs.l1, if_neg (by rw [decide_eq_true_eq]; omega), is_eq ht (by omega), hp, Option.bind_some]
  | succ d ih =>
    obtain ⟨k, rfl⟩ : ∃ j, k = j + 1 := ⟨k - 1, by omega⟩
    have a2 : I64 ((i : Int) + 1) = ((i + 1 : Nat) : Int) := I64_nat (n := i + 1) (by omega)
    have c0 : decide (0 ≤ (i : Int)) = true := by rw [decide_eq_true_eq]; omega
    have c1 : decide ((i : Int) < 7) = true := by rw [decide_eq_true_eq]; omega
    have c2 : decide ((i : Int) < ((7 : Nat) : Int)) = true := c1
    obtain ⟨q, eq, hq, bq⟩ := row7 (a := t) (b := t) (c := c) (K := 400) (by omega) (by omega) hcl (by decide) ht ht hc (i := i) (by omega)
    obtain ⟨r, b1, b2⟩ := two_back bq (by omega) (k := k) (by omega) (by omega)
    have i1 := is_eq bq (k := k) (by omega)
    have i2 := ris_eq bq (by omega) (k := k) (by omega)
    rw [scrimlaw4_BoxIs.l1, es, if_pos c2, if_pos c0, if_pos c1, eq, b1, Option.bind_some, if_pos c0, if_pos c1, b2, Option.bind_some, if_pos c0, if_pos c1, if_pos c0, if_pos c1, i1, Option.bind_some, i2, Option.bind_some]
    simp only [beq_self_eq_true, Bool.not_true, Bool.false_eq_true, if_false, Option.bind_some]
    rw [a2]
    exact ih (by omega) (by omega)
theorem BoxIs (a0 : Int) (a1 : List Int) (a2 : List Int) (a3 : Int) (a4 : Int) (h0 : In .i64 a0) (h1 : a1.length ≤ maxLen) (h2 : ∀ x ∈ a1, In .i64 x) (h3 : a2.length ≤ maxLen) (h4 : ∀ x ∈ a2, In .u8 x) (h5 : In .i64 a3) (h6 : In .u8 a4) : ∃ k, scrimlaw4_BoxIs.f k a0 a1 a2 a3 a4 = some true := by
  obtain ⟨c, rfl, hc⟩ := il_of h4
  obtain ⟨n, hn, en⟩ : ∃ i : Nat, i < 257 ∧ a0 % 257 = i := ⟨(a0 % 257).toNat, by omega, by omega⟩
  obtain ⟨k, hk⟩ : ∃ k : Nat, a1.length + 2000 ≤ k := ⟨a1.length + 2000, Nat.le_refl _⟩
  refine ⟨k, ?_⟩
  have w := within4_eq (k := k) a0 257 (by decide) (by decide)
  rw [en] at w
  obtain ⟨t, e1, htl, ht, hp⟩ := table_eq (by omega : n ≤ 256) h1 (k := k) (by omega)
  have hlen := (isP_spec hp).1
  unfold scrimlaw4_BoxIs.f
  rw [known4_eq (k := k) (by omega), Option.bind_some, if_neg (by decide)]
  by_cases h300 : c.length ≤ 300
  · rw [if_neg (by rw [decide_eq_true_eq, il_length]; omega), w, Option.bind_some, e1, Option.bind_some, if_pos (by rw [decide_eq_true_eq, il_length]; simp only [List.length_nil]; omega), List.nil_append, Option.bind_some, il_length]
    by_cases h0' : 0 < t.length
    · obtain ⟨j, hj, ej⟩ : ∃ i : Nat, i < t.length ∧ a3 % (t.length : Int) = i := ⟨(a3 % (t.length : Int)).toNat, by have := Int.emod_lt_of_pos a3 (show (0 : Int) < t.length by omega); have := Int.emod_nonneg a3 (show (t.length : Int) ≠ 0 by omega); omega, by have := Int.emod_nonneg a3 (show (t.length : Int) ≠ 0 by omega); omega⟩
      have w2 := within4_eq (k := k) a3 (t.length : Int) (by omega) (by omega)
      rw [ej] at w2
      have d0 : decide (0 ≤ (j : Int)) = true := by rw [decide_eq_true_eq]; omega
      have d1 : decide ((j : Int) < (t.length : Int)) = true := by rw [decide_eq_true_eq]; omega
      rw [if_pos (by rw [decide_eq_true_eq]; omega), w2, Option.bind_some, if_pos d0, if_pos d1, if_pos d0, if_pos d1]
      exact boxis_l0 ht hp hc (by omega) a4 7 (i := 0) (by omega) (by omega)
    · rw [if_neg (by rw [decide_eq_true_eq]; omega)]
      exact boxis_l1 ht hp hc (by omega) 7 (i := 0) (by omega) (by omega)
  · rw [if_pos (by rw [decide_eq_true_eq, il_length]; omega)]
end Go.Scr.S
