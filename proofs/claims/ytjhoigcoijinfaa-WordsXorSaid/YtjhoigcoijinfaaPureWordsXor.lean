/- The plain law of WordsXor. -/
import Derived.Test.YtjhoigcoijinfaaFnWordsXor
import Derived.Test.YtjhoigcoijinfaaXLaw
import Derived.Test.YtjhoigcoijinfaaLibNum
import Derived.Test.YtjhoigcoijinfaaLibWordsBase
import Derived.Test.YtjhoigcoijinfaaLibFill
set_option linter.unusedVariables false
set_option linter.unusedSimpArgs false
set_option linter.unnecessarySimpa false
namespace Go.Scr.S
def xo (a b : List Int) (j : Nat) : Int := bxor .u8 (rd a (j : Int)) (rd b (j : Int))
theorem xor_l0 {a b : List Int} (h : a.length = b.length) (hl : a.length < 1000000000) (d : Nat) {k i : Nat} {x : List Int} (hi : i + d = a.length) (hk : d < k) (hx : Fl (xo a b) a.length i x) :
    words_Xor.l0 k a b x (i : Int) = some (fill a.length (xo a b), true) := by
  induction d generalizing k i x with
  | zero =>
    obtain ⟨k, rfl⟩ : ∃ j, k = j + 1 := ⟨k - 1, by omega⟩
    have : i = a.length := by omega
    subst this
    simp only [words_Xor.l0]
    rw [if_neg (by simp), hx.done]
  | succ d ih =>
    obtain ⟨k, rfl⟩ : ∃ j, k = j + 1 := ⟨k - 1, by omega⟩
    have c1 : decide ((i : Int) < (a.length : Int)) = true := by rw [decide_eq_true_eq]; omega
    have c2 : decide (0 ≤ (i : Int)) = true := by rw [decide_eq_true_eq]; omega
    have c3 : decide ((i : Int) < (b.length : Int)) = true := by rw [decide_eq_true_eq]; omega
    have c4 : decide ((i : Int) < (((a.length : Int)).toNat : Int)) = true := by rw [decide_eq_true_eq]; omega
    have e5 : I64 ((i : Int) + 1) = ((i + 1 : Nat) : Int) := by rw [I64_id (by omega) (by omega)]; simp
    simp only [words_Xor.l0, c1, c2, c3, c4, if_true, e5, Int.toNat_natCast]
    exact ih (by omega) (by omega) (hx.set (by omega) rfl)
theorem xor_eq {a b : List Int} {k : Nat} (h : a.length = b.length) (hl : a.length < 1000000000) (hk : a.length < k) : words_Xor.f k a b = some (fill a.length (xo a b), true) := by
  unfold words_Xor.f
  rw [if_neg (by simp [h]), if_pos (by simp), if_pos (by rw [decide_eq_true_eq]; omega)]
  exact xor_l0 h hl a.length (i := 0) (by omega) hk (Fl.zero (by simp))
theorem xor_no {a b : List Int} {k : Nat} (h : a.length ≠ b.length) : words_Xor.f k a b = some ([], false) := by
  unfold words_Xor.f
  rw [if_pos (by simp; omega)]
theorem both_l0 {a b : List Int} (h : a.length = b.length) (hl : a.length < 1000000000) (d : Nat) {k i : Nat} {x : List Int} (hi : i + d = a.length) (hk : d < k) (hx : Fl (xo a b) a.length i x) :
    scrimref1_Both.l0 k a b x (i : Int) = some (fill a.length (xo a b)) := by
  induction d generalizing k i x with
  | zero =>
    obtain ⟨k, rfl⟩ : ∃ j, k = j + 1 := ⟨k - 1, by omega⟩
    have : i = a.length := by omega
    subst this
    simp only [scrimref1_Both.l0]
    rw [if_neg (by simp), hx.done]
  | succ d ih =>
    obtain ⟨k, rfl⟩ : ∃ j, k = j + 1 := ⟨k - 1, by omega⟩
    have c1 : decide ((i : Int) < (a.length : Int)) = true := by rw [decide_eq_true_eq]; omega
    have c2 : decide (0 ≤ (i : Int)) = true := by rw [decide_eq_true_eq]; omega
    have c3 : decide ((i : Int) < (b.length : Int)) = true := by rw [decide_eq_true_eq]; omega
    have c4 : decide ((i : Int) < (((a.length : Int)).toNat : Int)) = true := by rw [decide_eq_true_eq]; omega
    have e5 : I64 ((i : Int) + 1) = ((i + 1 : Nat) : Int) := by rw [I64_id (by omega) (by omega)]; simp
    simp only [scrimref1_Both.l0, c1, c2, c3, c4, if_true, e5, Int.toNat_natCast]
    exact ih (by omega) (by omega) (hx.set (by omega) rfl)
theorem both_eq {a b : List Int} {k : Nat} (h : a.length = b.length) (hl : a.length < 1000000000) (hk : a.length < k) : scrimref1_Both.f k a b = some (fill a.length (xo a b)) := by
  unfold scrimref1_Both.f
  rw [if_pos (by simp), if_pos (by rw [decide_eq_true_eq]; omega)]
  exact both_l0 h hl a.length (i := 0) (by omega) hk (Fl.zero (by simp))
theorem rxor_eq {a b : List Int} {k : Nat} (h : a.length = b.length) (hl : a.length < 1000000000) (hk : a.length < k) : scrimref1_Xor.f k a b = some (fill a.length (xo a b), true) := by
  unfold scrimref1_Xor.f
  rw [if_neg (by simp [h]), both_eq h hl hk]; rfl
theorem rxor_no {a b : List Int} {k : Nat} (h : a.length ≠ b.length) : scrimref1_Xor.f k a b = some ([], false) := by
  unfold scrimref1_Xor.f
  rw [if_pos (by simp; omega)]
theorem rd_take {l : List Int} {n i : Nat} (h : i < n) : rd (l.take n) (i : Int) = rd l (i : Int) := by
  unfold rd; rw [Int.toNat_natCast, List.getD_eq_getElem?_getD, List.getD_eq_getElem?_getD, List.getElem?_take, if_pos h]
theorem rd_in {l : List Int} (h : ∀ x ∈ l, In .u8 x) (i : Int) : In .u8 (rd l i) := by
  unfold rd
  rw [List.getD_eq_getElem?_getD]
  cases e : l[i.toNat]? with
  | none => exact ⟨by decide, by decide⟩
  | some x => exact h x (List.mem_of_getElem? e)
theorem bx_bx {a b : Int} (ha : In .u8 a) (hb : In .u8 b) : bxor .u8 (bxor .u8 a b) b = a := by
  obtain ⟨x, hx, rfl⟩ := u8_of ha
  obtain ⟨y, hy, rfl⟩ := u8_of hb
  rw [bx8 hx hy, bx8 (Nat.xor_lt_two_pow (n := 8) hx hy) hy, Nat.xor_assoc, Nat.xor_self, Nat.xor_zero]
theorem mn_nat (a b : Nat) : mn (a : Int) (b : Int) = ((min a b : Nat) : Int) := by unfold mn; split <;> omega
theorem wx_l0 {a b : List Int} (ha : ∀ x ∈ a, In .u8 x) (hb : ∀ x ∈ b, In .u8 x) (hl : a.length ≤ 200) (hl' : b.length ≤ 200) {n : Nat} (hn : n = min a.length b.length) (d : Nat) {k i : Nat} (hi : i + d = n) (hk : d + 300 < k) :
    scrimlaw1_WordsXor.l0 k a b (fill n (xo a b), true) (i : Int) = some true := by
  induction d generalizing k i with
  | zero =>
    obtain ⟨k, rfl⟩ : ∃ j, k = j + 1 := ⟨k - 1, by omega⟩
    have : i = n := by omega
    subst this
    have c0 : decide ((i : Int) < (i : Int)) = false := by simp
    have c1 : decide (0 ≤ (i : Int)) = true := by simp
    have c2 : decide ((i : Int) ≤ (b.length : Int)) = true := by rw [decide_eq_true_eq]; omega
    have c3 : decide ((i : Int) ≤ (a.length : Int)) = true := by rw [decide_eq_true_eq]; omega
    have e1 := xor_eq (a := fill i (xo a b)) (b := b.take i) (k := k) (by rw [fill_length, List.length_take]; omega) (by rw [fill_length]; omega) (by rw [fill_length]; omega)
    have e2 : fill (fill i (xo a b)).length (xo (fill i (xo a b)) (b.take i)) = a.take i := by
      rw [fill_length]
      have hla : i = (a.take i).length := by rw [List.length_take]; omega
      conv => rhs; rw [← fill_self (a.take i), ← hla]
      refine fill_congr fun j hj => ?_
      unfold xo
      rw [fill_rd _ hj, rd_take hj, rd_take hj]
      exact bx_bx (rd_in ha _) (rd_in hb _)
    rw [e2] at e1
    simp only [scrimlaw1_WordsXor.l0, mn_nat, ← hn, c0, c1, c2, c3, Option.bind_some, Bool.false_eq_true, if_false, if_true, Int.toNat_natCast, Int.toNat_zero, List.drop_zero, e1, beq_self_eq_true]
  | succ d ih =>
    obtain ⟨k, rfl⟩ : ∃ j, k = j + 1 := ⟨k - 1, by omega⟩
    have c1 : decide ((i : Int) < (n : Int)) = true := by rw [decide_eq_true_eq]; omega
    have c2 : decide (0 ≤ (i : Int)) = true := by simp
    have c3 : decide ((i : Int) < ((fill n (xo a b)).length : Int)) = true := by rw [decide_eq_true_eq, fill_length]; omega
    have c4 : decide ((i : Int) < (a.length : Int)) = true := by rw [decide_eq_true_eq]; omega
    have c5 : decide ((i : Int) < (b.length : Int)) = true := by rw [decide_eq_true_eq]; omega
    have e1 : rd (fill n (xo a b)) (i : Int) = bxor .u8 (rd a (i : Int)) (rd b (i : Int)) := fill_rd _ (by omega)
    have e5 : I64 ((i : Int) + 1) = ((i + 1 : Nat) : Int) := by rw [I64_id (by omega) (by omega)]; simp
    simp only [scrimlaw1_WordsXor.l0, mn_nat, ← hn, c1, c2, c3, c4, c5, Option.bind_some, if_true, e1, bne_self_eq_false, Bool.false_eq_true, if_false, e5]
    exact ih (by omega) (by omega)
theorem WordsXor (a0 : List Int) (a1 : List Int) (h0 : a0.length ≤ maxLen) (h1 : ∀ x ∈ a0, In .u8 x) (h2 : a1.length ≤ maxLen) (h3 : ∀ x ∈ a1, In .u8 x) : ∃ k, scrimlaw1_WordsXor.f k a0 a1 = some true := by
  refine ⟨1000, ?_⟩
  unfold scrimlaw1_WordsXor.f
  simp only [known1_eq (k := 1000) (by decide), Option.bind_some, Bool.not_true, Bool.false_eq_true, if_false]
  by_cases l0 : a0.length ≤ 200
  case neg => rw [if_pos (by rw [decide_eq_true_eq]; omega)]
  rw [if_neg (by rw [decide_eq_true_eq]; omega)]
  by_cases l1 : a1.length ≤ 200
  case neg => rw [if_pos (by rw [decide_eq_true_eq]; omega)]
  rw [if_neg (by rw [decide_eq_true_eq]; omega)]
  obtain ⟨n, hn⟩ : ∃ n, n = min a0.length a1.length := ⟨_, rfl⟩
  have c1 : decide (0 ≤ (n : Int)) = true := by simp
  have c2 : decide ((n : Int) ≤ (a0.length : Int)) = true := by rw [decide_eq_true_eq]; omega
  have c3 : decide ((n : Int) ≤ (a1.length : Int)) = true := by rw [decide_eq_true_eq]; omega
  have t0 : (a0.take n).length = n := by rw [List.length_take]; omega
  have t1 : (a1.take n).length = n := by rw [List.length_take]; omega
  have e1 := xor_eq (a := a0.take n) (b := a1.take n) (k := 1000) (by rw [t0, t1]) (by omega) (by omega)
  have e2 : fill (a0.take n).length (xo (a0.take n) (a1.take n)) = fill n (xo a0 a1) := by
    rw [t0]; refine fill_congr fun j hj => ?_
    unfold xo; rw [rd_take hj, rd_take hj]
  rw [e2] at e1
  have w := wx_l0 (k := 1000) (n := n) (i := 0) h1 h3 l0 l1 hn n (by omega) (by omega)
  have w' : scrimlaw1_WordsXor.l0 1000 a0 a1 (fill n (xo a0 a1), true) 0 = some true := w
  by_cases hl : a0.length = a1.length
  · have e3 := xor_eq (a := a0) (b := a1) (k := 1000) hl (by omega) (by omega)
    have e4 := rxor_eq (a := a0) (b := a1) (k := 1000) hl (by omega) (by omega)
    have e5 : ((a0.length : Int) == (a1.length : Int)) = true := by rw [hl]; simp
    simp only [mn_nat, ← hn, c1, c2, c3, if_true, Option.bind_some, Int.toNat_natCast, Int.toNat_zero, List.drop_zero, e1, e3, e4, Bool.not_true, Bool.false_eq_true, if_false, fill_length, bne_self_eq_false, beq_self_eq_true, e5, w']
  · have e3 := xor_no (a := a0) (b := a1) (k := 1000) hl
    have e4 := rxor_no (a := a0) (b := a1) (k := 1000) hl
    have e5 : ((a0.length : Int) == (a1.length : Int)) = false := by rw [beq_eq_false_iff_ne]; omega
    simp only [mn_nat, ← hn, c1, c2, c3, if_true, Option.bind_some, Int.toNat_natCast, Int.toNat_zero, List.drop_zero, e1, e3, e4, Bool.not_true, Bool.false_eq_true, if_false, fill_length, bne_self_eq_false, beq_self_eq_true, e5, w']
end Go.Scr.S
