/- The plain law of WordsReads. -/
import Derived.Test.YtjhoigcoijinfaaFnWordsReads
import Derived.Test.YtjhoigcoijinfaaLibNum
import Derived.Test.YtjhoigcoijinfaaLibWordsBase
import Derived.Test.YtjhoigcoijinfaaLibWordsLoad
import Derived.Test.YtjhoigcoijinfaaLibFill
import Derived.Test.YtjhoigcoijinfaaLibWordsIl
import Derived.Test.YtjhoigcoijinfaaLibWordsLe
set_option linter.unusedVariables false
set_option linter.unusedSimpArgs false
set_option linter.unnecessarySimpa false
namespace Go.Scr.S
theorem rbig_l0 : ∀ (k : Nat) (l : List Int) (v i : Int), scrimref1_Big.l0 k l v i = words_load.l0 k l v i
  | 0, _, _, _ => rfl
  | k + 1, l, v, i => by simp only [scrimref1_Big.l0, words_load.l0, rbig_l0 k]
theorem rbe32_same (k : Nat) (l : List Int) : scrimref1_Be32.f k l = words_Be32.f k l := by
  unfold scrimref1_Be32.f words_Be32.f scrimref1_Big.f words_load.f
  rw [rbig_l0]
theorem rbe64_same (k : Nat) (l : List Int) : scrimref1_Be64.f k l = words_Be64.f k l := by
  unfold scrimref1_Be64.f words_Be64.f scrimref1_Big.f words_load.f
  rw [rbig_l0]
theorem rlit4 {k : Nat} (a b c d : Int) (hk : 20 ≤ k) : scrimref1_Little.f k [a, b, c, d] = words_load.f k [d, c, b, a] := by
  obtain ⟨j, rfl⟩ : ∃ j, k = j + 20 := ⟨k - 20, by omega⟩
  kernel_rfl
theorem be64_none {l : List Int} {k : Nat} (h8 : l.length ≠ 8) : words_Be64.f k l = some (0, false) := by
  unfold words_Be64.f
  rw [if_pos (by simp; omega)]
theorem le32_both {m : List Nat} (hm : ∀ x ∈ m, x < 256) (hl : m.length ≤ 104) {k : Nat} (hk : 200 ≤ k) : ∃ p, words_Le32.f k (il m) = some p ∧ scrimref1_Le32.f k (il m) = some p := by
  by_cases h4 : m.length = 4
  · refine ⟨_, le32_eq hm h4 (by omega), ?_⟩
    match m, h4 with
    | [a, b, c, d], _ =>
      have q := rlit4 (k := k) (a : Int) (b : Int) (c : Int) (d : Int) (by omega)
      have e := load_eq (l := [d, c, b, a]) (k := k) (fun x hx => hm x (by simp at hx ⊢; omega)) (by simp) (by omega)
      have lt' : bigN [d, c, b, a] < 4294967296 := Nat.lt_of_lt_of_eq (bigN_lt [d, c, b, a] (fun x hx => hm x (by simp at hx ⊢; omega))) (by rw [show [d, c, b, a].length = 4 from rfl])
      have z : scrimref1_Little.f k (il [a, b, c, d]) = some ((bigN [d, c, b, a] : Nat) : Int) := q.trans e
      unfold scrimref1_Le32.f
      rw [il_length, if_neg (by simp), z, Option.bind_some, U32_nat, Nat.mod_eq_of_lt lt']; rfl
  · refine ⟨(0, false), ?_, ?_⟩
    · unfold words_Le32.f
      rw [turned_eq (by omega) (by omega), Option.bind_some, be32_none (by rw [il_length, List.length_reverse]; exact h4)]; rfl
    · unfold scrimref1_Le32.f
      rw [if_pos (by rw [il_length]; simp; omega)]
theorem reads_all {m : List Nat} (hm : ∀ x ∈ m, x < 256) (hl : m.length ≤ 104) {k : Nat} (hk : 200 ≤ k) : ∃ p q r, words_Be32.f k (il m) = some p ∧ scrimref1_Be32.f k (il m) = some p ∧ words_Le32.f k (il m) = some q ∧ scrimref1_Le32.f k (il m) = some q ∧ words_Be64.f k (il m) = some r ∧ scrimref1_Be64.f k (il m) = some r := by
  obtain ⟨q, q1, q2⟩ := le32_both hm hl hk
  have e1 : ∃ p, words_Be32.f k (il m) = some p := by
    by_cases h4 : m.length = 4
    · exact ⟨_, be32_eq hm h4 (by omega)⟩
    · exact ⟨_, be32_none (by rw [il_length]; exact h4)⟩
  have e2 : ∃ p, words_Be64.f k (il m) = some p := by
    by_cases h4 : m.length = 8
    · exact ⟨_, be64_eq hm h4 (by omega)⟩
    · exact ⟨_, be64_none (by rw [il_length]; exact h4)⟩
  obtain ⟨p, p1⟩ := e1
  obtain ⟨r, r1⟩ := e2
  exact ⟨p, q, r, p1, (rbe32_same k _).trans p1, q1, q2, r1, (rbe64_same k _).trans r1⟩
theorem wr_l0 {l : List Nat} (hl : ∀ x ∈ l, x < 256) (hlen : l.length ≤ 100) (d : Nat) : ∀ {i k : Nat}, i + d = 4 → 300 ≤ k → scrimlaw1_WordsReads.l0 (k + d + 1) (il l) (i : Int) = some true := by
  have H : ∀ i : Nat, i < 4 → ∃ m : List Nat, rdr ([] : List Int) ([il l, (([] : List Int) ++ (((il l).take (mn ((il l).length : Int) 4 : Int).toNat).drop (0 : Int).toNat)), (([] : List Int) ++ (((il l).take (mn ((il l).length : Int) 8 : Int).toNat).drop (0 : Int).toNat)), ((([] : List Int) ++ (il l)) ++ ([1, 2, 3, 4] : List Int))] : List (List Int)) (i : Int) = il m ∧ (∀ x ∈ m, x < 256) ∧ m.length ≤ 104 := by
    intro i hi
    have ht : ∀ n : Nat, ((il l).take n).drop (0 : Int).toNat = il (l.take n) := fun n => by
      show List.drop 0 _ = _
      rw [List.drop_zero]; simp [il, List.map_take]
    have : i = 0 ∨ i = 1 ∨ i = 2 ∨ i = 3 := by omega
    rcases this with rfl | rfl | rfl | rfl
    · exact ⟨l, rfl, hl, by omega⟩
    · exact ⟨l.take (mn ((il l).length : Int) 4 : Int).toNat, ht _, fun x hx => hl x (List.mem_of_mem_take hx), by rw [List.length_take]; omega⟩
    · exact ⟨l.take (mn ((il l).length : Int) 8 : Int).toNat, ht _, fun x hx => hl x (List.mem_of_mem_take hx), by rw [List.length_take]; omega⟩
    · refine ⟨l ++ [1, 2, 3, 4], ?_, ?_, by rw [List.length_append]; simp; omega⟩
      · show il l ++ il [1, 2, 3, 4] = il (l ++ [1, 2, 3, 4])
        simp [il]
      · intro x hx
        rcases List.mem_append.1 hx with hx | hx
        · exact hl x hx
        · simp at hx; omega
  induction d with
  | zero =>
    intro i k hi hk
    have : i = 4 := by omega
    subst this
    show scrimlaw1_WordsReads.l0 (k + 1) _ _ = _
    rw [scrimlaw1_WordsReads.l0, if_neg (by decide)]
  | succ d ih =>
    intro i k hi hk
    obtain ⟨m, em, hm, hml⟩ := H i (by omega)
    obtain ⟨p, q, r, p1, p2, q1, q2, r1, r2⟩ := reads_all hm hml (k := k + d + 1) (by omega)
    have c1 : decide ((i : Int) < ((4 : Nat) : Int)) = true := by rw [decide_eq_true_eq]; omega
    have c1' : decide ((i : Int) < (4 : Int)) = true := by rw [decide_eq_true_eq]; omega
    have c0 : decide (0 ≤ (i : Int)) = true := by rw [decide_eq_true_eq]; omega
    have a2 : I64 ((i : Int) + 1) = ((i + 1 : Nat) : Int) := I64_nat (n := i + 1) (by omega)
    show scrimlaw1_WordsReads.l0 (k + d + 1 + 1) _ _ = _
    rw [scrimlaw1_WordsReads.l0, em, if_pos c1, if_pos c0, if_pos c1', p1, Option.bind_some, if_pos c0, if_pos c1', p2, Option.bind_some, if_pos c0, if_pos c1', q1, Option.bind_some, if_pos c0, if_pos c1', q2, Option.bind_some, if_pos c0, if_pos c1', r1, Option.bind_some, if_pos c0, if_pos c1', r2, Option.bind_some, if_neg (by simp), if_neg (by simp), if_neg (by simp), if_neg (by simp), if_neg (by simp), if_neg (by simp), a2]
    exact ih (by omega) hk
theorem WordsReads (a0 : List Int) (h0 : a0.length ≤ maxLen) (h1 : ∀ x ∈ a0, In .u8 x) : ∃ k, scrimlaw1_WordsReads.f k a0 = some true := by
  obtain ⟨l, rfl, hl⟩ := il_of h1
  refine ⟨1000, ?_⟩
  unfold scrimlaw1_WordsReads.f
  rw [known1_eq (k := 1000) (by decide), Option.bind_some, if_neg (by decide)]
  by_cases l0 : l.length ≤ 100
  · have hL : ((il l).length : Int) = (l.length : Int) := by rw [il_length]
    have m0 : ∀ n : Int, 0 ≤ n → 0 ≤ mn ((il l).length : Int) n := fun n hn => by unfold mn; split <;> omega
    have m1 : ∀ n : Int, mn ((il l).length : Int) n ≤ ((il l).length : Int) := fun n => by unfold mn; split <;> omega
    have tk : ∀ n : Nat, (([] : List Int).length + (((il l).take n).drop (0 : Int).toNat).length) ≤ 1000000000 := fun n => by
      show 0 + (List.drop 0 _).length ≤ _
      rw [List.drop_zero, List.length_take, il_length]; omega
    rw [if_neg (by rw [decide_eq_true_eq, hL]; omega), if_pos (by rw [decide_eq_true_eq]; exact m0 4 (by decide)), if_pos (by rw [decide_eq_true_eq]; exact m1 4), if_pos (by rw [decide_eq_true_eq]; exact m0 8 (by decide)), if_pos (by rw [decide_eq_true_eq]; exact m1 8), if_pos (by rw [decide_eq_true_eq]; exact tk _), if_pos (by rw [decide_eq_true_eq]; exact tk _), if_pos (by rw [decide_eq_true_eq, il_length, List.length_nil]; omega), if_pos (by rw [decide_eq_true_eq, List.nil_append, il_length]; simp; omega)]
    exact wr_l0 hl l0 4 (i := 0) (k := 995) (by omega) (by omega)
  · rw [if_pos (by rw [decide_eq_true_eq, il_length]; omega)]
end Go.Scr.S
