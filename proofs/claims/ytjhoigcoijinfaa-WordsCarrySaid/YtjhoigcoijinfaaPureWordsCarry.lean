/- The plain law of WordsCarry. -/
import Derived.Test.YtjhoigcoijinfaaFnWordsCarry
import Derived.Test.YtjhoigcoijinfaaXLaw
import Derived.Test.YtjhoigcoijinfaaLibNum
import Derived.Test.YtjhoigcoijinfaaLibWordsBase
import Derived.Test.YtjhoigcoijinfaaLibWordsInc0
set_option linter.unusedVariables false
set_option linter.unusedSimpArgs false
set_option linter.unnecessarySimpa false
namespace Go.Scr.S
theorem incR_carry (a : Int) (n : Nat) : incR (List.replicate n 255 ++ [a]) = List.replicate n 0 ++ [U8 (a + 1)] := by
  induction n with
  | zero =>
    show (if _ then _ else _) = _
    by_cases h : (U8 (a + 1) == 0) = true
    · rw [if_pos h]; have : U8 (a + 1) = 0 := by simpa using h
      rw [this]; rfl
    · rw [if_neg h]; rfl
  | succ n ih =>
    rw [List.replicate_succ, List.cons_append]
    show (if _ then _ else _) = _
    rw [if_pos (by decide), ih]; simp [List.replicate_succ]
theorem incW_carry (a : Int) (n : Nat) : incW (a :: List.replicate n 255) = U8 (a + 1) :: List.replicate n 0 := by
  unfold incW
  rw [List.reverse_cons, List.reverse_replicate, incR_carry]; simp
theorem carry_l1 (n : Nat) (z : Int) (d : Nat) {k i : Nat} (hi : i + d = n + 1) (h1 : 1 ≤ i) (hn : n < 40) (hk : d < k) : scrimlaw1_WordsCarry.l1 k (z :: List.replicate n 0) (n : Int) (i : Int) = some true := by
  induction d generalizing k i with
  | zero =>
    obtain ⟨k, rfl⟩ : ∃ j, k = j + 1 := ⟨k - 1, by omega⟩
    simp only [scrimlaw1_WordsCarry.l1]
    rw [if_neg (by simp; omega)]
  | succ d ih =>
    obtain ⟨k, rfl⟩ : ∃ j, k = j + 1 := ⟨k - 1, by omega⟩
    simp only [scrimlaw1_WordsCarry.l1]
    have e : rd (z :: List.replicate n 0) (i : Int) = 0 := by
      obtain ⟨j, rfl⟩ : ∃ j, i = j + 1 := ⟨i - 1, by omega⟩
      unfold rd
      rw [Int.toNat_natCast, List.getD_cons_succ, List.getD_eq_getElem?_getD, List.getElem?_replicate]; split <;> rfl
    rw [if_pos (by simp; omega), if_pos (by simp), if_pos (by simp; omega), e, if_neg (by decide), I64_id (by omega) (by omega)]
    exact ih (i := i + 1) (by omega) (by omega) (by omega)
theorem carry_l0 (a : Nat) (n : Nat) (d : Nat) {k i : Nat} (hi : i + d = n) (hn : n < 40) (hk : d + 100 < k) : scrimlaw1_WordsCarry.l0 k (a : Int) (n : Int) ((a : Int) :: List.replicate i 255) (i : Int) = some true := by
  induction d generalizing k i with
  | zero =>
    obtain ⟨k, rfl⟩ : ∃ j, k = j + 1 := ⟨k - 1, by omega⟩
    have : i = n := by omega
    subst this
    have hl : ((a : Int) :: List.replicate i 255).length = i + 1 := by simp
    have e1 := inc_eq (k := k) (a0 := (a : Int) :: List.replicate i 255) (by omega) (by omega)
    have e2 := rinc_eq (k := k) (a0 := (a : Int) :: List.replicate i 255) (by omega) (by omega)
    rw [incW_carry] at e1 e2
    have c0 : decide ((i : Int) < (i : Int)) = false := by simp
    have c1 : ((((U8 ((a : Int) + 1) :: List.replicate i 0).length : Nat) : Int) != I64 ((i : Int) + 1)) = false := by rw [I64_id (by omega) (by omega)]; simp
    have c2 : decide (0 < (((U8 ((a : Int) + 1) :: List.replicate i 0).length : Nat) : Int)) = true := by simp
    have c3 : rd (U8 ((a : Int) + 1) :: List.replicate i 0) 0 = U8 ((a : Int) + 1) := rfl
    simp only [scrimlaw1_WordsCarry.l0, e1, e2, c0, Option.bind_some, Bool.false_eq_true, if_false, c1, c2, if_true, c3, bne_self_eq_false, beq_self_eq_true, Bool.not_true]
    exact carry_l1 i _ i (i := 1) (by omega) (by omega) hn (by omega)
  | succ d ih =>
    obtain ⟨k, rfl⟩ : ∃ j, k = j + 1 := ⟨k - 1, by omega⟩
    simp only [scrimlaw1_WordsCarry.l0]
    have e : ((a : Int) :: List.replicate i 255) ++ [255] = (a : Int) :: List.replicate (i + 1) 255 := by rw [List.replicate_succ', List.cons_append]
    rw [if_pos (by simp; omega), if_pos (by simp; omega), e, I64_id (by omega) (by omega)]
    exact ih (i := i + 1) (by omega) (by omega)
theorem WordsCarry (a0 : Int) (a1 : Int) (h0 : In .u8 a0) (h1 : In .i64 a1) : ∃ k, scrimlaw1_WordsCarry.f k a0 a1 = some true := by
  obtain ⟨a, ha, rfl⟩ := u8_of h0
  obtain ⟨n, hn, en⟩ : ∃ i : Nat, i < 40 ∧ a1 % 40 = i := ⟨(a1 % 40).toNat, by omega, by omega⟩
  refine ⟨200, ?_⟩
  have hw := within1_eq (k := 200) a1 40 (by decide) (by decide)
  rw [en] at hw
  unfold scrimlaw1_WordsCarry.f
  simp only [known1_eq (k := 200) (by decide), hw, Option.bind_some, Bool.not_true, Bool.false_eq_true, if_false]
  exact carry_l0 a n n (i := 0) (by omega) hn (by omega)
end Go.Scr.S
