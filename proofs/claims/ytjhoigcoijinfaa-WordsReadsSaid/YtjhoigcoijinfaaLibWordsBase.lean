/- The plain law of WordsBase. -/
import Derived.Test.YtjhoigcoijinfaaFnWordsReads
import Derived.Test.YtjhoigcoijinfaaLibNum
set_option linter.unusedVariables false
set_option linter.unusedSimpArgs false
set_option linter.unnecessarySimpa false
namespace Go.Scr.S
theorem known1_eq {k : Nat} (hk : 40 ≤ k) : scrimlaw1_known.f k = some true := by
  obtain ⟨j, rfl⟩ : ∃ j, k = j + 40 := ⟨k - 40, by omega⟩
  kernel_rfl
/-- One more, of digits from the least on. -/
def incR : List Int → List Int
  | [] => []
  | b :: l => if (U8 (b + 1) == 0) = true then 0 :: incR l else U8 (b + 1) :: l
theorem incR_length (l : List Int) : (incR l).length = l.length := by
  induction l with
  | nil => rfl
  | cons b l ih => simp only [incR]; split <;> simp [ih]
def incW (l : List Int) : List Int := (incR l.reverse).reverse
theorem incW_length (l : List Int) : (incW l).length = l.length := by simp [incW, incR_length]
theorem rd_mid (q s : List Int) (b : Int) : rd (q ++ b :: s) (q.length : Int) = b := by
  unfold rd; simp
theorem set_mid (q s : List Int) (b c : Int) : (q ++ b :: s).set q.length c = q ++ c :: s := by simp
theorem inc_l0 {a0 : List Int} (n : Nat) {k : Nat} {p s : List Int} (hp : p.length = n) (ha : p.length + s.length = a0.length) (hl : a0.length < 1000000000) (hk : n < k) :
    words_Inc.l0 k a0 (p ++ s) (n : Int) = some ((incR p.reverse).reverse ++ s) := by
  induction n generalizing k p s with
  | zero =>
    obtain ⟨k, rfl⟩ : ∃ j, k = j + 1 := ⟨k - 1, by omega⟩
    have : p = [] := List.length_eq_zero_iff.1 hp
    subst this
    simp [words_Inc.l0, incR]
  | succ n ih =>
    obtain ⟨k, rfl⟩ : ∃ j, k = j + 1 := ⟨k - 1, by omega⟩
    obtain ⟨q, b, rfl⟩ : ∃ q b, p = q ++ [b] := ⟨p.dropLast, p.getLast (by intro h; subst h; simp at hp), (List.dropLast_concat_getLast _).symm⟩
    have hq : q.length = n := by simpa using hp
    have e1 : I64 (((n + 1 : Nat) : Int) - 1) = (n : Int) := by rw [I64_id (by omega) (by omega)]; omega
    have e2 : q ++ [b] ++ s = q ++ b :: s := by simp
    have e3 : (List.replicate 0 (0 : Int)) ++ a0 = a0 := rfl
    simp only [words_Inc.l0, e1, e2, e3, Int.toNat_natCast]
    have c1 : decide (((n + 1 : Nat) : Int) > 0) = true := by rw [decide_eq_true_eq]; omega
    have c2 : decide (0 ≤ (n : Int)) = true := by simp
    have hn : n < a0.length := by rw [← ha]; simp; omega
    have c3 : decide ((n : Int) < (a0.length : Int)) = true := by simp; exact hn
    have hr : rd (q ++ b :: s) (n : Int) = b := by rw [← hq]; exact rd_mid q s b
    have hs : (q ++ b :: s).set n (U8 (b + 1)) = q ++ U8 (b + 1) :: s := by rw [← hq]; exact set_mid q s b _
    have hr2 : rd (q ++ U8 (b + 1) :: s) (n : Int) = U8 (b + 1) := by rw [← hq]; exact rd_mid q s _
    simp only [c1, c2, c3, if_true, hr, hs, hr2, Option.bind_some]
    rw [List.reverse_append, List.reverse_singleton, List.singleton_append]
    simp only [incR]
    by_cases hc : (U8 (b + 1) == 0) = true
    · rw [if_pos hc, if_pos hc]
      have h0 : U8 (b + 1) = 0 := by simpa using hc
      rw [h0, ih (p := q) (s := 0 :: s) hq (by simp at ha ⊢; omega) (by omega)]
      simp
    · rw [if_neg hc, if_neg hc]; simp
theorem inc_eq {a0 : List Int} {k : Nat} (hl : a0.length < 1000000000) (hk : a0.length < k) : words_Inc.f k a0 = some (incW a0) := by
  unfold words_Inc.f
  rw [if_pos (by simp), if_pos (by simp; omega), if_pos (by simp; omega)]
  have := inc_l0 (a0 := a0) a0.length (p := a0) (s := []) rfl (by simp) hl hk
  rw [List.append_nil, List.append_nil] at this
  exact this
end Go.Scr.S
