/- The plain law of IdeaMul. -/
import Derived.Test.YtdagooiakgnecaaFnIdeaMul
import Derived.Test.YtdagooiakgnecaaLibNum
import Derived.Test.YtdagooiakgnecaaLibIl
import Derived.Test.YtdagooiakgnecaaLibFill
import Derived.Test.YtdagooiakgnecaaLibGIl
import Derived.Test.YtdagooiakgnecaaLibGTurn
import Derived.Test.YtdagooiakgnecaaLibGBits
import Derived.Test.YtdagooiakgnecaaLibGRTurn
import Derived.Test.YtdagooiakgnecaaLibIdeaNum
import Derived.Test.YtdagooiakgnecaaLibIdeaKnown
import Derived.Test.YtdagooiakgnecaaLibIdeaMulL
import Derived.Test.YtdagooiakgnecaaLibIdeaBytes
import Derived.Test.YtdagooiakgnecaaLibIdeaKeys
set_option linter.unusedVariables false
set_option linter.unusedSimpArgs false
set_option linter.unnecessarySimpa false
namespace Go.Scr.S
theorem stood_eq {k a : Nat} : scrimref7_stood.f k (a : Int) = some ((st a : Nat) : Int) := by
  unfold scrimref7_stood.f st
  by_cases h : a = 0
  · subst h; rfl
  · rw [if_neg (by simp; omega), if_neg h]
theorem rmul7_eq {k a b : Nat} (ha : a < 65536) (hb : b < 65536) : scrimref7_Mul.f k (a : Int) (b : Int) = some ((im a b : Nat) : Int) := by
  have h1 := st_lt ha
  have h2 := st_lt hb
  have : st a * st b ≤ 65536 * 65536 := Nat.mul_le_mul (by omega) (by omega)
  unfold scrimref7_Mul.f
  rw [stood_eq, stood_eq, Option.bind_some, Option.bind_some, ← Int.natCast_mul, I64_nat (by omega)]; rfl
theorem rinv7_same (n : Nat) : ∀ {k a o m : Nat}, n < k → a < 65536 → o < 65536 → m < 2 ^ n → m < 65536 → scrimref7_Inv.l0 k (a : Int) (o : Int) (m : Int) = idea_Inv.l0 k (a : Int) (o : Int) (m : Int) := by
  induction n with
  | zero =>
    intro k a o m hk ha ho hm hb
    obtain ⟨k, rfl⟩ : ∃ j, k = j + 1 := ⟨k - 1, by omega⟩
    have : m = 0 := by omega
    subst this
    simp only [scrimref7_Inv.l0, idea_Inv.l0]
    rw [if_neg (by simp), if_neg (by simp)]
  | succ n ih =>
    intro k a o m hk ha ho hm hb
    obtain ⟨k, rfl⟩ : ∃ j, k = j + 1 := ⟨k - 1, by omega⟩
    simp only [scrimref7_Inv.l0, idea_Inv.l0]
    have e1 : Int.tmod (m : Int) 2 = ((m % 2 : Nat) : Int) := rfl
    have e2 : I64 (Int.tdiv (m : Int) 2) = ((m / 2 : Nat) : Int) := I64_nat (n := m / 2) (by omega)
    rw [e1, e2, mul7_eq ha ha, mul7_eq ho ha, rmul7_eq ha ha, rmul7_eq ho ha]
    simp only [Option.bind_some]
    rw [Nat.pow_succ] at hm
    rw [ih (by omega) (im_lt _ _) (im_lt _ _) (by omega) (by omega), ih (by omega) (im_lt _ _) ho (by omega) (by omega)]
    have e3 : ((((m % 2 : Nat) : Int) == 1) : Bool) = decide (((m % 2 : Nat) : Int) > 0) := by
      rcases Nat.mod_two_eq_zero_or_one m with h | h <;> rw [h] <;> rfl
    rw [e3]
theorem rinv7_eq {k a : Nat} (hk : 20 < k) (ha : a < 65536) : scrimref7_Inv.f k (a : Int) = some ((iv a : Nat) : Int) := by
  rw [← inv7_eq hk ha]
  unfold scrimref7_Inv.f idea_Inv.f
  exact rinv7_same 16 (o := 1) (m := eA) (by omega) ha (by decide) (by decide) (by decide)
theorem mu_l0 {l : List Int} {x y : Nat} (hx : x < 65536) (hy : y < 65536) (hl : l.length < 1000) (d : Nat) {k i : Nat} (hk : d + 100 < k) (hi : i + d = l.length) :
    scrimlaw7_IdeaMul.l0 k (l, 0) (l, 0) (x : Int) (y : Int) (i : Int) = some true := by
  induction d generalizing k i with
  | zero =>
    obtain ⟨k, rfl⟩ : ∃ j, k = j + 1 := ⟨k - 1, by omega⟩
    simp only [scrimlaw7_IdeaMul.l0]
    have m0 := mul7_eq (k := k) (a := 0) (by decide) hy
    have m1 := rmul7_eq (k := k) (a := 0) (by decide) hy
    simp only [Int.cast_ofNat_Int] at m0 m1
    rw [if_neg (by rw [decide_eq_true_eq]; omega), mul7_eq hx hy, rmul7_eq hx hy, inv7_eq (by omega) hx, rinv7_eq (by omega) hx, m0, m1]
    simp
  | succ d ih =>
    obtain ⟨k, rfl⟩ : ∃ j, k = j + 1 := ⟨k - 1, by omega⟩
    simp only [scrimlaw7_IdeaMul.l0]
    have e : I64 ((i : Int) + 1) = ((i + 1 : Nat) : Int) := I64_nat (n := i + 1) (by omega)
    rw [if_pos (by rw [decide_eq_true_eq]; omega), if_pos (by rw [decide_eq_true_eq]; omega), if_pos (by rw [decide_eq_true_eq]; omega), if_pos (by rw [decide_eq_true_eq]; omega), if_pos (by rw [decide_eq_true_eq]; omega), if_neg (by simp), e]
    exact ih (by omega) (by omega)
theorem rawkeys {l : List Nat} (hl : ∀ x ∈ l, x < 256) {k : Nat} (hk : 200 ≤ k) : ∃ a b e, idea_Keys.f k (il l) = some (a, e) ∧ scrimref7_Keys.f k (il l) = some (b, e) := by
  by_cases h : l.length = 16
  · exact ⟨_, _, _, keys7_eq hl h (by omega), rkeys7_eq hl h hk⟩
  · refine ⟨[], [], 4, ?_, ?_⟩
    · unfold idea_Keys.f; rw [if_pos (by rw [il_length]; simp; omega)]
    · unfold scrimref7_Keys.f; rw [if_pos (by rw [il_length]; simp; omega)]
theorem IdeaMul (a0 : Int) (a1 : Int) (a2 : List Int) (a3 : List Int) (h0 : In .i64 a0) (h1 : In .i64 a1) (h2 : a2.length ≤ maxLen) (h3 : ∀ x ∈ a2, In .u8 x) (h4 : a3.length ≤ maxLen) (h5 : ∀ x ∈ a3, In .u8 x) :
    ∃ k, scrimlaw7_IdeaMul.f k a0 a1 a2 a3 = some true := by
  obtain ⟨x, hx, ex⟩ := res7 a0
  obtain ⟨y, hy, ey⟩ := res7 a1
  obtain ⟨l2, rfl, hl2⟩ := il_of h3
  obtain ⟨l3, rfl, hl3⟩ := il_of h5
  obtain ⟨k, hk⟩ : ∃ k : Nat, 1000 ≤ k := ⟨1000, Nat.le_refl _⟩
  refine ⟨k, ?_⟩
  have w0 := within7_eq (k := k) a0 65536 (by decide) (by decide)
  have w1 := within7_eq (k := k) a1 65536 (by decide) (by decide)
  rw [ex] at w0; rw [ey] at w1
  obtain ⟨m, e1, hm1, hm2⟩ := bytes7_eq (n := 16) (by decide) hl2 (k := k) (by omega)
  simp only [Int.cast_ofNat_Int] at e1
  have e2 := keys7_eq hm2 hm1 (k := k) (by omega)
  have e3 := rkeys7_eq hm2 hm1 (k := k) (by omega)
  obtain ⟨a, b, e, e4, e5⟩ := rawkeys hl3 (k := k) (by omega)
  unfold scrimlaw7_IdeaMul.f
  simp only [known7_eq (show 600 ≤ k by omega), w0, w1, e1, e2, e3, e4, e5, Option.bind_some, Bool.not_true, Bool.false_eq_true, if_false, bne_self_eq_false]
  split
  · rfl
  · exact mu_l0 hx hy (by rw [il_length, List.length_take]; omega) _ (i := 0) (k := k) (by rw [il_length, List.length_take]; omega) (Nat.zero_add _)
end Go.Scr.S
