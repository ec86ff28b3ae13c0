/- The plain law of SmallErrs. -/
import Derived.Test.YtahfhogifkkoeaaFnSmallErrs
import Derived.Test.YtahfhogifkkoeaaLibNum
import Derived.Test.YtahfhogifkkoeaaLibIl
import Derived.Test.YtahfhogifkkoeaaLibGRest
import Derived.Test.YtahfhogifkkoeaaLibGRol
import Derived.Test.YtahfhogifkkoeaaLibGRRol
import Derived.Test.YtahfhogifkkoeaaLibSmNum
import Derived.Test.YtahfhogifkkoeaaLibSmRol
import Derived.Test.YtahfhogifkkoeaaLibSmG
import Derived.Test.YtahfhogifkkoeaaLibGLoad
import Derived.Test.YtahfhogifkkoeaaLibFill
import Derived.Test.YtahfhogifkkoeaaLibGIl
import Derived.Test.YtahfhogifkkoeaaLibGStore
import Derived.Test.YtahfhogifkkoeaaLibSmWords
import Derived.Test.YtahfhogifkkoeaaLibSmX
import Derived.Test.YtahfhogifkkoeaaLibSmM
import Derived.Test.YtahfhogifkkoeaaLibSmR5
import Derived.Test.YtahfhogifkkoeaaLibSmRefN
import Derived.Test.YtahfhogifkkoeaaLibSmTags
import Derived.Test.YtahfhogifkkoeaaLibSmK
import Derived.Test.YtahfhogifkkoeaaLibSmW
import Derived.Test.YtahfhogifkkoeaaLibSmallBytes
set_option linter.unusedVariables false
set_option linter.unusedSimpArgs false
set_option linter.unnecessarySimpa false
namespace Go.Scr.S
/-- Both make a cipher, or both refuse with the same word. -/
def Both (k : Nat) (t : Int) (l : List Int) : Prop := (∃ S R, small_New.f k t l = some (some S, 0) ∧ scrimref8_New.f k t l = some (some R, 0)) ∨ ∃ e : Int, e ≠ 0 ∧ small_New.f k t l = some (none, e) ∧ scrimref8_New.f k t l = some (none, e)
theorem both {l : List Nat} (hl : ∀ x ∈ l, x < 256) (t : Int) {k : Nat} (hk : 200 ≤ k) : Both k t (il l) := by
  by_cases t4 : t = 4
  · subst t4
    by_cases h : l.length = 16
    · exact .inl ⟨_, _, new4 h hl (by omega), rnew4 h hl hk⟩
    · have c : (((il l).length : Int) != 16) = true := by rw [il_length, bne_iff_ne]; omega
      refine .inr ⟨4, by decide, ?_, ?_⟩
      · unfold small_New.f; rw [if_pos (by decide), if_pos c]
      · unfold scrimref8_New.f; rw [if_pos (by decide), if_pos c]
  by_cases t8 : t = 8
  · subst t8
    by_cases h : l.length = 16
    · exact .inl ⟨_, _, new8 h hl hk, rnew8 h hl hk⟩
    · have c : (((il l).length : Int) != 16) = true := by rw [il_length, bne_iff_ne]; omega
      refine .inr ⟨4, by decide, ?_, ?_⟩
      · unfold small_New.f; rw [if_neg (by decide), if_pos (by decide), if_pos c]
      · unfold scrimref8_New.f; rw [if_neg (by decide), if_pos (by decide), if_pos c]
  by_cases t5 : t = 5
  · subst t5
    by_cases h : l.length = 32
    · exact .inl ⟨_, _, new5 h hl (by omega), rnew5 h hl hk⟩
    · have c : (((il l).length : Int) != 32) = true := by rw [il_length, bne_iff_ne]; omega
      refine .inr ⟨4, by decide, ?_, ?_⟩
      · unfold small_New.f; rw [if_neg (by decide), if_neg (by decide), if_pos (by decide), if_pos c]
      · unfold scrimref8_New.f; rw [if_neg (by decide), if_neg (by decide), if_pos (by decide), if_pos c]
  have b4 : ¬ ((t == 4) = true) := by rw [beq_iff_eq]; exact t4
  have b8 : ¬ ((t == 8) = true) := by rw [beq_iff_eq]; exact t8
  have b5 : ¬ ((t == 5) = true) := by rw [beq_iff_eq]; exact t5
  refine .inr ⟨2, by decide, ?_, ?_⟩
  · unfold small_New.f; rw [if_neg b4, if_neg b8, if_neg b5]
  · unfold scrimref8_New.f; rw [if_neg b4, if_neg b8, if_neg b5]
theorem new_blk {j : Nat} (hj : j < 3) {m : List Nat} (h : m.length = sz j) (hm : ∀ x ∈ m, x < 256) : ∃ S, (∀ k, 200 ≤ k → small_New.f k (tagN j : Int) (il m) = some (some S, 0)) ∧ ∀ k, 200 ≤ k → ∀ (dir : Bool) (n : List Nat), n.length = 8 → (∀ x ∈ n, x < 256) → ∃ o : List Nat, o.length = 8 ∧ small_Small_Block.f k S (il n) dir = some (il o, 0) := by
  have oB : ∀ p, (outB p).length = 8 := fun p => by unfold outB; rw [dig4, dig4]; rfl
  have oL : ∀ p, (outL p).length = 8 := fun p => by unfold outL digR; rw [dig4, dig4]; rfl
  match j, hj, h with
  | 0, _, h => exact ⟨_, fun k hk => new4 h hm (by omega), fun k hk dir n hn hnb => ⟨_, oB _, block4 (W_length false 4 m h) hn hnb dir (by omega)⟩⟩
  | 1, _, h => exact ⟨_, fun k hk => new5 h hm (by omega), fun k hk dir n hn hnb => ⟨_, oB _, block5 (W_length false 8 m h) hn hnb dir (by omega)⟩⟩
  | 2, _, h => exact ⟨_, fun k hk => new8 h hm hk, fun k hk dir n hn hnb => ⟨_, oL _, block8 (s5_length _) (s5_lt _) hn hnb dir (by omega)⟩⟩
theorem pass0 {α : Type} (x : α) (e : Int) (f : α → Option Bool) (g : Option Bool) : (if ((some x, e) : Option α × Int).1.isSome = true then ((some x, e) : Option α × Int).1.bind f else g) = f x := rfl
theorem pass1 {α : Type} (e : Int) (f : α → Option Bool) (g : Option Bool) : (if ((none, e) : Option α × Int).1.isSome = true then ((none, e) : Option α × Int).1.bind f else g) = g := rfl
theorem errs_l0 {l1 l2 : List Nat} (hl1 : ∀ x ∈ l1, x < 256) (hl2 : ∀ x ∈ l2, x < 256) (a0 a3 t7 : Int) (d : Nat) {k i : Nat} (hk : d + 300 < k) (hi : i + d = 5) :
    scrimlaw8_SmallErrs.l0 k a0 (il l1) (il l2) a3 t7 (i : Int) = some true := by
  induction d generalizing k i with
  | zero =>
    obtain ⟨k, rfl⟩ : ∃ j, k = j + 1 := ⟨k - 1, by omega⟩
    obtain ⟨j, hj, ej⟩ : ∃ i : Nat, i < 3 ∧ a3 % 3 = i := ⟨(a3 % 3).toNat, by omega, by omega⟩
    have w1 := within8_eq (k := k) a3 3 (by decide) (by decide)
    rw [ej] at w1
    obtain ⟨tl, ht, hl, hr⟩ := tags_at (k := k) hj
    have hs := size_at (k := k) hj
    have hsz := sz_le j
    obtain ⟨m, b1, hm, hmb⟩ := bytes8_eq (n := sz j) (by omega) hl1 (k := k) (by omega)
    obtain ⟨S, nw, bk⟩ := new_blk hj hm hmb
    have c0 : decide (0 ≤ (j : Int)) = true := by rw [decide_eq_true_eq]; omega
    have c1 : decide ((j : Int) < (tl.length : Int)) = true := by rw [decide_eq_true_eq, hl]; omega
    rw [scrimlaw8_SmallErrs.l0, if_neg (by rw [decide_eq_true_eq]; omega), w1, Option.bind_some, ht, Option.bind_some, if_pos c0, if_pos c1, hs, Option.bind_some, b1, Option.bind_some, hr, nw k (by omega), Option.bind_some, pass0]
    by_cases h8 : l2.length = 8
    · obtain ⟨o, ho, e⟩ := bk k (by omega) (Int.tmod a3 2 == 0) l2 h8 hl2
      rw [e, Option.bind_some, if_neg (by rw [il_length, h8]; decide)]
      show (if ((0 : Int) == 0) = true then some (((il o).length : Int) == 8) else some false) = some true
      rw [if_pos (by decide), il_length, ho]; rfl
    · have c : (((il l2).length : Int) != 8) = true := by rw [il_length, bne_iff_ne]; omega
      have e : small_Small_Block.f k S (il l2) (Int.tmod a3 2 == 0) = some ([], 1) := by unfold small_Small_Block.f; rw [if_pos c]
      rw [e, Option.bind_some, if_pos c]; rfl
  | succ d ih =>
    obtain ⟨k, rfl⟩ : ∃ j, k = j + 1 := ⟨k - 1, by omega⟩
    obtain ⟨j, hj, ej⟩ : ∃ i : Nat, i < 40 ∧ a3 % 40 = i := ⟨(a3 % 40).toNat, by omega, by omega⟩
    have w1 := within8_eq (k := k) a3 40 (by decide) (by decide)
    rw [ej] at w1
    obtain ⟨m, b1, hm, hmb⟩ := bytes8_eq (n := j) (by omega) hl1 (k := k) (by omega)
    have c0 : decide (0 ≤ (i : Int)) = true := by rw [decide_eq_true_eq]; omega
    have c1 : decide ((i : Int) < 5) = true := by rw [decide_eq_true_eq]; omega
    have a2 : I64 ((i : Int) + 1) = ((i + 1 : Nat) : Int) := I64_nat (n := i + 1) (by omega)
    have next := ih (k := k) (i := i + 1) (by omega) (by omega)
    have bn : ∀ e : Int, e ≠ 0 → (e != 0) = true := fun e he => by rw [bne_iff_ne]; exact he
    have bs : ∀ e : Int, (e != e) = false := fun e => by simp
    rw [scrimlaw8_SmallErrs.l0]
    generalize rd [a0, t7, 4, 5, 8] (i : Int) = t
    rcases both hl1 t (k := k) (by omega) with ⟨S, R, n1, n2⟩ | ⟨e, he, n1, n2⟩
    · rcases both hmb t (k := k) (by omega) with ⟨S', R', n3, n4⟩ | ⟨e', he', n3, n4⟩
      · rw [if_pos c1, if_pos c0, if_pos c1, n1, Option.bind_some, if_pos c0, if_pos c1, n2, Option.bind_some, if_pos c0, if_pos c1, w1, Option.bind_some, b1, Option.bind_some, n3, Option.bind_some, if_pos c0, if_pos c1, Option.bind_some, b1, Option.bind_some, n4, Option.bind_some]
        show scrimlaw8_SmallErrs.l0 k a0 (il l1) (il l2) a3 t7 (I64 ((i : Int) + 1)) = some true
        rw [a2]; exact next
      · rw [if_pos c1, if_pos c0, if_pos c1, n1, Option.bind_some, if_pos c0, if_pos c1, n2, Option.bind_some, if_pos c0, if_pos c1, w1, Option.bind_some, b1, Option.bind_some, n3, Option.bind_some, if_pos c0, if_pos c1, Option.bind_some, b1, Option.bind_some, n4, Option.bind_some]
        show (if (e' != e') = true then some false else if (!(true == (e' != 0))) = true then some false else scrimlaw8_SmallErrs.l0 k a0 (il l1) (il l2) a3 t7 (I64 ((i : Int) + 1))) = some true
        rw [bs, if_neg (by decide), bn e' he', if_neg (by decide), a2]; exact next
    · rcases both hmb t (k := k) (by omega) with ⟨S', R', n3, n4⟩ | ⟨e', he', n3, n4⟩
      · rw [if_pos c1, if_pos c0, if_pos c1, n1, Option.bind_some, if_pos c0, if_pos c1, n2, Option.bind_some, if_pos c0, if_pos c1, w1, Option.bind_some, b1, Option.bind_some, n3, Option.bind_some, if_pos c0, if_pos c1, Option.bind_some, b1, Option.bind_some, n4, Option.bind_some]
        show (if (e != e) = true then some false else if (!(true == (e != 0))) = true then some false else scrimlaw8_SmallErrs.l0 k a0 (il l1) (il l2) a3 t7 (I64 ((i : Int) + 1))) = some true
        rw [bs, if_neg (by decide), bn e he, if_neg (by decide), a2]; exact next
      · rw [if_pos c1, if_pos c0, if_pos c1, n1, Option.bind_some, if_pos c0, if_pos c1, n2, Option.bind_some, if_pos c0, if_pos c1, w1, Option.bind_some, b1, Option.bind_some, n3, Option.bind_some, if_pos c0, if_pos c1, Option.bind_some, b1, Option.bind_some, n4, Option.bind_some]
        show (if (e != e) = true then some false else if (!(true == (e != 0))) = true then some false else if (e' != e') = true then some false else if (!(true == (e' != 0))) = true then some false else scrimlaw8_SmallErrs.l0 k a0 (il l1) (il l2) a3 t7 (I64 ((i : Int) + 1))) = some true
        rw [bs, if_neg (by decide), bn e he, if_neg (by decide), bs, if_neg (by decide), bn e' he', if_neg (by decide), a2]; exact next
theorem SmallErrs (a0 : Int) (a1 : List Int) (a2 : List Int) (a3 : Int) (h0 : In .i64 a0) (h1 : a1.length ≤ maxLen) (h2 : ∀ x ∈ a1, In .u8 x) (h3 : a2.length ≤ maxLen) (h4 : ∀ x ∈ a2, In .u8 x) (h5 : In .i64 a3) : ∃ k, scrimlaw8_SmallErrs.f k a0 a1 a2 a3 = some true := by
  obtain ⟨l1, rfl, hl1⟩ := il_of h2
  obtain ⟨l2, rfl, hl2⟩ := il_of h4
  obtain ⟨k, hk⟩ : ∃ k : Nat, 900 ≤ k := ⟨900, Nat.le_refl _⟩
  refine ⟨k, ?_⟩
  have w1 := within8_eq (k := k) a0 10 (by decide) (by decide)
  unfold scrimlaw8_SmallErrs.f
  rw [known8_eq (by omega), Option.bind_some, if_neg (by decide)]
  split
  · rfl
  split
  · rfl
  rw [w1, Option.bind_some]
  exact errs_l0 hl1 hl2 _ _ _ 5 (i := 0) (by omega) (by omega)
end Go.Scr.S
