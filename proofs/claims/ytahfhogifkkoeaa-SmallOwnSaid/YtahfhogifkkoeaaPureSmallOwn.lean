/- The plain law of SmallOwn. -/
import Derived.Test.YtahfhogifkkoeaaFnSmallOwn
import Derived.Test.YtahfhogifkkoeaaLibNum
import Derived.Test.YtahfhogifkkoeaaLibIl
import Derived.Test.YtahfhogifkkoeaaLibGRest
import Derived.Test.YtahfhogifkkoeaaLibGRol
import Derived.Test.YtahfhogifkkoeaaLibSmNum
import Derived.Test.YtahfhogifkkoeaaLibSmRol
import Derived.Test.YtahfhogifkkoeaaLibSmG
import Derived.Test.YtahfhogifkkoeaaLibGLoad
import Derived.Test.YtahfhogifkkoeaaLibFill
import Derived.Test.YtahfhogifkkoeaaLibGIl
import Derived.Test.YtahfhogifkkoeaaLibGStore
import Derived.Test.YtahfhogifkkoeaaLibSmWords
import Derived.Test.YtahfhogifkkoeaaLibSmX
import Derived.Test.YtahfhogifkkoeaaLibSmM
import Derived.Test.YtahfhogifkkoeaaLibSmR5
import Derived.Test.YtahfhogifkkoeaaLibSmTags
import Derived.Test.YtahfhogifkkoeaaLibSmStr
import Derived.Test.YtahfhogifkkoeaaLibSmK
import Derived.Test.YtahfhogifkkoeaaLibSmW
import Derived.Test.YtahfhogifkkoeaaLibSmallBytes
set_option linter.unusedVariables false
set_option linter.unusedSimpArgs false
set_option linter.unnecessarySimpa false
namespace Go.Scr.S
theorem new_blk {j : Nat} (hj : j < 3) {m : List Nat} (h : m.length = sz j) (hm : ∀ x ∈ m, x < 256) : ∃ S, (∀ k, 200 ≤ k → small_New.f k (tagN j : Int) (il m) = some (some S, 0)) ∧ ∀ (dir : Bool) (n : List Nat), n.length = 8 → (∀ x ∈ n, x < 256) → ∃ o : List Nat, o.length = 8 ∧ ∀ k, 200 ≤ k → small_Small_Block.f k S (il n) dir = some (il o, 0) := by
  have oB : ∀ p, (outB p).length = 8 := fun p => by unfold outB; rw [dig4, dig4]; rfl
  have oL : ∀ p, (outL p).length = 8 := fun p => by unfold outL digR; rw [dig4, dig4]; rfl
  match j, hj, h with
  | 0, _, h => exact ⟨_, fun k hk => new4 h hm (by omega), fun dir n hn hnb => ⟨_, oB _, fun k hk => block4 (W_length false 4 m h) hn hnb dir (by omega)⟩⟩
  | 1, _, h => exact ⟨_, fun k hk => new5 h hm (by omega), fun dir n hn hnb => ⟨_, oB _, fun k hk => block5 (W_length false 8 m h) hn hnb dir (by omega)⟩⟩
  | 2, _, h => exact ⟨_, fun k hk => new8 h hm hk, fun dir n hn hnb => ⟨_, oL _, fun k hk => block8 (s5_length _) (s5_lt _) hn hnb dir (by omega)⟩⟩
theorem pass0 {α : Type} (x : α) (e : Int) (f : α → Option Bool) (g : Option Bool) : (if ((some x, e) : Option α × Int).1.isSome = true then ((some x, e) : Option α × Int).1.bind f else g) = f x := rfl
theorem bytes_mono {k : Nat} (a0 : Int) : ∀ (k : Nat) (x : List Int) (i : Int) (r : List Int) (q : Nat), k ≤ q → scrimlaw8_Bytes.l0 k a0 x i = some r → scrimlaw8_Bytes.l0 q a0 x i = some r
  | 0, _, _, _, _, _, h => by rw [scrimlaw8_Bytes.l0] at h; cases h
  | k + 1, x, i, r, q, hq, h => by
    obtain ⟨q, rfl⟩ : ∃ j, q = j + 1 := ⟨q - 1, by omega⟩
    rw [scrimlaw8_Bytes.l0] at h ⊢
    by_cases c : decide (i < a0) = true
    · rw [if_pos c] at h ⊢
      by_cases c1 : decide (0 ≤ i) = true
      · rw [if_pos c1] at h ⊢
        by_cases c2 : decide (i < ((a0 : Int).toNat : Int)) = true
        · rw [if_pos c2] at h ⊢
          exact bytes_mono (k := k) a0 k _ _ r q (by omega) h
        · rw [if_neg c2] at h; cases h
      · rw [if_neg c1] at h; cases h
    · rw [if_neg c] at h ⊢; exact h
theorem bytes8_all {l : List Nat} (hl : ∀ x ∈ l, x < 256) : ∃ n : List Nat, n.length = 8 ∧ (∀ x ∈ n, x < 256) ∧ ∀ k, 8 < k → scrimlaw8_Bytes.f k 8 (il l) = some (il n) := by
  obtain ⟨n, b, hn, hnb⟩ := bytes8_eq (n := 8) (by decide) hl (k := 9) (by omega)
  refine ⟨n, hn, hnb, fun k hk => ?_⟩
  simp only [Int.cast_ofNat_Int] at b
  unfold scrimlaw8_Bytes.f at b ⊢
  rw [if_pos (by decide), if_pos (by decide)] at b ⊢
  exact bytes_mono (k := 9) 8 9 _ _ _ k (by omega) b
theorem own_l1 {l2 n o : List Nat} (hl2 : ∀ x ∈ l2, x < 256) {S : List Int × Int} (bk : ∀ k, 200 ≤ k → small_Small_Block.f k S (il n) false = some (il o, 0)) (ho : o.length = 8) (bn : ∀ k, 8 < k → scrimlaw8_Bytes.f k 8 (il l2) = some (il n)) (a3 : Int) (d : Nat) : ∀ {k i : Nat} {V : List Int}, d + 300 ≤ k → i + d = 8 → scrimlaw8_SmallOwn.l1 k (il l2) a3 S (il n) (il o, 0) V (i : Int) = some true := by
  have lo : (((il o, (0 : Int)).1.length : Nat) : Int) = 8 := by show ((il o).length : Int) = 8; rw [il_length, ho]; rfl
  induction d with
  | zero =>
    intro k i V hk hi
    obtain ⟨k, rfl⟩ : ∃ j, k = j + 1 := ⟨k - 1, by omega⟩
    rw [scrimlaw8_SmallOwn.l1, lo, if_neg (by rw [decide_eq_true_eq]; omega), bk k (by omega), Option.bind_some, if_pos (by rw [strOf_size, lo]; decide), if_pos (beq_self_eq_true _), bn k (by omega), Option.bind_some, beq_self_eq_true]
  | succ d ih =>
    intro k i V hk hi
    obtain ⟨k, rfl⟩ : ∃ j, k = j + 1 := ⟨k - 1, by omega⟩
    have a2 : I64 ((i : Int) + 1) = ((i + 1 : Nat) : Int) := I64_nat (n := i + 1) (by omega)
    have c0 : decide (0 ≤ (i : Int)) = true := by rw [decide_eq_true_eq]; omega
    have c1 : decide ((i : Int) < 8) = true := by rw [decide_eq_true_eq]; omega
    rw [scrimlaw8_SmallOwn.l1, lo, if_pos c1, if_pos c0, if_pos c1, if_pos c0, if_pos c1, a2]
    exact ih (by omega) (by omega)
theorem own_l2 {l2 n o : List Nat} (hl2 : ∀ x ∈ l2, x < 256) {S : List Int × Int} (bk : ∀ k, 200 ≤ k → small_Small_Block.f k S (il n) false = some (il o, 0)) (ho : o.length = 8) (bn : ∀ k, 8 < k → scrimlaw8_Bytes.f k 8 (il l2) = some (il n)) (a3 : Int) (d : Nat) : ∀ {k i : Nat} {V : List Int}, d + 300 ≤ k → i + d = 8 → scrimlaw8_SmallOwn.l2 k (il l2) a3 S (il n) (il o, 0) V (i : Int) = some true := by
  have lo : (((il o, (0 : Int)).1.length : Nat) : Int) = 8 := by show ((il o).length : Int) = 8; rw [il_length, ho]; rfl
  induction d with
  | zero =>
    intro k i V hk hi
    obtain ⟨k, rfl⟩ : ∃ j, k = j + 1 := ⟨k - 1, by omega⟩
    rw [scrimlaw8_SmallOwn.l2, lo, if_neg (by rw [decide_eq_true_eq]; omega), bk k (by omega), Option.bind_some, if_pos (by rw [strOf_size, lo]; decide), if_pos (beq_self_eq_true _), bn k (by omega), Option.bind_some, beq_self_eq_true]
  | succ d ih =>
    intro k i V hk hi
    obtain ⟨k, rfl⟩ : ∃ j, k = j + 1 := ⟨k - 1, by omega⟩
    have a2 : I64 ((i : Int) + 1) = ((i + 1 : Nat) : Int) := I64_nat (n := i + 1) (by omega)
    have c0 : decide (0 ≤ (i : Int)) = true := by rw [decide_eq_true_eq]; omega
    have c1 : decide ((i : Int) < 8) = true := by rw [decide_eq_true_eq]; omega
    rw [scrimlaw8_SmallOwn.l2, lo, if_pos c1, if_pos c0, if_pos c1, if_pos c0, if_pos c1, a2]
    exact ih (by omega) (by omega)
theorem own_l0 {l2 n o m : List Nat} (hl2 : ∀ x ∈ l2, x < 256) (hn : n.length = 8) (hnb : ∀ x ∈ n, x < 256) {S : List Int × Int} (bk : ∀ k, 200 ≤ k → small_Small_Block.f k S (il n) false = some (il o, 0)) (ho : o.length = 8) (bn : ∀ k, 8 < k → scrimlaw8_Bytes.f k 8 (il l2) = some (il n)) (a3 : Int) {j : Nat} (hj : j < 3) (hm : m.length = sz j) (d : Nat) : ∀ {k i : Nat} {V : List Nat}, d + 400 ≤ k → i + d = m.length → V.length = sz j → (∀ x ∈ V, x < 256) → scrimlaw8_SmallOwn.l0 k (il l2) a3 S (il n) (il o, 0) (j : Int) (il m) (il V) (i : Int) = some true := by
  have hsz := sz_le j
  induction d with
  | zero =>
    intro k i V hk hi hV hVb
    obtain ⟨k, rfl⟩ : ∃ j, k = j + 1 := ⟨k - 1, by omega⟩
    obtain ⟨tl, ht, hl, hr⟩ := tags_at (k := k) hj
    have c0 : decide (0 ≤ (j : Int)) = true := by rw [decide_eq_true_eq]; omega
    have c1 : decide ((j : Int) < (tl.length : Int)) = true := by rw [decide_eq_true_eq, hl]; omega
    obtain ⟨S', nw, b'⟩ := new_blk hj hV hVb
    obtain ⟨o', ho', e'⟩ := b' true n hn hnb
    rw [scrimlaw8_SmallOwn.l0, if_neg (by rw [decide_eq_true_eq, il_length]; omega), ht, Option.bind_some, if_pos c0, if_pos c1, hr, nw k (by omega), Option.bind_some, pass0, e' k (by omega), Option.bind_some]
    exact own_l1 hl2 bk ho bn a3 8 (i := 0) (by omega) (by omega)
  | succ d ih =>
    intro k i V hk hi hV hVb
    obtain ⟨k, rfl⟩ : ∃ j, k = j + 1 := ⟨k - 1, by omega⟩
    have a2 : I64 ((i : Int) + 1) = ((i + 1 : Nat) : Int) := I64_nat (n := i + 1) (by omega)
    have c0 : decide (0 ≤ (i : Int)) = true := by rw [decide_eq_true_eq]; omega
    have c1 : decide ((i : Int) < ((il m).length : Int)) = true := by rw [decide_eq_true_eq, il_length]; omega
    obtain ⟨v, hv, ev⟩ : ∃ v : Nat, v < 256 ∧ U8 (rd (il V) (i : Int) + a3) = (v : Int) := by
      refine ⟨(U8 (rd (il V) (i : Int) + a3)).toNat, ?_, ?_⟩ <;> (simp only [U8, IntKind.wrap, IntKind.bits, IntKind.signed]; simp; omega)
    rw [scrimlaw8_SmallOwn.l0, if_pos c1, if_pos c0, if_pos c1, if_pos c0, if_pos c1, ev, Int.toNat_natCast, il_set, a2]
    refine ih (by omega) (by omega) (by rw [List.length_set]; exact hV) fun x hx => ?_
    rcases List.mem_or_eq_of_mem_set hx with hx | rfl
    · exact hVb x hx
    · exact hv
theorem SmallOwn (a0 : Int) (a1 : List Int) (a2 : List Int) (a3 : Int) (h0 : In .i64 a0) (h1 : a1.length ≤ maxLen) (h2 : ∀ x ∈ a1, In .u8 x) (h3 : a2.length ≤ maxLen) (h4 : ∀ x ∈ a2, In .u8 x) (h5 : In .u8 a3) : ∃ k, scrimlaw8_SmallOwn.f k a0 a1 a2 a3 = some true := by
  obtain ⟨l1, rfl, hl1⟩ := il_of h2
  obtain ⟨l2, rfl, hl2⟩ := il_of h4
  obtain ⟨j, hj, ej⟩ : ∃ i : Nat, i < 3 ∧ a0 % 3 = i := ⟨(a0 % 3).toNat, by omega, by omega⟩
  obtain ⟨k, hk⟩ : ∃ k : Nat, 900 ≤ k := ⟨900, Nat.le_refl _⟩
  refine ⟨k, ?_⟩
  have w1 := within8_eq (k := k) a0 3 (by decide) (by decide)
  rw [ej] at w1
  obtain ⟨tl, ht, hl, hr⟩ := tags_at (k := k) hj
  have hs := size_at (k := k) hj
  have hsz := sz_le j
  obtain ⟨m, b1, hm, hmb⟩ := bytes8_eq (n := sz j) (by omega) hl1 (k := k) (by omega)
  obtain ⟨n, hn, hnb, b2⟩ := bytes8_all hl2
  obtain ⟨S, nw, bk⟩ := new_blk hj hm hmb
  obtain ⟨o, ho, e⟩ := bk false n hn hnb
  have c0 : decide (0 ≤ (j : Int)) = true := by rw [decide_eq_true_eq]; omega
  have c1 : decide ((j : Int) < (tl.length : Int)) = true := by rw [decide_eq_true_eq, hl]; omega
  unfold scrimlaw8_SmallOwn.f
  rw [known8_eq (by omega), Option.bind_some, if_neg (by decide), w1, Option.bind_some, hs, Option.bind_some, b1, Option.bind_some, ht, Option.bind_some, if_pos c0, if_pos c1, hr, nw k (by omega), Option.bind_some, pass0, b2 k (by omega), Option.bind_some, e k (by omega), Option.bind_some]
  exact own_l0 hl2 hn hnb e ho b2 a3 hj hm m.length (i := 0) (by omega) (by omega) hm hmb
end Go.Scr.S
