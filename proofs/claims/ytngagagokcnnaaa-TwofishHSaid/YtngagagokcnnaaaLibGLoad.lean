/- The plain law of GLoad. -/
import Derived.Test.YtngagagokcnnaaaFnTwofishH
import Derived.Test.YtngagagokcnnaaaLibNum
import Derived.Test.YtngagagokcnnaaaLibIl
set_option linter.unusedVariables false
set_option linter.unusedSimpArgs false
set_option linter.unnecessarySimpa false
namespace Go.Scr.S
/-- Digits, the greatest first. -/
def bigN (l : List Nat) : Nat := l.foldl (fun v b => v * 256 + b) 0
theorem il_rd {l : List Nat} {i : Nat} (h : i < l.length) : rd (il l) (i : Int) = ((l[i] : Nat) : Int) := by
  unfold rd il; rw [Int.toNat_natCast, List.getD_eq_getElem?_getD, List.getElem?_map, List.getElem?_eq_getElem h]; rfl
theorem bigN_snoc (l : List Nat) (b : Nat) : bigN (l ++ [b]) = bigN l * 256 + b := by simp [bigN]
theorem bigN_lt (l : List Nat) (h : ∀ x ∈ l, x < 256) : bigN l < 256 ^ l.length := by
  suffices H : ∀ m : List Nat, (∀ x ∈ m, x < 256) → bigN m.reverse < 256 ^ m.length by
    have := H l.reverse (fun x hx => h x (by simpa using hx)); simpa using this
  intro m hm
  induction m with
  | nil => decide
  | cons b m ih =>
    rw [List.reverse_cons, bigN_snoc, List.length_cons, Nat.pow_succ]
    have h1 := ih (fun x hx => hm x (by simp [hx])); have h2 := hm b (by simp)
    generalize 256 ^ m.length = p at *
    omega
theorem load_l0 {l : List Nat} (hl : ∀ x ∈ l, x < 256) (h8 : l.length ≤ 8) (d : Nat) {k i : Nat} (hi : i + d = l.length) (hk : d < k) :
    words_load.l0 k (il l) ((bigN (l.take i) : Nat) : Int) (i : Int) = some ((bigN l : Nat) : Int) := by
  induction d generalizing k i with
  | zero =>
    obtain ⟨k, rfl⟩ : ∃ j, k = j + 1 := ⟨k - 1, by omega⟩
    simp only [words_load.l0]
    rw [il_length, if_neg (by simp; omega), List.take_of_length_le (by omega)]
  | succ d ih =>
    obtain ⟨k, rfl⟩ : ∃ j, k = j + 1 := ⟨k - 1, by omega⟩
    have hlt : i < l.length := by omega
    have hb : l[i] < 256 := hl _ (List.getElem_mem _)
    have h1 := bigN_lt (l.take i) (fun x hx => hl x (List.mem_of_mem_take hx))
    have h2 : bigN (l.take i) < 256 ^ 7 := Nat.lt_of_lt_of_le h1 (Nat.pow_le_pow_right (by decide) (by simp; omega))
    have h3 : bigN (l.take i) <<< 8 < 18446744073709551616 := by rw [Nat.shiftLeft_eq]; omega
    have e1 : shl .u64 ((bigN (l.take i) : Nat) : Int) 8 = ((bigN (l.take i) <<< 8 : Nat) : Int) := by rw [shl64, Nat.mod_eq_of_lt h3]
    have e2 : U64 ((l[i] : Nat) : Int) = ((l[i] : Nat) : Int) := U64_id (by omega) (by omega)
    have e3 := bo64 h3 (b := l[i]) (by omega)
    have e4 : bigN (l.take i) <<< 8 ||| l[i] = bigN (l.take (i + 1)) := by
      rw [List.take_succ_eq_append_getElem hlt, bigN_snoc, ← Nat.shiftLeft_add_eq_or_of_lt (by omega : l[i] < 2 ^ 8), Nat.shiftLeft_eq]
    have e5 : I64 ((i : Int) + 1) = ((i + 1 : Nat) : Int) := by rw [I64_id (by omega) (by omega)]; simp
    simp only [words_load.l0]
    rw [il_length, if_pos (by simp; omega), if_pos (by simp), if_pos (by simp; omega), il_rd hlt, e1, e2, e3, e4, e5]
    exact ih (by omega) (by omega)
theorem load_eq {l : List Nat} {k : Nat} (hl : ∀ x ∈ l, x < 256) (h8 : l.length ≤ 8) (hk : 8 < k) : words_load.f k (il l) = some ((bigN l : Nat) : Int) := load_l0 hl h8 l.length (i := 0) (by omega) (by omega)
theorem be32_eq {l : List Nat} {k : Nat} (hl : ∀ x ∈ l, x < 256) (h4 : l.length = 4) (hk : 8 < k) : words_Be32.f k (il l) = some (((bigN l : Nat) : Int), true) := by
  unfold words_Be32.f
  rw [il_length, h4, if_neg (by decide), load_eq hl (by omega) hk]
  have := bigN_lt l hl; rw [h4] at this
  show some _ = _
  rw [U32_id (by omega) (by omega)]
theorem be32_none {l : List Int} {k : Nat} (h4 : l.length ≠ 4) : words_Be32.f k l = some (0, false) := by
  unfold words_Be32.f
  rw [if_pos (by simp; omega)]
