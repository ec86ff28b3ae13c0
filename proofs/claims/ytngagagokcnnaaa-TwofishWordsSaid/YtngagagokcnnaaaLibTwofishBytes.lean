/- The plain law of TwofishBytes. -/
import Derived.Test.YtngagagokcnnaaaFnTwofishWords
import Derived.Test.YtngagagokcnnaaaLibNum
import Derived.Test.YtngagagokcnnaaaLibIl
set_option linter.unusedVariables false
set_option linter.unusedSimpArgs false
set_option linter.unnecessarySimpa false
namespace Go.Scr.S
theorem bytes9_l0 {n : Nat} (hn : n < 1000) (d : Nat) {k i : Nat} {x : List Nat} (hk : d < k) (hi : n ≤ i + d) (hx : x.length = n) (hb : ∀ y ∈ x, y < 256) :
    ∃ m, scrimlaw9_Bytes.l0 k (n : Int) (il x) (i : Int) = some (il m) ∧ m.length = n ∧ ∀ y ∈ m, y < 256 := by
  induction d generalizing k i x with
  | zero =>
    obtain ⟨k, rfl⟩ : ∃ j, k = j + 1 := ⟨k - 1, by omega⟩
    refine ⟨x, ?_, hx, hb⟩
    simp only [scrimlaw9_Bytes.l0]
    rw [if_neg (by rw [decide_eq_true_eq]; omega)]
  | succ d ih =>
    obtain ⟨k, rfl⟩ : ∃ j, k = j + 1 := ⟨k - 1, by omega⟩
    simp only [scrimlaw9_Bytes.l0]
    by_cases h : i < n
    · have e1 : I64 ((i : Int) * 37) = ((i * 37 : Nat) : Int) := by
        have : ((i : Int) * 37) = ((i * 37 : Nat) : Int) := by omega
        rw [this, I64_nat (by omega)]
      have e2 : I64 ((i : Int) + 1) = ((i + 1 : Nat) : Int) := by
        have : ((i : Int) + 1) = ((i + 1 : Nat) : Int) := by omega
        rw [this, I64_nat (by omega)]
      rw [if_pos (by rw [decide_eq_true_eq]; omega), if_pos (by rw [decide_eq_true_eq]; omega), if_pos (by rw [decide_eq_true_eq]; omega), e1, U8_nat, Int.toNat_natCast, il_set, e2]
      refine ih (by omega) (by omega) (by simp [hx]) fun y hy => ?_
      rcases List.mem_or_eq_of_mem_set hy with hy | rfl
      · exact hb y hy
      · omega
    · rw [if_neg (by rw [decide_eq_true_eq]; omega)]
      exact ⟨x, rfl, hx, hb⟩
theorem bytes9_eq {n : Nat} (hn : n < 1000) {l : List Nat} (hl : ∀ x ∈ l, x < 256) {k : Nat} (hk : n < k) : ∃ m, scrimlaw9_Bytes.f k (n : Int) (il l) = some (il m) ∧ m.length = n ∧ ∀ y ∈ m, y < 256 := by
  unfold scrimlaw9_Bytes.f
  rw [if_pos (by rw [decide_eq_true_eq]; omega), if_pos (by rw [decide_eq_true_eq]; omega), Int.toNat_natCast, il_replicate, il_length, il_length, List.length_replicate]
  have e : List.take n (il l) ++ List.drop l.length (il (List.replicate n 0)) = il (l.take n ++ (List.replicate n 0).drop l.length) := by simp [il, List.map_take]
  rw [e]
  refine bytes9_l0 hn n hk (by omega) (by simp; omega) fun y hy => ?_
  rcases List.mem_append.1 hy with hy | hy
  · exact hl y (List.mem_of_mem_take hy)
  · have := List.mem_of_mem_drop hy
    rw [List.mem_replicate] at this; omega
end Go.Scr.S
