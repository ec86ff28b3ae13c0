/- The plain law of Il. -/
import Derived.Test.YtngagagokcnnaaaXDeep3
import Derived.Test.YtngagagokcnnaaaLibNum
set_option linter.unusedVariables false
set_option linter.unusedSimpArgs false
set_option linter.unnecessarySimpa false
namespace Go.Scr.S
def il (l : List Nat) : List Int := l.map (fun n : Nat => (n : Int))
theorem il_length (l : List Nat) : (il l).length = l.length := by simp [il]
theorem il_rd' (l : List Nat) (i : Nat) : rd (il l) (i : Int) = ((l.getD i 0 : Nat) : Int) := by
  unfold rd il; rw [Int.toNat_natCast, List.getD_eq_getElem?_getD, List.getElem?_map, List.getD_eq_getElem?_getD]
  cases l[i]? <;> rfl
theorem getD_lt {l : List Nat} (hl : ∀ x ∈ l, x < 256) (i : Nat) : l.getD i 0 < 256 := by
  rw [List.getD_eq_getElem?_getD]
  cases e : l[i]? with
  | none => decide
  | some x => exact hl x (List.mem_of_getElem? e)
theorem il_of {l : List Int} (h : ∀ x ∈ l, In .u8 x) : ∃ m : List Nat, l = il m ∧ ∀ x ∈ m, x < 256 := by
  induction l with
  | nil => exact ⟨[], rfl, by simp⟩
  | cons b l ih =>
    obtain ⟨m, e, hm⟩ := ih (fun x hx => h x (by simp [hx]))
    obtain ⟨n, hn, en⟩ := u8_of (h b (by simp))
    exact ⟨n :: m, by rw [en, e]; rfl, by intro x hx; rcases List.mem_cons.1 hx with rfl | hx; exact hn; exact hm x hx⟩
theorem il_set (l : List Nat) (i v : Nat) : (il l).set i (v : Int) = il (l.set i v) := by simp [il, List.map_set]
theorem il_replicate (n : Nat) : List.replicate n (0 : Int) = il (List.replicate n 0) := by simp [il]
end Go.Scr.S
