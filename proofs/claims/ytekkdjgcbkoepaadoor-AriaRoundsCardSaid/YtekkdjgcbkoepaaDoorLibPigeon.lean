/- The plain law of Pigeon. -/
import Derived.Test.YtekkdjgcbkoepaaDoorXDeep3
set_option linter.unusedVariables false
set_option linter.unusedSimpArgs false
set_option linter.unnecessarySimpa false
namespace Go.Scr.S
theorem len_of_all (m : Nat) : ∀ (l : List Nat), (∀ v, v < m → v ∈ l) → m ≤ l.length := by
  induction m with
  | zero => intro l _; exact Nat.zero_le _
  | succ m ih =>
    intro l h
    have h1 := ih (l.erase m) (fun v hv => (List.mem_erase_of_ne (by omega)).2 (h v (by omega)))
    rw [List.length_erase_of_mem (h m (by omega))] at h1
    have := List.length_pos_of_mem (h m (by omega))
    omega
theorem nodup_of_all (n : Nat) : ∀ (l : List Nat), l.length = n → (∀ v, v < n → v ∈ l) → l.Nodup := by
  induction n with
  | zero => intro l hl _; rw [List.length_eq_zero_iff.1 hl]; exact List.nodup_nil
  | succ n ih =>
    intro l hl h
    have hn := h n (by omega)
    have h1 : (l.erase n).length = n := by rw [List.length_erase_of_mem hn]; omega
    have h2 : ∀ v, v < n → v ∈ l.erase n := fun v hv => (List.mem_erase_of_ne (by omega)).2 (h v (by omega))
    have h3 := ih (l.erase n) h1 h2
    have h4 : n ∉ l.erase n := by
      intro hm
      have := len_of_all (n + 1) (l.erase n) (fun v hv => by
        by_cases e : v = n
        · subst e; exact hm
        · exact h2 v (by omega))
      omega
    exact (List.perm_cons_erase hn).nodup_iff.2 (List.nodup_cons.2 ⟨h4, h3⟩)
theorem inj_of_all {n : Nat} {l : List Nat} (hl : l.length = n) (h : ∀ v, v < n → v ∈ l) {i j : Nat} (hi : i < n) (hj : j < n) (e : l.getD i 0 = l.getD j 0) : i = j := by
  have hn := nodup_of_all n l hl h
  rw [List.getD_eq_getElem?_getD, List.getD_eq_getElem?_getD, List.getElem?_eq_getElem (by omega), List.getElem?_eq_getElem (by omega)] at e
  exact (List.getElem_inj hn).1 e
end Go.Scr.S
