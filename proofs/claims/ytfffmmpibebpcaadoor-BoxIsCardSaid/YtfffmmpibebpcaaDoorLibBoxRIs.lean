/- The plain law of BoxRIs. -/
import Derived.Test.YtfffmmpibebpcaaDoorFnBoxIs
import Derived.Test.YtfffmmpibebpcaaDoorLibNum
import Derived.Test.YtfffmmpibebpcaaDoorLibIl
import Derived.Test.YtfffmmpibebpcaaDoorLibBoxIsL
import Derived.Test.YtfffmmpibebpcaaDoorLibPigeon
import Derived.Test.YtfffmmpibebpcaaDoorLibBoxBackL
set_option linter.unusedVariables false
set_option linter.unusedSimpArgs false
set_option linter.unnecessarySimpa false
namespace Go.Scr.S
theorem nodup_le (n : Nat) : ∀ l : List Nat, l.Nodup → (∀ x ∈ l, x < n) → l.length ≤ n := by
  induction n with
  | zero =>
    intro l _ h
    cases l with
    | nil => exact Nat.le_refl _
    | cons x l => exact absurd (h x (by simp)) (Nat.not_lt_zero _)
  | succ n ih =>
    intro l hn h
    have h1 := ih (l.erase n) (hn.erase n) (fun x hx => by
      have := (hn.mem_erase_iff).1 hx
      have h2 := h x this.2
      omega)
    by_cases hm : n ∈ l
    · rw [List.length_erase_of_mem hm] at h1; omega
    · rw [List.erase_of_not_mem hm] at h1; omega
def pp (l : List Nat) : Bool := decide (l.Nodup ∧ ∀ x ∈ l, x < l.length)
theorem pp_isP {l : List Nat} (hl : ∀ x ∈ l, x < 256) : pp l = isP l := by
  rw [Bool.eq_iff_iff]
  unfold pp
  rw [decide_eq_true_eq]
  constructor
  · rintro ⟨hn, hx⟩
    refine isP_of (nodup_le 256 l hn hl) fun v _ => ⟨fun hv => hx v hv, fun hv => ?_⟩
    by_cases hm : v ∈ l
    · exact hm
    · have := nodup_le l.length (v :: l) (List.nodup_cons.2 ⟨hm, hn⟩) (fun x hx' => by
        rcases List.mem_cons.1 hx' with rfl | h
        · exact hv
        · exact hx x h)
      simp only [List.length_cons] at this; omega
  · intro h
    obtain ⟨h1, h2⟩ := isP_spec h
    exact ⟨nodup_of_all l.length l rfl fun v hv => (h2 v (by omega)).2 hv, fun x hx => (h2 x (hl x hx)).1 hx⟩
theorem rdb_marks (P : Nat → Bool) {v : Nat} (h : v < 256) : rdb (marks P) (v : Int) = P v := by
  unfold rdb
  rw [Int.toNat_natCast, List.getD_eq_getElem?_getD, marks_at, if_pos h]; rfl
theorem ris_l0 {l : List Nat} (hl : ∀ x ∈ l, x < 256) (hlen : l.length < 1000000000) (d : Nat) {k i : Nat} (hk : d < k) (hi : i + d = l.length) (hn : (l.take i).Nodup) (hx : ∀ x ∈ l.take i, x < l.length) :
    scrimref4_Is.l0 k (il l) (marks fun u => decide (u ∈ l.take i)) (i : Int) = some (pp l) := by
  induction d generalizing k i with
  | zero =>
    obtain ⟨k, rfl⟩ : ∃ j, k = j + 1 := ⟨k - 1, by omega⟩
    rw [List.take_of_length_le (by omega)] at hn hx
    have : pp l = true := by unfold pp; rw [decide_eq_true_eq]; exact ⟨hn, hx⟩
    rw [scrimref4_Is.l0, if_neg (by rw [decide_eq_true_eq, il_length]; omega), this]
  | succ d ih =>
    obtain ⟨k, rfl⟩ : ∃ j, k = j + 1 := ⟨k - 1, by omega⟩
    have hil : i < l.length := by omega
    have c0 : ∀ z : Nat, decide (0 ≤ (z : Int)) = true := fun z => by rw [decide_eq_true_eq]; omega
    have c1 : decide ((i : Int) < ((il l).length : Int)) = true := by rw [decide_eq_true_eq, il_length]; omega
    have a2 : I64 ((i : Int) + 1) = ((i + 1 : Nat) : Int) := I64_nat (n := i + 1) (by omega)
    have ev : l.getD i 0 = l[i] := by rw [List.getD_eq_getElem?_getD, List.getElem?_eq_getElem hil]; rfl
    have hm : l.getD i 0 ∈ l := by rw [ev]; exact List.getElem_mem hil
    have hv := hl _ hm
    have iv : I64 ((l.getD i 0 : Nat) : Int) = ((l.getD i 0 : Nat) : Int) := I64_nat (by omega)
    have c5 : decide (((l.getD i 0 : Nat) : Int) < 256) = true := by rw [decide_eq_true_eq]; omega
    have tk : l.take (i + 1) = l.take i ++ [l.getD i 0] := by rw [ev]; exact List.take_succ_eq_append_getElem hil
    rw [scrimref4_Is.l0, if_pos c1, if_pos (c0 _), if_pos c1, il_rd', iv, Option.bind_some]
    by_cases hge : l.length ≤ l.getD i 0
    · have : pp l = false := by
        unfold pp; rw [decide_eq_false_iff_not]; intro h; have := h.2 _ hm; omega
      rw [if_pos (by rw [decide_eq_true_eq, il_length]; omega), this]
    rw [if_neg (by rw [decide_eq_true_eq, il_length]; omega), if_pos (c0 _), if_pos c1, if_pos (c0 _), if_pos c5, rdb_marks _ hv]
    by_cases hin : l.getD i 0 ∈ l.take i
    · have : pp l = false := by
        unfold pp; rw [decide_eq_false_iff_not]; intro h
        have h2 : (l.take (i + 1)).Nodup := h.1.sublist (List.take_sublist _ _)
        rw [tk] at h2
        exact (List.nodup_append.1 h2).2.2 _ hin _ (by simp) rfl
      rw [if_pos (by rw [decide_eq_true_eq]; exact hin), this]
    · rw [if_neg (by rw [decide_eq_true_eq]; exact hin), if_pos (c0 _), if_pos c1, if_pos (c0 _), if_pos c5, Int.toNat_natCast, marks_set, a2]
      have := ih (k := k) (i := i + 1) (by omega) (by omega) (by
        rw [tk]; exact List.nodup_append.2 ⟨hn, by simp, fun a ha b hb e => by simp at hb; subst e; subst hb; exact hin ha⟩) (fun x hx' => by
        rw [tk] at hx'
        rcases List.mem_append.1 hx' with h | h
        · exact hx x h
        · rw [List.mem_singleton] at h; subst h; omega)
      rw [marks_congr (fun u => (mem_take_succ l hil u).symm)]
      exact this
theorem ris_eq {l : List Nat} (hl : ∀ x ∈ l, x < 256) (hlen : l.length < 1000000000) {k : Nat} (hk : l.length < k) : scrimref4_Is.f k (il l) = some (isP l) := by
  unfold scrimref4_Is.f
  have := ris_l0 hl hlen l.length (k := k) (i := 0) hk (by omega) (by simp) (by simp)
  rw [pp_isP hl, marks_congr (Q := fun _ => false) (by intro u; simp)] at this
  rw [marks_none]; exact this
theorem rback_l0 : ∀ (k : Nat) (a x : List Int) (i : Int), scrimref4_Back.l0 k a x i = box_Back.l0 k a x i
  | 0, _, _, _ => rfl
  | k + 1, a, x, i => by simp only [scrimref4_Back.l0, box_Back.l0, rback_l0 k]
/-- Both Backs. -/
theorem two_back {l : List Nat} (hl : ∀ x ∈ l, x < 256) (hlen : l.length < 1000000000) {k : Nat} (hk : 700 ≤ k) (hk2 : l.length < k) : ∃ r, box_Back.f k (il l) = some r ∧ scrimref4_Back.f k (il l) = some r := by
  have e : scrimref4_Back.f k (il l) = box_Back.f k (il l) := by
    unfold scrimref4_Back.f box_Back.f
    rw [is_eq hl (by omega), ris_eq hl hlen hk2, Option.bind_some, Option.bind_some, rback_l0]
  rw [e]
  cases h : isP l with
  | true =>
    obtain ⟨u, b, _⟩ := back_eq hl h (k := k) (by omega)
    exact ⟨_, b, b⟩
  | false =>
    have : box_Back.f k (il l) = some ([], false) := by
      unfold box_Back.f
      rw [is_eq hl (by omega), h, Option.bind_some, if_pos (by decide)]
    exact ⟨_, this, this⟩
end Go.Scr.S
