/- The plain law of TwF. -/
import Derived.Test.YtngagagokcnnaaaFnTwofishWords
import Derived.Test.YtngagagokcnnaaaLibNum
import Derived.Test.YtngagagokcnnaaaLibGf
import Derived.Test.YtngagagokcnnaaaLibFieldMu0
import Derived.Test.YtngagagokcnnaaaLibIl
import Derived.Test.YtngagagokcnnaaaLibGLoad
import Derived.Test.YtngagagokcnnaaaLibFill
import Derived.Test.YtngagagokcnnaaaLibGIl
import Derived.Test.YtngagagokcnnaaaLibGStore
import Derived.Test.YtngagagokcnnaaaLibGXor
import Derived.Test.YtngagagokcnnaaaLibTwQ
import Derived.Test.YtngagagokcnnaaaLibTwH
import Derived.Test.YtngagagokcnnaaaLibTwM
set_option linter.unusedVariables false
set_option linter.unusedSimpArgs false
set_option linter.unnecessarySimpa false
namespace Go.Scr.S
/-- The rows by which eight bytes of a key are a word. -/
def cdL (r : Nat) : List Nat := if r = 0 then [1, 164, 85, 135, 90, 88, 219, 158] else if r = 1 then [164, 86, 130, 243, 30, 198, 104, 229] else if r = 2 then [2, 161, 252, 193, 71, 174, 61, 25] else [164, 85, 135, 90, 88, 219, 158, 3]
def cr (r j : Nat) : Nat := (cdL r).getD j 0
theorem cd_row : ∀ r : Nat, r < 4 → rdr ([] : List Int) ([([1, 164, 85, 135, 90, 88, 219, 158] : List Int), ([164, 86, 130, 243, 30, 198, 104, 229] : List Int), ([2, 161, 252, 193, 71, 174, 61, 25] : List Int), ([164, 85, 135, 90, 88, 219, 158, 3] : List Int)] : List (List Int)) (r : Int) = il (cdL r) := by decide
theorem cd_len : ∀ r : Nat, r < 4 → (cdL r).length = 8 := by decide
theorem cr_lt : ∀ r : Nat, r < 4 → ∀ j : Nat, j < 8 → cr r j < 256 := by decide
theorem cr_idx : ∀ r : Nat, r < 4 → ∀ j : Nat, j < 8 → rd ([1, 164, 85, 135, 90, 88, 219, 158, 164, 86, 130, 243, 30, 198, 104, 229, 2, 161, 252, 193, 71, 174, 61, 25, 164, 85, 135, 90, 88, 219, 158, 3] : List Int) (((r : Int) * (8 : Int)) + (j : Int)) = ((cr r j : Nat) : Int) := by decide
theorem r333 : Rst 333 := ⟨by decide, by decide⟩
def cm (r j : Nat) (m : List Nat) : Nat := mu 333 (cr r j) (m.getD j 0)
theorem cm_lt {r j : Nat} (hr : r < 4) (hj : j < 8) (m : List Nat) : cm r j m < 256 := mu_lt r333 (cr_lt r hr j hj) _
/-- A row's sum, from its place j on. -/
def sm (r : Nat) (m : List Nat) : Nat → Nat → Nat → Nat
  | _, 0, v => v
  | j, d + 1, v => sm r m (j + 1) d (v ^^^ cm r j m)
theorem sm_lt {r : Nat} (hr : r < 4) (m : List Nat) : ∀ d j v, j + d ≤ 8 → v < 256 → sm r m j d v < 256
  | 0, _, _, _, h => h
  | d + 1, j, v, h, hv => sm_lt hr m d (j + 1) _ (by omega) (x8lt hv (cm_lt hr (by omega) m))
theorem sm_at (r : Nat) (m : List Nat) : ∀ d j v, sm r m j d v = v ^^^ sm r m j d 0
  | 0, _, v => by simp [sm]
  | d + 1, j, v => by
    rw [sm, sm_at r m d (j + 1) (v ^^^ cm r j m), sm, sm_at r m d (j + 1) (0 ^^^ cm r j m), Nat.zero_xor, Nat.xor_assoc]
def B8 (x : List Nat) : Prop := x.length = 8 ∧ ∀ v ∈ x, v < 256
theorem f_l1 {m : List Nat} (hm : B8 m) {r : Nat} (hr : r < 4) (d : Nat) : ∀ {j k : Nat} {y : List Nat}, j + d = 8 → B4 y → 10 ≤ k →
    twofish_folded.l1 (k + d) (il m) (r : Int) 8 (il y) (j : Int) = twofish_folded.l1 k (il m) (r : Int) 8 (il (y.set r (sm r m j d (y.getD r 0)))) 8 := by
  induction d with
  | zero =>
    intro j k y hj hy hk
    have : j = 8 := by omega
    subst this
    show _ = twofish_folded.l1 k (il m) (r : Int) 8 (il (y.set r (y.getD r 0))) 8
    have : y.set r (y.getD r 0) = y := by
      have hr' : r < y.length := by rw [hy.1]; exact hr
      rw [List.getD_eq_getElem?_getD, List.getElem?_eq_getElem hr', Option.getD_some, List.set_getElem_self]
    rw [this]; rfl
  | succ d ih =>
    intro j k y hj hy hk
    have c0 : ∀ z : Nat, decide (0 ≤ (z : Int)) = true := fun z => by rw [decide_eq_true_eq]; omega
    have c1 : decide ((j : Int) < 8) = true := by rw [decide_eq_true_eq]; omega
    have c3 : decide ((r : Int) < 4) = true := by rw [decide_eq_true_eq]; omega
    have c2 : decide ((j : Int) < ((il m).length : Int)) = true := by rw [decide_eq_true_eq, il_length, hm.1]; omega
    have c4 : decide ((j : Int) < ((il (cdL r)).length : Int)) = true := by rw [decide_eq_true_eq, il_length, cd_len r hr]; omega
    have a2 : I64 ((j : Int) + 1) = ((j + 1 : Nat) : Int) := I64_nat (n := j + 1) (by omega)
    have hc := cr_lt r hr j (by omega)
    have q := fm_eq (k := k + d) r333 (by omega) hc (getD_lt hm.2 j)
    simp only [Int.cast_ofNat_Int] at q
    have bx : bxor .u8 ((y.getD r 0 : Nat) : Int) ((mu 333 (cr r j) (m.getD j 0) : Nat) : Int) = ((y.getD r 0 ^^^ cm r j m : Nat) : Int) := bx8 (hy.at r) (cm_lt hr (by omega) m)
    have cl : (rd (il (cdL r)) (j : Int) : Int) = ((cr r j : Nat) : Int) := il_rd' _ _
    show twofish_folded.l1 (k + d + 1) _ _ _ _ _ = _
    rw [twofish_folded.l1, if_pos c1, if_pos (c0 _), cd_row r hr, if_pos c4, Option.bind_some, if_pos (c0 _), if_pos c3, if_pos (c0 _), if_pos c2, cl, il_rd', q, Option.bind_some, if_pos (c0 _), if_pos c3, il_rd', bx, Int.toNat_natCast, il_set, a2]
    have o := hy.set r (x8lt (hy.at r) (cm_lt hr (show j < 8 by omega) m))
    rw [ih (by omega) o hk, getD_set_self (by rw [hy.1]; exact hr), List.set_set]; rfl
theorem f_row {m : List Nat} (hm : B8 m) {r : Nat} (hr : r < 4) {k : Nat} {y : List Nat} (hy : B4 y) (hk : 20 ≤ k) :
    twofish_folded.l0 (k + 10) (il m) (il y) (r : Int) = twofish_folded.l0 k (il m) (il (y.set r (sm r m 0 8 (y.getD r 0)))) ((r + 1 : Nat) : Int) := by
  have c0 : decide (0 ≤ (r : Int)) = true := by rw [decide_eq_true_eq]; omega
  have c3 : decide ((r : Int) < 4) = true := by rw [decide_eq_true_eq]; omega
  have a2 : I64 ((r : Int) + 1) = ((r + 1 : Nat) : Int) := I64_nat (n := r + 1) (by omega)
  have l := f_l1 hm hr 8 (j := 0) (k := k + 1) (by omega) hy (by omega)
  show twofish_folded.l0 (k + 9 + 1) _ _ _ = _
  rw [twofish_folded.l0, if_pos c3, if_pos c0, if_pos c3, cd_row r hr, il_length, cd_len r hr, Option.bind_some]
  refine l.trans ?_
  rw [twofish_folded.l1, if_neg (by decide), a2]
def smw (m : List Nat) : List Nat := [sm 0 m 0 8 0, sm 1 m 0 8 0, sm 2 m 0 8 0, sm 3 m 0 8 0]
theorem smr_lt {r : Nat} (hr : r < 4) (m : List Nat) : sm r m 0 8 0 < 256 := sm_lt hr m 8 0 0 (by omega) (by decide)
theorem smw_ok (m : List Nat) : B4 (smw m) := ⟨rfl, fun v hv => by
  simp only [smw, List.mem_cons, List.not_mem_nil, or_false] at hv
  rcases hv with rfl | rfl | rfl | rfl
  · exact smr_lt (r := 0) (by omega) m
  · exact smr_lt (r := 1) (by omega) m
  · exact smr_lt (r := 2) (by omega) m
  · exact smr_lt (r := 3) (by omega) m⟩
/-- Eight bytes of a key as a word. -/
def fd (m : List Nat) : Nat := bigN (smw m).reverse
theorem fd_lt (m : List Nat) : fd m < 4294967296 := by
  have h := bigN_lt (smw m).reverse (fun x hx => (smw_ok m).2 x (by simpa using hx))
  rw [List.length_reverse, (smw_ok m).1] at h
  exact h
theorem folded_eq {m : List Nat} (hm : B8 m) {k : Nat} (hk : 100 ≤ k) : twofish_folded.f k (il m) = some ((fd m : Nat) : Int) := by
  obtain ⟨k, rfl⟩ : ∃ j, k = j + 41 := ⟨k - 41, by omega⟩
  have z : B4 [0, 0, 0, 0] := ⟨rfl, by decide⟩
  have e0 := f_row hm (r := 0) (k := k + 31) (by omega) z (by omega)
  have o1 := z.set 0 (smr_lt (r := 0) (by omega) m)
  have e1 := f_row hm (r := 1) (k := k + 21) (by omega) o1 (by omega)
  have o2 := o1.set 1 (smr_lt (r := 1) (by omega) m)
  have e2 := f_row hm (r := 2) (k := k + 11) (by omega) o2 (by omega)
  have o3 := o2.set 2 (smr_lt (r := 2) (by omega) m)
  have e3 := f_row hm (r := 3) (k := k + 1) (by omega) o3 (by omega)
  unfold twofish_folded.f
  refine (e0.trans (e1.trans (e2.trans e3))).trans ?_
  show twofish_folded.l0 (k + 1) (il m) (il (smw m)) 4 = _
  rw [twofish_folded.l0, if_neg (by decide), le4 (smw_ok m) (by omega), Option.bind_some]; rfl
end Go.Scr.S
