/- The plain law of ArLay. -/
import Derived.Test.YtekkdjgcbkoepaaDoorFnAriaRounds
import Derived.Test.YtekkdjgcbkoepaaDoorLibNum
import Derived.Test.YtekkdjgcbkoepaaDoorLibGf
import Derived.Test.YtekkdjgcbkoepaaDoorLibFieldPw0
import Derived.Test.YtekkdjgcbkoepaaDoorLibFill
import Derived.Test.YtekkdjgcbkoepaaDoorLibIl
import Derived.Test.YtekkdjgcbkoepaaDoorLibGIl
import Derived.Test.YtekkdjgcbkoepaaDoorLibBoxAff
import Derived.Test.YtekkdjgcbkoepaaDoorLibBoxMk
import Derived.Test.YtekkdjgcbkoepaaDoorLibBoxIsL
import Derived.Test.YtekkdjgcbkoepaaDoorLibPigeon
import Derived.Test.YtekkdjgcbkoepaaDoorLibBoxBackL
import Derived.Test.YtekkdjgcbkoepaaDoorLibArLit
import Derived.Test.YtekkdjgcbkoepaaDoorLibArMade
import Derived.Test.YtekkdjgcbkoepaaDoorLibArMix
set_option linter.unusedVariables false
set_option linter.unusedSimpArgs false
set_option linter.unnecessarySimpa false
namespace Go.Scr.S
def tbx (y : Nat) : List Nat := if y = 0 then tS else if y = 1 then tT else if y = 2 then tU else tV
theorem tbx_row {y : Nat} (hy : y < 4) : rdr ([] : List Int) tabs (y : Int) = il (tbx y) := by
  have : y = 0 ∨ y = 1 ∨ y = 2 ∨ y = 3 := by omega
  rcases this with rfl | rfl | rfl | rfl <;> rfl
theorem tbx_len (y : Nat) : (tbx y).length = 256 := by
  unfold tbx; split
  · exact tS_ok.1
  split
  · exact tT_ok.1
  split
  · exact tU_ok.1
  · exact tV_ok.1
theorem tbx_lt (y : Nat) : ∀ x ∈ tbx y, x < 256 := by
  unfold tbx; split
  · exact tS_ok.2.1
  split
  · exact tT_ok.2.1
  split
  · exact tU_ok.2.1
  · exact tV_ok.2.1
def layF (s : Nat) (m : List Nat) (i : Nat) : Nat := (tbx ((i + s) % 4)).getD (m.getD i 0) 0
def layN (s : Nat) (m : List Nat) : List Nat := (List.range 16).map (layF s m)
theorem layN_length (s : Nat) (m : List Nat) : (layN s m).length = 16 := by simp [layN]
theorem layN_lt (s : Nat) (m : List Nat) : ∀ x ∈ layN s m, x < 256 := by
  intro x hx
  unfold layN at hx
  obtain ⟨i, _, rfl⟩ := List.mem_map.1 hx
  exact getD_lt (tbx_lt _) _
theorem layN_at (s : Nat) (m : List Nat) {i : Nat} (h : i < 16) : (layN s m).getD i 0 = layF s m i := by
  unfold layN
  rw [List.getD_eq_getElem?_getD, List.getElem?_map, List.getElem?_range h]; rfl
theorem lay_l0 {m : List Nat} (hm : m.length = 16) (hb : ∀ x ∈ m, x < 256) {n : Int} {s : Nat} (hs : I64 (2 * (I64 (n - 1))) = (s : Int)) (hs2 : s < 4) (d : Nat) {k i : Nat} {x : List Int} (hk : d < k) (hi : i + d = 16) (hx : Fl (fun i => ((layF s m i : Nat) : Int)) 16 i x) :
    aria_boxes_layer.l0 k tabs n (il m) x (i : Int) = some (il (layN s m)) := by
  induction d generalizing k i x with
  | zero =>
    obtain ⟨k, rfl⟩ : ∃ j, k = j + 1 := ⟨k - 1, by omega⟩
    have : i = 16 := by omega
    subst this
    rw [aria_boxes_layer.l0, if_neg (by rw [decide_eq_true_eq, il_length, hm]; decide)]
    unfold layN; rw [il_range, hx.done]
  | succ d ih =>
    obtain ⟨k, rfl⟩ : ∃ j, k = j + 1 := ⟨k - 1, by omega⟩
    have a2 : I64 ((i : Int) + 1) = ((i + 1 : Nat) : Int) := I64_nat (n := i + 1) (by omega)
    have a3 : I64 ((i : Int) + (s : Int)) = ((i + s : Nat) : Int) := I64_nat (n := i + s) (by omega)
    have t4 : Int.tmod ((i + s : Nat) : Int) 4 = (((i + s) % 4 : Nat) : Int) := rfl
    have c0 : ∀ z : Nat, decide (0 ≤ (z : Int)) = true := fun z => by rw [decide_eq_true_eq]; omega
    have c1 : decide ((i : Int) < ((il m).length : Int)) = true := by rw [decide_eq_true_eq, il_length, hm]; omega
    have c2 : decide ((((i + s) % 4 : Nat) : Int) < 4) = true := by rw [decide_eq_true_eq]; omega
    have hv := getD_lt hb i
    have c3 : decide (((m.getD i 0 : Nat) : Int) < ((il (tbx ((i + s) % 4))).length : Int)) = true := by rw [decide_eq_true_eq, il_length, tbx_len]; omega
    have c4 : decide ((i : Int) < ((((il m).length : Int)).toNat : Int)) = true := by rw [decide_eq_true_eq, Int.toNat_natCast, il_length, hm]; omega
    rw [aria_boxes_layer.l0, if_pos c1, if_pos (c0 _), if_pos c1, hs, a3, t4, Option.bind_some, if_pos (c0 _), if_pos c2, il_rd', if_pos (c0 _), tbx_row (Nat.mod_lt _ (by decide)), if_pos c3, il_rd', Option.bind_some, if_pos (c0 _), if_pos c4, a2, Int.toNat_natCast]
    exact ih (by omega) (by omega) (hx.set (by omega) rfl)
theorem lay_eq {m : List Nat} (hm : m.length = 16) (hb : ∀ x ∈ m, x < 256) {n : Int} {s : Nat} (hs : I64 (2 * (I64 (n - 1))) = (s : Int)) (hs2 : s < 4) {k : Nat} (hk : 20 ≤ k) : aria_boxes_layer.f k tabs n (il m) = some (il (layN s m)) := by
  unfold aria_boxes_layer.f
  rw [if_pos (by rw [decide_eq_true_eq]; omega), if_pos (by rw [decide_eq_true_eq, il_length, hm]; decide)]
  exact lay_l0 hm hb hs hs2 16 (i := 0) (by omega) (by omega) (Fl.zero (by rw [List.length_replicate, Int.toNat_natCast, il_length, hm]))
end Go.Scr.S
