/- The plain law of TwH. -/
import Derived.Test.YtngagagokcnnaaaFnTwofishH
import Derived.Test.YtngagagokcnnaaaLibNum
import Derived.Test.YtngagagokcnnaaaLibGf
import Derived.Test.YtngagagokcnnaaaLibFieldMu0
import Derived.Test.YtngagagokcnnaaaLibIl
import Derived.Test.YtngagagokcnnaaaLibGLoad
import Derived.Test.YtngagagokcnnaaaLibFill
import Derived.Test.YtngagagokcnnaaaLibGIl
import Derived.Test.YtngagagokcnnaaaLibGStore
import Derived.Test.YtngagagokcnnaaaLibGXor
import Derived.Test.YtngagagokcnnaaaLibTwQ
set_option linter.unusedVariables false
set_option linter.unusedSimpArgs false
set_option linter.unnecessarySimpa false
namespace Go.Scr.S
/-- The order of the Qs at a stage. -/
def ord (i : Nat) : List Nat := if i = 4 then [1, 0, 0, 1] else if i = 3 then [1, 1, 0, 0] else if i = 2 then [0, 1, 0, 1] else if i = 1 then [0, 0, 1, 1] else [1, 0, 1, 0]
theorem ord_lt (i j : Nat) : (ord i).getD j 0 < 2 := by
  unfold ord
  have h : ∀ l ∈ ([[1, 0, 0, 1], [1, 1, 0, 0], [0, 1, 0, 1], [0, 0, 1, 1], [1, 0, 1, 0]] : List (List Nat)), ∀ x ∈ l, x < 2 := by decide
  have g : ∀ l : List Nat, (∀ x ∈ l, x < 2) → l.getD j 0 < 2 := fun l hl => by
    rw [List.getD_eq_getElem?_getD]
    cases e : l[j]? with
    | none => decide
    | some x => exact hl x (List.mem_of_getElem? e)
  repeat' split
  all_goals exact g _ (h _ (by simp))
theorem order_eq {i k : Nat} (hi : i ≤ 4) : twofish_order.f k (i : Int) = some (il (ord i)) := by
  have : i = 0 ∨ i = 1 ∨ i = 2 ∨ i = 3 ∨ i = 4 := by omega
  rcases this with rfl | rfl | rfl | rfl | rfl <;> rfl
def B4 (x : List Nat) : Prop := x.length = 4 ∧ ∀ v ∈ x, v < 256
theorem B4.set {x : List Nat} (h : B4 x) (j : Nat) {v : Nat} (hv : v < 256) : B4 (x.set j v) := ⟨by rw [List.length_set]; exact h.1, fun y hy => by
  rcases List.mem_or_eq_of_mem_set hy with hy | rfl
  · exact h.2 y hy
  · exact hv⟩
theorem B4.at {x : List Nat} (h : B4 x) (j : Nat) : x.getD j 0 < 256 := getD_lt h.2 j
theorem B4.four {x : List Nat} (h : B4 x) : ∃ a b c d, x = [a, b, c, d] := by
  obtain ⟨hl, _⟩ := h
  match x, hl with
  | [a, b, c, d], _ => exact ⟨a, b, c, d, rfl⟩
def qv (i j v : Nat) : Nat := (qq ((ord i).getD j 0)).getD v 0
theorem qv_lt (i j : Nat) (v : Nat) : qv i j v < 256 := getD_lt (q_ok _ (ord_lt i j)).2.1 v
/-- The Qs of a stage. -/
def sbq (i : Nat) (x : List Nat) : List Nat := [qv i 0 (x.getD 0 0), qv i 1 (x.getD 1 0), qv i 2 (x.getD 2 0), qv i 3 (x.getD 3 0)]
theorem sbq_ok (i : Nat) (x : List Nat) : B4 (sbq i x) := ⟨rfl, fun v hv => by
  simp only [sbq, List.mem_cons, List.not_mem_nil, or_false] at hv
  rcases hv with rfl | rfl | rfl | rfl <;> exact qv_lt _ _ _⟩
theorem h_l1s {a1 : List Int} {i : Nat} (ii : Int) {b x : List Nat} (hb : b.length = 4) (hx : B4 x) {j k : Nat} (hj : j < 4) (hk : 10 ≤ k) :
    twofish_H.l1 (k + 1) a1 (il (ord i)) (il b) ii (il x) (j : Int) = twofish_H.l1 k a1 (il (ord i)) (il b) ii (il (x.set j (qv i j (x.getD j 0)))) ((j + 1 : Nat) : Int) := by
  have c0 : decide (0 ≤ (j : Int)) = true := by rw [decide_eq_true_eq]; omega
  have c1 : decide ((j : Int) < 4) = true := by rw [decide_eq_true_eq]; omega
  have c2 : decide ((j : Int) < ((il b).length : Int)) = true := by rw [decide_eq_true_eq, il_length, hb]; omega
  have a2 : I64 ((j : Int) + 1) = ((j + 1 : Nat) : Int) := I64_nat (n := j + 1) (by omega)
  have q := q_eq (k := k) (ord_lt i j) (hx.at j) hk
  rw [twofish_H.l1, if_pos c1, if_pos c0, if_pos c1, if_pos c0, if_pos c2, il_rd', il_rd', q, Option.bind_some, if_pos c0, if_pos c2, Int.toNat_natCast, il_set, a2]
  rfl
theorem h_l1 {a1 : List Int} {i : Nat} (ii : Int) {x : List Nat} (hx : B4 x) {k : Nat} (hk : 20 ≤ k) :
    twofish_H.l1 (k + 4) a1 (il (ord i)) (il x) ii (il x) 0 = twofish_H.l1 k a1 (il (ord i)) (il x) ii (il (sbq i x)) 4 := by
  have e0 := h_l1s (a1 := a1) (i := i) ii hx.1 hx (j := 0) (k := k + 3) (by omega) (by omega)
  have o1 := hx.set 0 (qv_lt i 0 (x.getD 0 0))
  have e1 := h_l1s (a1 := a1) (i := i) ii hx.1 o1 (j := 1) (k := k + 2) (by omega) (by omega)
  have o2 := o1.set 1 (qv_lt i 1 ((x.set 0 (qv i 0 (x.getD 0 0))).getD 1 0))
  have e2 := h_l1s (a1 := a1) (i := i) ii hx.1 o2 (j := 2) (k := k + 1) (by omega) (by omega)
  have o3 := o2.set 2 (qv_lt i 2 (((x.set 0 (qv i 0 (x.getD 0 0))).set 1 (qv i 1 ((x.set 0 (qv i 0 (x.getD 0 0))).getD 1 0))).getD 2 0))
  have e3 := h_l1s (a1 := a1) (i := i) ii hx.1 o3 (j := 3) (k := k) (by omega) (by omega)
  refine (e0.trans (e1.trans (e2.trans e3))).trans ?_
  obtain ⟨a, b, c, d, rfl⟩ := hx.four
  rfl
def x4 (x y : List Nat) : List Nat := [x.getD 0 0 ^^^ y.getD 0 0, x.getD 1 0 ^^^ y.getD 1 0, x.getD 2 0 ^^^ y.getD 2 0, x.getD 3 0 ^^^ y.getD 3 0]
theorem x8lt {a b : Nat} (ha : a < 256) (hb : b < 256) : a ^^^ b < 256 := Nat.xor_lt_two_pow (n := 8) ha hb
theorem x4_ok {x y : List Nat} (hx : B4 x) (hy : B4 y) : B4 (x4 x y) := ⟨rfl, fun v hv => by
  simp only [x4, List.mem_cons, List.not_mem_nil, or_false] at hv
  rcases hv with rfl | rfl | rfl | rfl <;> exact x8lt (hx.at _) (hy.at _)⟩
theorem xor4_eq {x y : List Nat} (hx : B4 x) (hy : B4 y) {k : Nat} (hk : 10 ≤ k) : words_Xor.f k (il x) (il y) = some (il (x4 x y), true) := by
  have l : (il x).length = 4 := by rw [il_length, hx.1]
  rw [xor_eq (by rw [il_length, il_length, hx.1, hy.1]) (by omega) (by omega), l]
  have e : fill 4 (xo (il x) (il y)) = il (x4 x y) := by
    have z : ∀ j : Nat, xo (il x) (il y) j = ((x.getD j 0 ^^^ y.getD j 0 : Nat) : Int) := fun j => by
      unfold xo; rw [il_rd', il_rd', bx8 (hx.at j) (hy.at j)]
    show [xo (il x) (il y) 0, xo (il x) (il y) 1, xo (il x) (il y) 2, xo (il x) (il y) 3] = _
    rw [z, z, z, z]; rfl
  rw [e]
/-- A word's bytes. -/
def wb (w : Nat) : List Nat := (dig w 4).reverse
theorem wb_ok (w : Nat) : B4 (wb w) := ⟨by unfold wb; rw [List.length_reverse, dig_length], fun v hv => dig_lt _ _ v (by unfold wb at hv; simpa using hv)⟩
/-- All stages, from i on. -/
def stg (W : List Nat) : Nat → List Nat → List Nat
  | 0, x => sbq 0 x
  | i + 1, x => stg W i (x4 (sbq (i + 1) x) (wb (W.getD i 0)))
theorem stg_ok (W : List Nat) : ∀ i x, B4 (stg W i x)
  | 0, x => sbq_ok 0 x
  | i + 1, _ => stg_ok W i _
end Go.Scr.S
