/- The plain law of TwRH. -/
import Derived.Test.YtngagagokcnnaaaFnTwofishH
import Derived.Test.YtngagagokcnnaaaLibNum
import Derived.Test.YtngagagokcnnaaaLibGf
import Derived.Test.YtngagagokcnnaaaLibFieldMu0
import Derived.Test.YtngagagokcnnaaaLibFieldRMu0
import Derived.Test.YtngagagokcnnaaaLibIl
import Derived.Test.YtngagagokcnnaaaLibGLoad
import Derived.Test.YtngagagokcnnaaaLibFill
import Derived.Test.YtngagagokcnnaaaLibGIl
import Derived.Test.YtngagagokcnnaaaLibGStore
import Derived.Test.YtngagagokcnnaaaLibGXor
import Derived.Test.YtngagagokcnnaaaLibTwQ
import Derived.Test.YtngagagokcnnaaaLibTwRQ
import Derived.Test.YtngagagokcnnaaaLibTwH
import Derived.Test.YtngagagokcnnaaaLibTwM
import Derived.Test.YtngagagokcnnaaaLibTwR
set_option linter.unusedVariables false
set_option linter.unusedSimpArgs false
set_option linter.unnecessarySimpa false
namespace Go.Scr.S
theorem r0_s {x : List Nat} (hx : B4 x) {v r j k : Nat} (hv : v < 4294967296) (hr : r < 4) (hj : j < 4) (hk : 10 ≤ k) :
    scrimref9_H.l1 (k + 1) (il x) (r : Int) (v : Int) (j : Int) = scrimref9_H.l1 k (il x) (r : Int) ((v ^^^ at8 r (mm r j x) : Nat) : Int) ((j + 1 : Nat) : Int) := by
  have c0 : ∀ z : Nat, decide (0 ≤ (z : Int)) = true := fun z => by rw [decide_eq_true_eq]; omega
  have c1 : decide ((j : Int) < 4) = true := by rw [decide_eq_true_eq]; omega
  have c3 : decide ((r : Int) < 4) = true := by rw [decide_eq_true_eq]; omega
  have a2 : I64 ((j : Int) + 1) = ((j + 1 : Nat) : Int) := I64_nat (n := j + 1) (by omega)
  have q := rm_eq (k := k) r361 (by omega) (mr_lt r hr j hj) (hx.at j)
  simp only [Int.cast_ofNat_Int] at q
  have hm : mu 361 (mr r j) (x.getD j 0) < 256 := mm_lt hr hj x
  have ha := at8_lt hr hm
  have u : U32 ((mu 361 (mr r j) (x.getD j 0) : Nat) : Int) = ((mu 361 (mr r j) (x.getD j 0) : Nat) : Int) := by rw [U32_nat, Nat.mod_eq_of_lt (by omega)]
  have sh : shlv .u32 ((mu 361 (mr r j) (x.getD j 0) : Nat) : Int) ((8 * r : Nat) : Int) = ((at8 r (mm r j x) : Nat) : Int) := by
    rw [shlv32' (by omega)]
    show ((at8 r (mu 361 (mr r j) (x.getD j 0)) % 4294967296 : Nat) : Int) = _
    rw [Nat.mod_eq_of_lt ha]; rfl
  rw [scrimref9_H.l1, if_pos c1, if_pos (c0 _), if_pos c3, if_pos (c0 _), if_pos c1, if_pos (c0 _), if_pos c1, mr_idx r hr j hj, il_rd', q, Option.bind_some, u8j hr, if_pos (c0 _), u, sh, bx32 hv (at8_lt hr (mm_lt hr hj x)), Option.bind_some, a2]
theorem r0_row {x : List Nat} (hx : B4 x) {v r k : Nat} (hv : v < 4294967296) (hr : r < 4) (hk : 20 ≤ k) :
    scrimref9_H.l0 (k + 6) (il x) (v : Int) (r : Int) = scrimref9_H.l0 k (il x) ((v ^^^ at8 r (rowN r 0 x) : Nat) : Int) ((r + 1 : Nat) : Int) := by
  have c3 : decide ((r : Int) < 4) = true := by rw [decide_eq_true_eq]; omega
  have a2 : I64 ((r : Int) + 1) = ((r + 1 : Nat) : Int) := I64_nat (n := r + 1) (by omega)
  have l := fun j (hj : j < 4) => at8_lt hr (mm_lt hr hj x)
  have v0 := x32' hv (l 0 (by omega))
  have v1 := x32' v0 (l 1 (by omega))
  have v2 := x32' v1 (l 2 (by omega))
  have e0 := r0_s hx hv hr (j := 0) (k := k + 4) (by omega) (by omega)
  have e1 := r0_s hx v0 hr (j := 1) (k := k + 3) (by omega) (by omega)
  have e2 := r0_s hx v1 hr (j := 2) (k := k + 2) (by omega) (by omega)
  have e3 := r0_s hx v2 hr (j := 3) (k := k + 1) (by omega) (by omega)
  show scrimref9_H.l0 (k + 5 + 1) _ _ _ = _
  rw [scrimref9_H.l0, if_pos c3]
  refine (e0.trans (e1.trans (e2.trans e3))).trans ?_
  rw [scrimref9_H.l1, if_neg (by decide), a2, row_at]
theorem r0_mds {x : List Nat} (hx : B4 x) {k : Nat} (hk : 60 ≤ k) : scrimref9_H.l0 k (il x) 0 0 = some ((bigN (mds x).reverse : Nat) : Int) := by
  obtain ⟨k, rfl⟩ : ∃ j, k = j + 25 := ⟨k - 25, by omega⟩
  have rl := fun r (hr : r < 4) => rowN_lt hr (by decide : 0 < 256) x
  have v0 := x32' (by decide : 0 < 4294967296) (at8_lt (r := 0) (by omega) (rl 0 (by omega)))
  have v1 := x32' v0 (at8_lt (r := 1) (by omega) (rl 1 (by omega)))
  have v2 := x32' v1 (at8_lt (r := 2) (by omega) (rl 2 (by omega)))
  have e0 := r0_row hx (v := 0) (r := 0) (k := k + 19) (by decide) (by omega) (by omega)
  have e1 := r0_row hx (r := 1) (k := k + 13) v0 (by omega) (by omega)
  have e2 := r0_row hx (r := 2) (k := k + 7) v1 (by omega) (by omega)
  have e3 := r0_row hx (r := 3) (k := k + 1) v2 (by omega) (by omega)
  refine (e0.trans (e1.trans (e2.trans e3))).trans ?_
  rw [scrimref9_H.l0, if_neg (by decide), word4 (rl 0 (by omega)) (rl 1 (by omega)) (rl 2 (by omega))]; rfl
theorem r2_s {x : List Nat} (hx : B4 x) {v r j k : Nat} (hv : v < 4294967296) (hr : r < 4) (hj : j < 4) (hk : 10 ≤ k) :
    scrimref9_H.l3 (k + 1) (il x) (r : Int) (v : Int) (j : Int) = scrimref9_H.l3 k (il x) (r : Int) ((v ^^^ at8 r (mm r j x) : Nat) : Int) ((j + 1 : Nat) : Int) := by
  have c0 : ∀ z : Nat, decide (0 ≤ (z : Int)) = true := fun z => by rw [decide_eq_true_eq]; omega
  have c1 : decide ((j : Int) < 4) = true := by rw [decide_eq_true_eq]; omega
  have c3 : decide ((r : Int) < 4) = true := by rw [decide_eq_true_eq]; omega
  have a2 : I64 ((j : Int) + 1) = ((j + 1 : Nat) : Int) := I64_nat (n := j + 1) (by omega)
  have q := rm_eq (k := k) r361 (by omega) (mr_lt r hr j hj) (hx.at j)
  simp only [Int.cast_ofNat_Int] at q
  have hm : mu 361 (mr r j) (x.getD j 0) < 256 := mm_lt hr hj x
  have ha := at8_lt hr hm
  have u : U32 ((mu 361 (mr r j) (x.getD j 0) : Nat) : Int) = ((mu 361 (mr r j) (x.getD j 0) : Nat) : Int) := by rw [U32_nat, Nat.mod_eq_of_lt (by omega)]
  have sh : shlv .u32 ((mu 361 (mr r j) (x.getD j 0) : Nat) : Int) ((8 * r : Nat) : Int) = ((at8 r (mm r j x) : Nat) : Int) := by
    rw [shlv32' (by omega)]
    show ((at8 r (mu 361 (mr r j) (x.getD j 0)) % 4294967296 : Nat) : Int) = _
    rw [Nat.mod_eq_of_lt ha]; rfl
  rw [scrimref9_H.l3, if_pos c1, if_pos (c0 _), if_pos c3, if_pos (c0 _), if_pos c1, if_pos (c0 _), if_pos c1, mr_idx r hr j hj, il_rd', q, Option.bind_some, u8j hr, if_pos (c0 _), u, sh, bx32 hv (at8_lt hr (mm_lt hr hj x)), Option.bind_some, a2]
theorem r2_row {x : List Nat} (hx : B4 x) {v r k : Nat} (hv : v < 4294967296) (hr : r < 4) (hk : 20 ≤ k) :
    scrimref9_H.l2 (k + 6) (il x) (v : Int) (r : Int) = scrimref9_H.l2 k (il x) ((v ^^^ at8 r (rowN r 0 x) : Nat) : Int) ((r + 1 : Nat) : Int) := by
  have c3 : decide ((r : Int) < 4) = true := by rw [decide_eq_true_eq]; omega
  have a2 : I64 ((r : Int) + 1) = ((r + 1 : Nat) : Int) := I64_nat (n := r + 1) (by omega)
  have l := fun j (hj : j < 4) => at8_lt hr (mm_lt hr hj x)
  have v0 := x32' hv (l 0 (by omega))
  have v1 := x32' v0 (l 1 (by omega))
  have v2 := x32' v1 (l 2 (by omega))
  have e0 := r2_s hx hv hr (j := 0) (k := k + 4) (by omega) (by omega)
  have e1 := r2_s hx v0 hr (j := 1) (k := k + 3) (by omega) (by omega)
  have e2 := r2_s hx v1 hr (j := 2) (k := k + 2) (by omega) (by omega)
  have e3 := r2_s hx v2 hr (j := 3) (k := k + 1) (by omega) (by omega)
  show scrimref9_H.l2 (k + 5 + 1) _ _ _ = _
  rw [scrimref9_H.l2, if_pos c3]
  refine (e0.trans (e1.trans (e2.trans e3))).trans ?_
  rw [scrimref9_H.l3, if_neg (by decide), a2, row_at]
theorem r2_mds {x : List Nat} (hx : B4 x) {k : Nat} (hk : 60 ≤ k) : scrimref9_H.l2 k (il x) 0 0 = some ((bigN (mds x).reverse : Nat) : Int) := by
  obtain ⟨k, rfl⟩ : ∃ j, k = j + 25 := ⟨k - 25, by omega⟩
  have rl := fun r (hr : r < 4) => rowN_lt hr (by decide : 0 < 256) x
  have v0 := x32' (by decide : 0 < 4294967296) (at8_lt (r := 0) (by omega) (rl 0 (by omega)))
  have v1 := x32' v0 (at8_lt (r := 1) (by omega) (rl 1 (by omega)))
  have v2 := x32' v1 (at8_lt (r := 2) (by omega) (rl 2 (by omega)))
  have e0 := r2_row hx (v := 0) (r := 0) (k := k + 19) (by decide) (by omega) (by omega)
  have e1 := r2_row hx (r := 1) (k := k + 13) v0 (by omega) (by omega)
  have e2 := r2_row hx (r := 2) (k := k + 7) v1 (by omega) (by omega)
  have e3 := r2_row hx (r := 3) (k := k + 1) v2 (by omega) (by omega)
  refine (e0.trans (e1.trans (e2.trans e3))).trans ?_
  rw [scrimref9_H.l2, if_neg (by decide), word4 (rl 0 (by omega)) (rl 1 (by omega)) (rl 2 (by omega))]; rfl
theorem r4_s {x : List Nat} (hx : B4 x) {v r j k : Nat} (hv : v < 4294967296) (hr : r < 4) (hj : j < 4) (hk : 10 ≤ k) :
    scrimref9_H.l5 (k + 1) (il x) (r : Int) (v : Int) (j : Int) = scrimref9_H.l5 k (il x) (r : Int) ((v ^^^ at8 r (mm r j x) : Nat) : Int) ((j + 1 : Nat) : Int) := by
  have c0 : ∀ z : Nat, decide (0 ≤ (z : Int)) = true := fun z => by rw [decide_eq_true_eq]; omega
  have c1 : decide ((j : Int) < 4) = true := by rw [decide_eq_true_eq]; omega
  have c3 : decide ((r : Int) < 4) = true := by rw [decide_eq_true_eq]; omega
  have a2 : I64 ((j : Int) + 1) = ((j + 1 : Nat) : Int) := I64_nat (n := j + 1) (by omega)
  have q := rm_eq (k := k) r361 (by omega) (mr_lt r hr j hj) (hx.at j)
  simp only [Int.cast_ofNat_Int] at q
  have hm : mu 361 (mr r j) (x.getD j 0) < 256 := mm_lt hr hj x
  have ha := at8_lt hr hm
  have u : U32 ((mu 361 (mr r j) (x.getD j 0) : Nat) : Int) = ((mu 361 (mr r j) (x.getD j 0) : Nat) : Int) := by rw [U32_nat, Nat.mod_eq_of_lt (by omega)]
  have sh : shlv .u32 ((mu 361 (mr r j) (x.getD j 0) : Nat) : Int) ((8 * r : Nat) : Int) = ((at8 r (mm r j x) : Nat) : Int) := by
    rw [shlv32' (by omega)]
    show ((at8 r (mu 361 (mr r j) (x.getD j 0)) % 4294967296 : Nat) : Int) = _
    rw [Nat.mod_eq_of_lt ha]; rfl
  rw [scrimref9_H.l5, if_pos c1, if_pos (c0 _), if_pos c3, if_pos (c0 _), if_pos c1, if_pos (c0 _), if_pos c1, mr_idx r hr j hj, il_rd', q, Option.bind_some, u8j hr, if_pos (c0 _), u, sh, bx32 hv (at8_lt hr (mm_lt hr hj x)), Option.bind_some, a2]
theorem r4_row {x : List Nat} (hx : B4 x) {v r k : Nat} (hv : v < 4294967296) (hr : r < 4) (hk : 20 ≤ k) :
    scrimref9_H.l4 (k + 6) (il x) (v : Int) (r : Int) = scrimref9_H.l4 k (il x) ((v ^^^ at8 r (rowN r 0 x) : Nat) : Int) ((r + 1 : Nat) : Int) := by
  have c3 : decide ((r : Int) < 4) = true := by rw [decide_eq_true_eq]; omega
  have a2 : I64 ((r : Int) + 1) = ((r + 1 : Nat) : Int) := I64_nat (n := r + 1) (by omega)
  have l := fun j (hj : j < 4) => at8_lt hr (mm_lt hr hj x)
  have v0 := x32' hv (l 0 (by omega))
  have v1 := x32' v0 (l 1 (by omega))
  have v2 := x32' v1 (l 2 (by omega))
  have e0 := r4_s hx hv hr (j := 0) (k := k + 4) (by omega) (by omega)
  have e1 := r4_s hx v0 hr (j := 1) (k := k + 3) (by omega) (by omega)
  have e2 := r4_s hx v1 hr (j := 2) (k := k + 2) (by omega) (by omega)
  have e3 := r4_s hx v2 hr (j := 3) (k := k + 1) (by omega) (by omega)
  show scrimref9_H.l4 (k + 5 + 1) _ _ _ = _
  rw [scrimref9_H.l4, if_pos c3]
  refine (e0.trans (e1.trans (e2.trans e3))).trans ?_
  rw [scrimref9_H.l5, if_neg (by decide), a2, row_at]
theorem r4_mds {x : List Nat} (hx : B4 x) {k : Nat} (hk : 60 ≤ k) : scrimref9_H.l4 k (il x) 0 0 = some ((bigN (mds x).reverse : Nat) : Int) := by
  obtain ⟨k, rfl⟩ : ∃ j, k = j + 25 := ⟨k - 25, by omega⟩
  have rl := fun r (hr : r < 4) => rowN_lt hr (by decide : 0 < 256) x
  have v0 := x32' (by decide : 0 < 4294967296) (at8_lt (r := 0) (by omega) (rl 0 (by omega)))
  have v1 := x32' v0 (at8_lt (r := 1) (by omega) (rl 1 (by omega)))
  have v2 := x32' v1 (at8_lt (r := 2) (by omega) (rl 2 (by omega)))
  have e0 := r4_row hx (v := 0) (r := 0) (k := k + 19) (by decide) (by omega) (by omega)
  have e1 := r4_row hx (r := 1) (k := k + 13) v0 (by omega) (by omega)
  have e2 := r4_row hx (r := 2) (k := k + 7) v1 (by omega) (by omega)
  have e3 := r4_row hx (r := 3) (k := k + 1) v2 (by omega) (by omega)
  refine (e0.trans (e1.trans (e2.trans e3))).trans ?_
  rw [scrimref9_H.l4, if_neg (by decide), word4 (rl 0 (by omega)) (rl 1 (by omega)) (rl 2 (by omega))]; rfl
theorem r6_s {x : List Nat} (hx : B4 x) {v r j k : Nat} (hv : v < 4294967296) (hr : r < 4) (hj : j < 4) (hk : 10 ≤ k) :
    scrimref9_H.l7 (k + 1) (il x) (r : Int) (v : Int) (j : Int) = scrimref9_H.l7 k (il x) (r : Int) ((v ^^^ at8 r (mm r j x) : Nat) : Int) ((j + 1 : Nat) : Int) := by
  have c0 : ∀ z : Nat, decide (0 ≤ (z : Int)) = true := fun z => by rw [decide_eq_true_eq]; omega
  have c1 : decide ((j : Int) < 4) = true := by rw [decide_eq_true_eq]; omega
  have c3 : decide ((r : Int) < 4) = true := by rw [decide_eq_true_eq]; omega
  have a2 : I64 ((j : Int) + 1) = ((j + 1 : Nat) : Int) := I64_nat (n := j + 1) (by omega)
  have q := rm_eq (k := k) r361 (by omega) (mr_lt r hr j hj) (hx.at j)
  simp only [Int.cast_ofNat_Int] at q
  have hm : mu 361 (mr r j) (x.getD j 0) < 256 := mm_lt hr hj x
  have ha := at8_lt hr hm
  have u : U32 ((mu 361 (mr r j) (x.getD j 0) : Nat) : Int) = ((mu 361 (mr r j) (x.getD j 0) : Nat) : Int) := by rw [U32_nat, Nat.mod_eq_of_lt (by omega)]
  have sh : shlv .u32 ((mu 361 (mr r j) (x.getD j 0) : Nat) : Int) ((8 * r : Nat) : Int) = ((at8 r (mm r j x) : Nat) : Int) := by
    rw [shlv32' (by omega)]
    show ((at8 r (mu 361 (mr r j) (x.getD j 0)) % 4294967296 : Nat) : Int) = _
    rw [Nat.mod_eq_of_lt ha]; rfl
  rw [scrimref9_H.l7, if_pos c1, if_pos (c0 _), if_pos c3, if_pos (c0 _), if_pos c1, if_pos (c0 _), if_pos c1, mr_idx r hr j hj, il_rd', q, Option.bind_some, u8j hr, if_pos (c0 _), u, sh, bx32 hv (at8_lt hr (mm_lt hr hj x)), Option.bind_some, a2]
theorem r6_row {x : List Nat} (hx : B4 x) {v r k : Nat} (hv : v < 4294967296) (hr : r < 4) (hk : 20 ≤ k) :
    scrimref9_H.l6 (k + 6) (il x) (v : Int) (r : Int) = scrimref9_H.l6 k (il x) ((v ^^^ at8 r (rowN r 0 x) : Nat) : Int) ((r + 1 : Nat) : Int) := by
  have c3 : decide ((r : Int) < 4) = true := by rw [decide_eq_true_eq]; omega
  have a2 : I64 ((r : Int) + 1) = ((r + 1 : Nat) : Int) := I64_nat (n := r + 1) (by omega)
  have l := fun j (hj : j < 4) => at8_lt hr (mm_lt hr hj x)
  have v0 := x32' hv (l 0 (by omega))
  have v1 := x32' v0 (l 1 (by omega))
  have v2 := x32' v1 (l 2 (by omega))
  have e0 := r6_s hx hv hr (j := 0) (k := k + 4) (by omega) (by omega)
  have e1 := r6_s hx v0 hr (j := 1) (k := k + 3) (by omega) (by omega)
  have e2 := r6_s hx v1 hr (j := 2) (k := k + 2) (by omega) (by omega)
  have e3 := r6_s hx v2 hr (j := 3) (k := k + 1) (by omega) (by omega)
  show scrimref9_H.l6 (k + 5 + 1) _ _ _ = _
  rw [scrimref9_H.l6, if_pos c3]
  refine (e0.trans (e1.trans (e2.trans e3))).trans ?_
  rw [scrimref9_H.l7, if_neg (by decide), a2, row_at]
theorem r6_mds {x : List Nat} (hx : B4 x) {k : Nat} (hk : 60 ≤ k) : scrimref9_H.l6 k (il x) 0 0 = some ((bigN (mds x).reverse : Nat) : Int) := by
  obtain ⟨k, rfl⟩ : ∃ j, k = j + 25 := ⟨k - 25, by omega⟩
  have rl := fun r (hr : r < 4) => rowN_lt hr (by decide : 0 < 256) x
  have v0 := x32' (by decide : 0 < 4294967296) (at8_lt (r := 0) (by omega) (rl 0 (by omega)))
  have v1 := x32' v0 (at8_lt (r := 1) (by omega) (rl 1 (by omega)))
  have v2 := x32' v1 (at8_lt (r := 2) (by omega) (rl 2 (by omega)))
  have e0 := r6_row hx (v := 0) (r := 0) (k := k + 19) (by decide) (by omega) (by omega)
  have e1 := r6_row hx (r := 1) (k := k + 13) v0 (by omega) (by omega)
  have e2 := r6_row hx (r := 2) (k := k + 7) v1 (by omega) (by omega)
  have e3 := r6_row hx (r := 3) (k := k + 1) v2 (by omega) (by omega)
  refine (e0.trans (e1.trans (e2.trans e3))).trans ?_
  rw [scrimref9_H.l6, if_neg (by decide), word4 (rl 0 (by omega)) (rl 1 (by omega)) (rl 2 (by omega))]; rfl
theorem x4z (w : Nat) : x4 [0, 0, 0, 0] (wb w) = wb w := by
  obtain ⟨a, b, c, d, e⟩ := (wb_ok w).four
  rw [e]; simp [x4]
theorem rh_eq {W : List Nat} (hW2 : 2 ≤ W.length) (hW4 : W.length ≤ 4) {x k : Nat} (hk : 200 ≤ k) : scrimref9_H.f k (x : Int) (il W) = some ((hN W x : Nat) : Int) := by
  have z : B4 [0, 0, 0, 0] := ⟨rfl, by decide⟩
  have L0 : scrimref9_laid.f k ([0, 0, 0, 0] : List Int) (x : Int) = some (il (wb x)) := by
    have := laid_eq z (w := x) (k := k) (by omega)
    rw [x4z] at this; exact this
  have g : ∀ i : Nat, rd (il W) (i : Int) = ((W.getD i 0 : Nat) : Int) := il_rd' W
  have g0 : rd (il W) 0 = ((W.getD 0 0 : Nat) : Int) := g 0
  have g1 : rd (il W) 1 = ((W.getD 1 0 : Nat) : Int) := g 1
  have g2 : rd (il W) 2 = ((W.getD 2 0 : Nat) : Int) := g 2
  have g3 : rd (il W) 3 = ((W.getD 3 0 : Nat) : Int) := g 3
  have S : ∀ (i : Nat) (y : List Nat), B4 y → scrimref9_stage.f k (il y) (il (ord i)) = some (il (sbq i y)) := fun i y hy => stage_eq i hy (by omega)
  have S4 : ∀ y, B4 y → scrimref9_stage.f k (il y) [1, 0, 0, 1] = some (il (sbq 4 y)) := fun y hy => S 4 y hy
  have S3 : ∀ y, B4 y → scrimref9_stage.f k (il y) [1, 1, 0, 0] = some (il (sbq 3 y)) := fun y hy => S 3 y hy
  have S2 : ∀ y, B4 y → scrimref9_stage.f k (il y) [0, 1, 0, 1] = some (il (sbq 2 y)) := fun y hy => S 2 y hy
  have S1 : ∀ y, B4 y → scrimref9_stage.f k (il y) [0, 0, 1, 1] = some (il (sbq 1 y)) := fun y hy => S 1 y hy
  have S0 : ∀ y, B4 y → scrimref9_stage.f k (il y) [1, 0, 1, 0] = some (il (sbq 0 y)) := fun y hy => S 0 y hy
  have L : ∀ (i w : Nat) (y : List Nat), scrimref9_laid.f k (il (sbq i y)) (w : Int) = some (il (x4 (sbq i y) (wb w))) := fun i w y => laid_eq (sbq_ok i y) (by omega)
  have ok : ∀ (i w : Nat) (y : List Nat), B4 (x4 (sbq i y) (wb w)) := fun i w y => x4_ok (sbq_ok i y) (wb_ok w)
  have ll : ((il W).length : Int) = (W.length : Int) := by rw [il_length]
  unfold scrimref9_H.f hN
  rw [L0, Option.bind_some, ll]
  have : W.length = 2 ∨ W.length = 3 ∨ W.length = 4 := by omega
  rcases this with h | h | h
  · rw [h, if_neg (by decide), if_neg (by decide), if_neg (by decide), if_pos (by decide), S2 _ (wb_ok x), Option.bind_some, g1, L, Option.bind_some, if_pos (by decide), S1 _ (ok _ _ _), Option.bind_some, g0, L, Option.bind_some, S0 _ (ok _ _ _), Option.bind_some, r6_mds (sbq_ok _ _) (by omega)]; rfl
  · rw [h, if_neg (by decide), if_pos (by decide), if_pos (by decide), S3 _ (wb_ok x), Option.bind_some, g2, L, Option.bind_some, if_neg (by decide), if_pos (by decide), S2 _ (ok _ _ _), Option.bind_some, g1, L, Option.bind_some, if_pos (by decide), S1 _ (ok _ _ _), Option.bind_some, g0, L, Option.bind_some, S0 _ (ok _ _ _), Option.bind_some, r4_mds (sbq_ok _ _) (by omega)]; rfl
  · rw [h, if_pos (by decide), if_pos (by decide), S4 _ (wb_ok x), Option.bind_some, g3, L, Option.bind_some, if_pos (by decide), if_pos (by decide), S3 _ (ok _ _ _), Option.bind_some, g2, L, Option.bind_some, if_neg (by decide), if_pos (by decide), S2 _ (ok _ _ _), Option.bind_some, g1, L, Option.bind_some, if_pos (by decide), S1 _ (ok _ _ _), Option.bind_some, g0, L, Option.bind_some, S0 _ (ok _ _ _), Option.bind_some, r0_mds (sbq_ok _ _) (by omega)]; rfl
end Go.Scr.S
