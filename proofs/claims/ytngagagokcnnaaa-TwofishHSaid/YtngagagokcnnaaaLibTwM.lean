/- The plain law of TwM. -/
import Derived.Test.YtngagagokcnnaaaFnTwofishH
import Derived.Test.YtngagagokcnnaaaLibNum
import Derived.Test.YtngagagokcnnaaaLibGf
import Derived.Test.YtngagagokcnnaaaLibFieldMu0
import Derived.Test.YtngagagokcnnaaaLibIl
import Derived.Test.YtngagagokcnnaaaLibGLoad
import Derived.Test.YtngagagokcnnaaaLibFill
import Derived.Test.YtngagagokcnnaaaLibGIl
import Derived.Test.YtngagagokcnnaaaLibGStore
import Derived.Test.YtngagagokcnnaaaLibGXor
import Derived.Test.YtngagagokcnnaaaLibTwQ
import Derived.Test.YtngagagokcnnaaaLibTwH
set_option linter.unusedVariables false
set_option linter.unusedSimpArgs false
set_option linter.unnecessarySimpa false
namespace Go.Scr.S
def mixL : List Nat := [1, 239, 91, 91, 91, 239, 239, 1, 239, 91, 1, 239, 239, 1, 239, 91]
def mr (r j : Nat) : Nat := mixL.getD (4 * r + j) 0
theorem mr_sub : ∀ r : Nat, r < 4 → ∀ j : Nat, j < 4 → rd (sub (il mixL) (r : Int) 4) (j : Int) = ((mr r j : Nat) : Int) := by decide
theorem mr_lt : ∀ r : Nat, r < 4 → ∀ j : Nat, j < 4 → mr r j < 256 := by decide
theorem r361 : Rst 361 := ⟨by decide, by decide⟩
def mm (r j : Nat) (x : List Nat) : Nat := mu 361 (mr r j) (x.getD j 0)
theorem mm_lt {r j : Nat} (hr : r < 4) (hj : j < 4) (x : List Nat) : mm r j x < 256 := mu_lt r361 (mr_lt r hr j hj) _
theorem getD_set_self {y : List Nat} {r v : Nat} (h : r < y.length) : (y.set r v).getD r 0 = v := by
  rw [List.getD_eq_getElem?_getD, List.getElem?_set_self h]; rfl
theorem h_l3s {b x y : List Nat} (hb : b.length = 4) (hx : B4 x) (hy : B4 y) {r j k : Nat} (hr : r < 4) (hj : j < 4) (hk : 10 ≤ k) :
    twofish_H.l3 (k + 1) (il mixL) (r : Int) (il b) (il x) (il y) (j : Int) = twofish_H.l3 k (il mixL) (r : Int) (il b) (il x) (il (y.set r (y.getD r 0 ^^^ mm r j x))) ((j + 1 : Nat) : Int) := by
  have c0 : ∀ z : Nat, decide (0 ≤ (z : Int)) = true := fun z => by rw [decide_eq_true_eq]; omega
  have c1 : decide ((j : Int) < 4) = true := by rw [decide_eq_true_eq]; omega
  have c3 : decide ((r : Int) < 4) = true := by rw [decide_eq_true_eq]; omega
  have c2 : decide ((j : Int) < ((il b).length : Int)) = true := by rw [decide_eq_true_eq, il_length, hb]; omega
  have a2 : I64 ((j : Int) + 1) = ((j + 1 : Nat) : Int) := I64_nat (n := j + 1) (by omega)
  have q := fm_eq (k := k) r361 (by omega) (mr_lt r hr j hj) (hx.at j)
  simp only [Int.cast_ofNat_Int] at q
  have bx : bxor .u8 ((y.getD r 0 : Nat) : Int) ((mu 361 (mr r j) (x.getD j 0) : Nat) : Int) = ((y.getD r 0 ^^^ mm r j x : Nat) : Int) := bx8 (hy.at r) (mm_lt hr hj x)
  rw [twofish_H.l3, if_pos c1, if_pos (c0 _), if_pos c1, if_pos (c0 _), if_pos c3, if_pos (c0 _), if_pos c2, mr_sub r hr j hj, il_rd', q, Option.bind_some, if_pos (c0 _), if_pos c3, il_rd', bx, Int.toNat_natCast, il_set, a2]
def rowN (r : Nat) (v : Nat) (x : List Nat) : Nat := (((v ^^^ mm r 0 x) ^^^ mm r 1 x) ^^^ mm r 2 x) ^^^ mm r 3 x
theorem h_row {b x y : List Nat} (hb : b.length = 4) (hx : B4 x) (hy : B4 y) {r k : Nat} (hr : r < 4) (hk : 20 ≤ k) :
    twofish_H.l2 (k + 6) (il mixL) (il b) (il x) (il y) (r : Int) = twofish_H.l2 k (il mixL) (il b) (il x) (il (y.set r (rowN r (y.getD r 0) x))) ((r + 1 : Nat) : Int) := by
  have c0 : decide (0 ≤ (r : Int)) = true := by rw [decide_eq_true_eq]; omega
  have c3 : decide ((r : Int) < 4) = true := by rw [decide_eq_true_eq]; omega
  have a2 : I64 ((r : Int) + 1) = ((r + 1 : Nat) : Int) := I64_nat (n := r + 1) (by omega)
  have lt : ∀ v j, v < 256 → j < 4 → v ^^^ mm r j x < 256 := fun v j hv hj => x8lt hv (mm_lt hr hj x)
  have g : ∀ v, (y.set r v).getD r 0 = v := fun v => getD_set_self (by rw [hy.1]; exact hr)
  have ss : ∀ u v, (y.set r u).set r v = y.set r v := fun u v => by rw [List.set_set]
  have l0 := lt _ 0 (hy.at r) (by omega)
  have l1 := lt _ 1 l0 (by omega)
  have l2 := lt _ 2 l1 (by omega)
  have e0 := h_l3s hb hx hy hr (j := 0) (k := k + 4) (by omega) (by omega)
  have e1 := h_l3s hb hx (hy.set r l0) hr (j := 1) (k := k + 3) (by omega) (by omega)
  rw [g, ss] at e1
  have e2 := h_l3s hb hx (hy.set r l1) hr (j := 2) (k := k + 2) (by omega) (by omega)
  rw [g, ss] at e2
  have e3 := h_l3s hb hx (hy.set r l2) hr (j := 3) (k := k + 1) (by omega) (by omega)
  rw [g, ss] at e3
  show twofish_H.l2 (k + 5 + 1) _ _ _ _ _ = _
  rw [twofish_H.l2, if_pos c3, if_pos c0, if_pos c3]
  refine (e0.trans (e1.trans (e2.trans e3))).trans ?_
  rw [twofish_H.l3, if_neg (by decide), a2]; rfl
def mds (x : List Nat) : List Nat := [rowN 0 0 x, rowN 1 0 x, rowN 2 0 x, rowN 3 0 x]
theorem rowN_lt {r v : Nat} (hr : r < 4) (hv : v < 256) (x : List Nat) : rowN r v x < 256 := x8lt (x8lt (x8lt (x8lt hv (mm_lt hr (by omega) x)) (mm_lt hr (by omega) x)) (mm_lt hr (by omega) x)) (mm_lt hr (by omega) x)
theorem mds_ok (x : List Nat) : B4 (mds x) := ⟨rfl, fun v hv => by
  simp only [mds, List.mem_cons, List.not_mem_nil, or_false] at hv
  rcases hv with rfl | rfl | rfl | rfl
  · exact rowN_lt (r := 0) (by omega) (by decide) x
  · exact rowN_lt (r := 1) (by omega) (by decide) x
  · exact rowN_lt (r := 2) (by omega) (by decide) x
  · exact rowN_lt (r := 3) (by omega) (by decide) x⟩
theorem turned4 {k : Nat} (x y z w : Int) (hk : 10 ≤ k) : words_turned.f k [x, y, z, w] = some [w, z, y, x] := by
  obtain ⟨j, rfl⟩ : ∃ j, k = j + 10 := ⟨k - 10, by omega⟩
  kernel_rfl
theorem le4 {x : List Nat} (hx : B4 x) {k : Nat} (hk : 10 ≤ k) : words_Le32.f k (il x) = some (((bigN x.reverse : Nat) : Int), true) := by
  obtain ⟨a, b, c, d, rfl⟩ := hx.four
  unfold words_Le32.f
  have := turned4 (k := k) (a : Int) (b : Int) (c : Int) (d : Int) hk
  show (words_turned.f k [(a : Int), (b : Int), (c : Int), (d : Int)]).bind _ = _
  rw [this, Option.bind_some]
  have q : words_Be32.f k [(d : Int), (c : Int), (b : Int), (a : Int)] = some (((bigN [d, c, b, a] : Nat) : Int), true) := be32_eq (l := [d, c, b, a]) (k := k) (fun v hv => hx.2 v (by simp at hv ⊢; omega)) rfl (by omega)
  rw [q]; rfl
theorem putle4 {v k : Nat} (hv : v < 4294967296) (hk : 20 ≤ k) : words_PutLe32.f k (v : Int) = some (il (wb v)) := by
  unfold words_PutLe32.f
  have := turned4 (k := k) ((v >>> 24 % 256 : Nat) : Int) ((v >>> 16 % 256 : Nat) : Int) ((v >>> 8 % 256 : Nat) : Int) ((v % 256 : Nat) : Int) (by omega)
  have e : il (dig v 4) = [((v >>> 24 % 256 : Nat) : Int), ((v >>> 16 % 256 : Nat) : Int), ((v >>> 8 % 256 : Nat) : Int), ((v % 256 : Nat) : Int)] := by rw [dig4]; rfl
  rw [putbe32_eq v hv (by omega), Option.bind_some, e, this, Option.bind_some]
  unfold wb; rw [dig4]; rfl
theorem h_mds {b x : List Nat} (hb : b.length = 4) (hx : B4 x) {k : Nat} (hk : 60 ≤ k) : twofish_H.l2 k (il mixL) (il b) (il x) (List.replicate 4 (0 : Int)) 0 = some ((bigN (mds x).reverse : Nat) : Int) := by
  obtain ⟨k, rfl⟩ : ∃ j, k = j + 25 := ⟨k - 25, by omega⟩
  have z : B4 [0, 0, 0, 0] := ⟨rfl, by decide⟩
  have e0 := h_row hb hx z (r := 0) (k := k + 19) (by omega) (by omega)
  have o1 := z.set 0 (rowN_lt (r := 0) (v := 0) (by omega) (by decide) x)
  have e1 := h_row hb hx o1 (r := 1) (k := k + 13) (by omega) (by omega)
  have o2 := o1.set 1 (rowN_lt (r := 1) (v := 0) (by omega) (by decide) x)
  have e2 := h_row hb hx o2 (r := 2) (k := k + 7) (by omega) (by omega)
  have o3 := o2.set 2 (rowN_lt (r := 2) (v := 0) (by omega) (by decide) x)
  have e3 := h_row hb hx o3 (r := 3) (k := k + 1) (by omega) (by omega)
  refine (e0.trans (e1.trans (e2.trans e3))).trans ?_
  show twofish_H.l2 (k + 1) (il mixL) (il b) (il x) (il (mds x)) 4 = _
  rw [twofish_H.l2, if_neg (by decide), le4 (mds_ok x) (by omega), Option.bind_some]
theorem h_l0 {W : List Nat} (hW : ∀ v ∈ W, v < 4294967296) (i : Nat) : ∀ {k : Nat} {x : List Nat}, 6 * i + 100 ≤ k → i ≤ 4 → i ≤ W.length → B4 x → twofish_H.l0 k (il W) (il x) (i : Int) = some ((bigN (mds (stg W i x)).reverse : Nat) : Int) := by
  induction i with
  | zero =>
    intro k x hk hi hl hx
    obtain ⟨k, rfl⟩ : ∃ j, k = j + 6 := ⟨k - 6, by omega⟩
    have e := h_l1 (a1 := il W) (i := 0) 0 hx (k := k + 1) (by omega)
    have o := order_eq (i := 0) (k := k + 5) (by omega)
    show twofish_H.l0 (k + 5 + 1) (il W) (il x) 0 = _
    rw [twofish_H.l0]
    simp only [Int.cast_ofNat_Int] at o
    rw [o, Option.bind_some]
    refine e.trans ?_
    rw [twofish_H.l1, if_neg (by decide), if_neg (by decide)]
    show (some (il mixL)).bind _ = _
    rw [Option.bind_some]
    exact h_mds hx.1 (sbq_ok 0 x) (by omega)
  | succ i ih =>
    intro k x hk hi hl hx
    obtain ⟨k, rfl⟩ : ∃ j, k = j + 6 := ⟨k - 6, by omega⟩
    have e := h_l1 (a1 := il W) (i := i + 1) ((i + 1 : Nat) : Int) hx (k := k + 1) (by omega)
    have o := order_eq (i := i + 1) (k := k + 5) hi
    have a1 : I64 (((i + 1 : Nat) : Int) - 1) = (i : Int) := by rw [I64_id (by omega) (by omega)]; omega
    have wl : W.getD i 0 < 4294967296 := by
      rw [List.getD_eq_getElem?_getD]
      cases e : W[i]? with
      | none => decide
      | some v => exact hW v (List.mem_of_getElem? e)
    have xr := xor4_eq (sbq_ok (i + 1) x) (wb_ok (W.getD i 0)) (k := k) (by omega)
    show twofish_H.l0 (k + 5 + 1) (il W) (il x) ((i + 1 : Nat) : Int) = _
    rw [twofish_H.l0, o, Option.bind_some]
    refine e.trans ?_
    rw [twofish_H.l1, if_neg (by decide), if_pos (by rw [decide_eq_true_eq]; omega), a1, if_pos (by rw [decide_eq_true_eq]; omega), if_pos (by rw [decide_eq_true_eq, il_length]; omega), il_rd', putle4 wl (by omega), Option.bind_some, xr, Option.bind_some]
    exact ih (by omega) (by omega) (by omega) (x4_ok (sbq_ok _ _) (wb_ok _))
def hN (W : List Nat) (x : Nat) : Nat := bigN (mds (stg W (min W.length 4) (wb x))).reverse
theorem h_eq {W : List Nat} (hW : ∀ v ∈ W, v < 4294967296) {x k : Nat} (hx : x < 4294967296) (hk : 200 ≤ k) : twofish_H.f k (x : Int) (il W) = some ((hN W x : Nat) : Int) := by
  have m : mn (((il W).length : Nat) : Int) 4 = ((min W.length 4 : Nat) : Int) := by
    unfold mn; rw [il_length]; split <;> omega
  unfold twofish_H.f
  rw [putle4 hx (by omega), Option.bind_some, m]
  exact h_l0 hW (min W.length 4) (by omega) (by omega) (by omega) (wb_ok x)
end Go.Scr.S
