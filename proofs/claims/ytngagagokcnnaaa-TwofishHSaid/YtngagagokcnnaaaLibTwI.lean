/- The plain law of TwI. -/
import Derived.Test.YtngagagokcnnaaaFnTwofishH
import Derived.Test.YtngagagokcnnaaaLibNum
import Derived.Test.YtngagagokcnnaaaLibGf
import Derived.Test.YtngagagokcnnaaaLibFieldMu0
import Derived.Test.YtngagagokcnnaaaLibIl
import Derived.Test.YtngagagokcnnaaaLibGLoad
import Derived.Test.YtngagagokcnnaaaLibFill
import Derived.Test.YtngagagokcnnaaaLibGIl
import Derived.Test.YtngagagokcnnaaaLibGStore
import Derived.Test.YtngagagokcnnaaaLibGXor
import Derived.Test.YtngagagokcnnaaaLibTwQ
import Derived.Test.YtngagagokcnnaaaLibTwH
import Derived.Test.YtngagagokcnnaaaLibTwM
set_option linter.unusedVariables false
set_option linter.unusedSimpArgs false
set_option linter.unnecessarySimpa false
namespace Go.Scr.S
def nL : List Nat := [187, 196, 237, 137, 27, 237, 191, 123, 242, 137, 123, 137, 50, 187, 27, 242]
def nr (i r : Nat) : Nat := nL.getD (4 * i + r) 0
theorem nr_lt : ∀ i, i < 4 → ∀ r, r < 4 → nr i r < 256 := by decide
def dot (i j : Nat) : Nat := mu 361 (nr i 0) (mr 0 j) ^^^ mu 361 (nr i 1) (mr 1 j) ^^^ mu 361 (nr i 2) (mr 2 j) ^^^ mu 361 (nr i 3) (mr 3 j)
theorem dot_eq : ∀ i, i < 4 → ∀ j, j < 4 → dot i j = if i = j then 1 else 0 := by decide +kernel
def un (i : Nat) (y : List Nat) : Nat := mu 361 (nr i 0) (y.getD 0 0) ^^^ mu 361 (nr i 1) (y.getD 1 0) ^^^ mu 361 (nr i 2) (y.getD 2 0) ^^^ mu 361 (nr i 3) (y.getD 3 0)
theorem nm {i r j : Nat} (hi : i < 4) (hr : r < 4) (hj : j < 4) {x : List Nat} (hx : B4 x) : mu 361 (nr i r) (mm r j x) = mu 361 (mu 361 (nr i r) (mr r j)) (x.getD j 0) :=
  (mu_assoc r361 (nr_lt i hi r hr) (mr_lt r hr j hj) (hx.at j)).symm
theorem col {i j : Nat} (x : List Nat) : mu 361 (mu 361 (nr i 0) (mr 0 j)) (x.getD j 0) ^^^ mu 361 (mu 361 (nr i 1) (mr 1 j)) (x.getD j 0) ^^^ mu 361 (mu 361 (nr i 2) (mr 2 j)) (x.getD j 0) ^^^ mu 361 (mu 361 (nr i 3) (mr 3 j)) (x.getD j 0) = mu 361 (dot i j) (x.getD j 0) := by
  unfold dot; rw [mu_left, mu_left, mu_left]
theorem xlc (a b c : Nat) : a ^^^ (b ^^^ c) = b ^^^ (a ^^^ c) := by rw [← Nat.xor_assoc, Nat.xor_comm a b, Nat.xor_assoc]
theorem re16 (a0 a1 a2 a3 b0 b1 b2 b3 c0 c1 c2 c3 d0 d1 d2 d3 : Nat) : (a0 ^^^ a1 ^^^ a2 ^^^ a3) ^^^ (b0 ^^^ b1 ^^^ b2 ^^^ b3) ^^^ (c0 ^^^ c1 ^^^ c2 ^^^ c3) ^^^ (d0 ^^^ d1 ^^^ d2 ^^^ d3) = (a0 ^^^ b0 ^^^ c0 ^^^ d0) ^^^ (a1 ^^^ b1 ^^^ c1 ^^^ d1) ^^^ (a2 ^^^ b2 ^^^ c2 ^^^ d2) ^^^ (a3 ^^^ b3 ^^^ c3 ^^^ d3) := by
  simp only [Nat.xor_assoc, Nat.xor_comm, xlc]
theorem un_mds {i : Nat} (hi : i < 4) {x : List Nat} (hx : B4 x) : un i (mds x) = x.getD i 0 := by
  have row : ∀ r, r < 4 → mu 361 (nr i r) (rowN r 0 x) = mu 361 (mu 361 (nr i r) (mr r 0)) (x.getD 0 0) ^^^ mu 361 (mu 361 (nr i r) (mr r 1)) (x.getD 1 0) ^^^ mu 361 (mu 361 (nr i r) (mr r 2)) (x.getD 2 0) ^^^ mu 361 (mu 361 (nr i r) (mr r 3)) (x.getD 3 0) := fun r hr => by
    unfold rowN
    rw [Nat.zero_xor, mu_right, mu_right, mu_right, nm hi hr (by omega) hx, nm hi hr (by omega) hx, nm hi hr (by omega) hx, nm hi hr (by omega) hx]
  show mu 361 (nr i 0) (rowN 0 0 x) ^^^ mu 361 (nr i 1) (rowN 1 0 x) ^^^ mu 361 (nr i 2) (rowN 2 0 x) ^^^ mu 361 (nr i 3) (rowN 3 0 x) = _
  rw [row 0 (by omega), row 1 (by omega), row 2 (by omega), row 3 (by omega), re16, col, col, col, col, dot_eq i hi 0 (by omega), dot_eq i hi 1 (by omega), dot_eq i hi 2 (by omega), dot_eq i hi 3 (by omega)]
  have : i = 0 ∨ i = 1 ∨ i = 2 ∨ i = 3 := by omega
  rcases this with rfl | rfl | rfl | rfl <;> simp [zero_mu, one_mu 361 (hx.at _)] <;> exact one_mu 361 (hx.at _)
theorem b4_ext {x y : List Nat} (hx : B4 x) (hy : B4 y) (h : ∀ i, i < 4 → x.getD i 0 = y.getD i 0) : x = y := by
  obtain ⟨a, b, c, d, rfl⟩ := hx.four
  obtain ⟨a', b', c', d', rfl⟩ := hy.four
  have h0 : a = a' := h 0 (by omega)
  have h1 : b = b' := h 1 (by omega)
  have h2 : c = c' := h 2 (by omega)
  have h3 : d = d' := h 3 (by omega)
  rw [h0, h1, h2, h3]
theorem mds_inj {x y : List Nat} (hx : B4 x) (hy : B4 y) (h : mds x = mds y) : x = y :=
  b4_ext hx hy fun i hi => by rw [← un_mds hi hx, h, un_mds hi hy]
theorem qv_inj (i j : Nat) {a b : Nat} (ha : a < 256) (hb : b < 256) (h : qv i j a = qv i j b) : a = b := by
  obtain ⟨hl, _, hn⟩ := q_ok _ (ord_lt i j)
  unfold qv at h
  generalize qq ((ord i).getD j 0) = l at h hl hn
  rw [List.getD_eq_getElem?_getD, List.getD_eq_getElem?_getD, List.getElem?_eq_getElem (by omega), List.getElem?_eq_getElem (by omega)] at h
  exact (List.getElem_inj hn).1 h
theorem sbq_inj (i : Nat) {x y : List Nat} (hx : B4 x) (hy : B4 y) (h : sbq i x = sbq i y) : x = y := by
  simp only [sbq, List.cons.injEq, and_true] at h
  obtain ⟨h0, h1, h2, h3⟩ := h
  refine b4_ext hx hy fun j hj => ?_
  have : j = 0 ∨ j = 1 ∨ j = 2 ∨ j = 3 := by omega
  rcases this with rfl | rfl | rfl | rfl
  · exact qv_inj i 0 (hx.at _) (hy.at _) h0
  · exact qv_inj i 1 (hx.at _) (hy.at _) h1
  · exact qv_inj i 2 (hx.at _) (hy.at _) h2
  · exact qv_inj i 3 (hx.at _) (hy.at _) h3
theorem xc {a b c : Nat} (h : a ^^^ c = b ^^^ c) : a = b := by
  have := congrArg (fun z => z ^^^ c) h
  simpa [Nat.xor_assoc, Nat.xor_self, Nat.xor_zero] using this
theorem x4_inj {x y : List Nat} (w : List Nat) (hx : B4 x) (hy : B4 y) (h : x4 x w = x4 y w) : x = y := by
  simp only [x4, List.cons.injEq, and_true] at h
  obtain ⟨h0, h1, h2, h3⟩ := h
  refine b4_ext hx hy fun j hj => ?_
  have : j = 0 ∨ j = 1 ∨ j = 2 ∨ j = 3 := by omega
  rcases this with rfl | rfl | rfl | rfl
  · exact xc h0
  · exact xc h1
  · exact xc h2
  · exact xc h3
theorem stg_inj (W : List Nat) (i : Nat) : ∀ x y, B4 x → B4 y → stg W i x = stg W i y → x = y := by
  induction i with
  | zero => intro x y hx hy h; exact sbq_inj 0 hx hy h
  | succ i ih =>
    intro x y hx hy h
    exact sbq_inj (i + 1) hx hy (x4_inj _ (sbq_ok _ _) (sbq_ok _ _) (ih _ _ (x4_ok (sbq_ok _ _) (wb_ok _)) (x4_ok (sbq_ok _ _) (wb_ok _)) h))
theorem big_inj {x y : List Nat} (hx : B4 x) (hy : B4 y) (h : bigN x.reverse = bigN y.reverse) : x = y := by
  obtain ⟨a, b, c, d, rfl⟩ := hx.four
  obtain ⟨a', b', c', d', rfl⟩ := hy.four
  have q : ∀ v ∈ [a, b, c, d], v < 256 := hx.2
  have q' : ∀ v ∈ [a', b', c', d'], v < 256 := hy.2
  simp only [List.mem_cons, List.not_mem_nil, or_false, forall_eq_or_imp, forall_eq] at q q'
  simp only [List.reverse_cons, List.reverse_nil, List.nil_append, List.cons_append, bigN, List.foldl] at h
  have h0 : a = a' := by omega
  have h1 : b = b' := by omega
  have h2 : c = c' := by omega
  have h3 : d = d' := by omega
  rw [h0, h1, h2, h3]
theorem wb_big {w : Nat} (h : w < 4294967296) : bigN (wb w).reverse = w := by unfold wb; rw [List.reverse_reverse]; exact big_dig4 w h
theorem wb_inj {x y : Nat} (hx : x < 4294967296) (hy : y < 4294967296) (h : wb x = wb y) : x = y := by rw [← wb_big hx, h, wb_big hy]
theorem hN_inj (W : List Nat) {x y : Nat} (hx : x < 4294967296) (hy : y < 4294967296) : hN W x = hN W y ↔ x = y :=
  ⟨fun h => wb_inj hx hy (stg_inj W _ _ _ (wb_ok x) (wb_ok y) (mds_inj (stg_ok W _ _) (stg_ok W _ _) (big_inj (mds_ok _) (mds_ok _) h))), fun h => by rw [h]⟩
end Go.Scr.S
