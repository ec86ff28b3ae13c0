/- The plain law of BoxTwo. -/
import Derived.Test.YtfffmmpibebpcaaDoorFnBoxTwo
import Derived.Test.YtfffmmpibebpcaaDoorXLaw
import Derived.Test.YtfffmmpibebpcaaDoorLibNum
import Derived.Test.YtfffmmpibebpcaaDoorLibIl
import Derived.Test.YtfffmmpibebpcaaDoorLibBoxKnown0
import Derived.Test.YtfffmmpibebpcaaDoorLibBoxIsL
import Derived.Test.YtfffmmpibebpcaaDoorLibPigeon
import Derived.Test.YtfffmmpibebpcaaDoorLibBoxBackL
import Derived.Test.YtfffmmpibebpcaaDoorLibBoxWithin
import Derived.Test.YtfffmmpibebpcaaDoorLibBoxTable
set_option linter.unusedVariables false
set_option linter.unusedSimpArgs false
set_option linter.unnecessarySimpa false
namespace Go.Scr.S
theorem two_l1 {n : Nat} (hn : n ≤ 256) {a b c : List Nat} (ha : a.length = n) (hb : b.length = n) (hc : c.length = n) (hlt : ∀ v, v < n → b.getD v 0 < n) (he : ∀ v, v < n → c.getD v 0 = a.getD (b.getD v 0) 0) (d : Nat) {k i : Nat} (hk : d < k) (hi : i + d = n) :
    scrimlaw4_BoxTwo.l1 k (il a, true) (il b, true) (il c, true) (n : Int) (i : Int) = some true := by
  induction d generalizing k i with
  | zero =>
    obtain ⟨k, rfl⟩ : ∃ j, k = j + 1 := ⟨k - 1, by omega⟩
    have : i = n := by omega
    subst this
    simp only [scrimlaw4_BoxTwo.l1]
    rw [if_neg (by simp)]
  | succ d ih =>
    obtain ⟨k, rfl⟩ : ∃ j, k = j + 1 := ⟨k - 1, by omega⟩
    have a1 := hlt i (by omega)
    have a2 := he i (by omega)
    have c1 : decide ((i : Int) < (n : Int)) = true := by rw [decide_eq_true_eq]; omega
    have c2 : decide (0 ≤ (i : Int)) = true := by rw [decide_eq_true_eq]; omega
    have c5 : decide (0 ≤ ((b.getD i 0 : Nat) : Int)) = true := by rw [decide_eq_true_eq]; omega
    have c6 : decide (((b.getD i 0 : Nat) : Int) < (n : Int)) = true := by rw [decide_eq_true_eq]; omega
    have c7 : decide (((b.getD i 0 : Nat) : Int) ≥ (n : Int)) = false := by rw [decide_eq_false_iff_not]; omega
    have e5 : I64 ((i : Int) + 1) = ((i + 1 : Nat) : Int) := by rw [I64_id (by omega) (by omega)]; simp
    have e7 : I64 ((b.getD i 0 : Nat) : Int) = ((b.getD i 0 : Nat) : Int) := I64_id (by omega) (by omega)
    simp only [scrimlaw4_BoxTwo.l1, il_length, ha, hb, hc, c1, c2, if_true, il_rd', e7, c7, c5, c6, a2, bne_self_eq_false, Option.bind_some, Bool.false_eq_true, if_false, e5]
    exact ih (by omega) (by omega)
theorem two_l0 {n : Nat} {t u : List Nat} (ht : ∀ x ∈ t, x < 256) (hu : ∀ x ∈ u, x < 256) (pt : isP t = true) (pu : isP u = true) (lt : t.length = n) (lu : u.length = n) (d : Nat) {k i : Nat} {x : List Nat} (hk : d + 1500 < k) (hi : i + d = n) (hx : x.length = n) (hf : ∀ j, j < i → x.getD j 0 = u.getD (t.getD j 0) 0) :
    scrimlaw4_BoxTwo.l0 k (il u) (n : Int) (il t) (il x) (i : Int) = some true := by
  have hn : n ≤ 256 := by have := (isP_spec pt).1; omega
  induction d generalizing k i x with
  | zero =>
    obtain ⟨k, rfl⟩ : ∃ j, k = j + 1 := ⟨k - 1, by omega⟩
    have : i = n := by omega
    subst this
    have tl : ∀ j, j < i → t.getD j 0 < i := fun j hj => by have := isP_lt ht pt (by omega : j < t.length); omega
    have ul : ∀ j, j < i → u.getD j 0 < i := fun j hj => by have := isP_lt hu pu (by omega : j < u.length); omega
    have xl : ∀ y ∈ x, y < i := by
      intro y hy
      obtain ⟨j, hj, e⟩ := List.mem_iff_getElem.1 hy
      have h1 := hf j (by omega)
      rw [List.getD_eq_getElem?_getD, List.getElem?_eq_getElem hj] at h1
      have h2 : y = u.getD (t.getD j 0) 0 := by rw [← e]; exact h1
      rw [h2]; exact ul _ (tl j (by omega))
    have px : isP x = true := by
      refine isP_of (by omega) fun v hv => ?_
      rw [hx]
      refine ⟨fun hm => xl v hm, fun hv' => ?_⟩
      obtain ⟨p, hp, e1⟩ := isP_at pu (by omega : v < u.length)
      obtain ⟨q, hq, e2⟩ := isP_at pt (by omega : p < t.length)
      have h1 := hf q (by omega)
      rw [e2, e1] at h1
      rw [← h1]; exact getD_mem (by omega)
    have x2 : ∀ y ∈ x, y < 256 := fun y hy => by have := xl y hy; omega
    obtain ⟨a, ea, ua⟩ := back_eq ht pt (k := k) (by omega)
    obtain ⟨b, eb, ub⟩ := back_eq hu pu (k := k) (by omega)
    obtain ⟨c, ec, uc⟩ := back_eq x2 px (k := k) (by omega)
    have la : a.length = i := by rw [ua.1, lt]
    have lb : b.length = i := by rw [ub.1, lu]
    have lc : c.length = i := by rw [uc.1, hx]
    have s := is_eq x2 (k := k) (by omega)
    rw [px] at s
    have hbl : ∀ v, v < i → b.getD v 0 < i := fun v hv => by have := (ub.back hu pu (by omega : v < u.length)).1; omega
    have hce : ∀ v, v < i → c.getD v 0 = a.getD (b.getD v 0) 0 := by
      intro v hv
      have h1 := (ub.back hu pu (by omega : v < u.length)).2
      obtain ⟨h2, h3⟩ := ua.back ht pt (v := b.getD v 0) (by have := hbl v hv; omega)
      have h4 := hf (a.getD (b.getD v 0) 0) (by omega)
      rw [h3, h1] at h4
      have h5 := uc.2 (a.getD (b.getD v 0) 0) (by omega)
      rw [h4] at h5
      exact h5
    have main := two_l1 hn la lb lc hbl hce i (k := k) (i := 0) (by omega) (by omega)
    have c1 : decide ((i : Int) < (i : Int)) = false := by simp
    simp only [scrimlaw4_BoxTwo.l0, c1, Bool.false_eq_true, if_false, ea, eb, ec, Option.bind_some, Bool.not_true, il_length, la, lb, lc, bne_self_eq_false, s]
    exact main
  | succ d ih =>
    obtain ⟨k, rfl⟩ : ∃ j, k = j + 1 := ⟨k - 1, by omega⟩
    have a1 := isP_lt ht pt (by omega : i < t.length)
    have c1 : decide ((i : Int) < (n : Int)) = true := by rw [decide_eq_true_eq]; omega
    have c2 : decide (0 ≤ (i : Int)) = true := by rw [decide_eq_true_eq]; omega
    have c3 : decide (0 ≤ ((t.getD i 0 : Nat) : Int)) = true := by rw [decide_eq_true_eq]; omega
    have c4 : decide (((t.getD i 0 : Nat) : Int) < (n : Int)) = true := by rw [decide_eq_true_eq]; omega
    have e5 : I64 ((i : Int) + 1) = ((i + 1 : Nat) : Int) := by rw [I64_id (by omega) (by omega)]; simp
    simp only [scrimlaw4_BoxTwo.l0, il_length, lt, lu, c1, c2, if_true, il_rd', c3, c4, Int.toNat_natCast, il_set, e5]
    refine ih (by omega) (by omega) (by rw [List.length_set]; exact hx) fun j hj => ?_
    rw [List.getD_eq_getElem?_getD, List.getElem?_set]
    by_cases e : i = j
    · subst e; rw [if_pos rfl, if_pos (by omega)]; rfl
    · rw [if_neg e, ← List.getD_eq_getElem?_getD]; exact hf j (by omega)
theorem BoxTwo (a0 : Int) (a1 : List Int) (a2 : List Int) (h0 : In .i64 a0) (h1 : a1.length ≤ maxLen) (h2 : ∀ x ∈ a1, In .i64 x) (h3 : a2.length ≤ maxLen) (h4 : ∀ x ∈ a2, In .i64 x) : ∃ k, scrimlaw4_BoxTwo.f k a0 a1 a2 = some true := by
  obtain ⟨n, hn, en⟩ : ∃ i : Nat, i < 257 ∧ a0 % 257 = i := ⟨(a0 % 257).toNat, by omega, by omega⟩
  obtain ⟨k, hk⟩ : ∃ k : Nat, a1.length + a2.length + 3000 ≤ k := ⟨_, Nat.le_refl _⟩
  refine ⟨k, ?_⟩
  have w := within4_eq (k := k) a0 257 (by decide) (by decide)
  rw [en] at w
  obtain ⟨t, e1, lt, ht, pt⟩ := table_eq (by omega : n ≤ 256) h1 (k := k) (by omega)
  obtain ⟨u, e2, lu, hu, pu⟩ := table_eq (by omega : n ≤ 256) h3 (k := k) (by omega)
  have main := two_l0 ht hu pt pu lt lu n (k := k) (i := 0) (x := List.replicate n 0) (by omega) (by omega) (by rw [List.length_replicate]) (fun j hj => absurd hj (Nat.not_lt_zero j))
  rw [← il_replicate] at main
  have c1 : decide (0 ≤ (n : Int)) = true := by rw [decide_eq_true_eq]; omega
  have c2 : decide ((n : Int) ≤ 1000000000) = true := by rw [decide_eq_true_eq]; omega
  unfold scrimlaw4_BoxTwo.f
  simp only [known4_eq (k := k) (by omega), Option.bind_some, Bool.not_true, Bool.false_eq_true, if_false, w, e1, e2, c1, c2, if_true, Int.toNat_natCast]
  exact main
end Go.Scr.S
