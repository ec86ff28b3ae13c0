/- The plain law of BoxOnes. -/
import Derived.Test.YtfffmmpibebpcaaDoorFnBoxOnes
import Derived.Test.YtfffmmpibebpcaaDoorXLaw
import Derived.Test.YtfffmmpibebpcaaDoorLibNum
import Derived.Test.YtfffmmpibebpcaaDoorLibGf
import Derived.Test.YtfffmmpibebpcaaDoorLibFieldPw0
import Derived.Test.YtfffmmpibebpcaaDoorLibFieldWithin
import Derived.Test.YtfffmmpibebpcaaDoorLibFieldMod
import Derived.Test.YtfffmmpibebpcaaDoorLibFill
import Derived.Test.YtfffmmpibebpcaaDoorLibIl
import Derived.Test.YtfffmmpibebpcaaDoorLibBoxKnown0
import Derived.Test.YtfffmmpibebpcaaDoorLibBoxAff
import Derived.Test.YtfffmmpibebpcaaDoorLibBoxMk
import Derived.Test.YtfffmmpibebpcaaDoorLibBoxTab
import Derived.Test.YtfffmmpibebpcaaDoorLibBoxIsL
set_option linter.unusedVariables false
set_option linter.unusedSimpArgs false
set_option linter.unnecessarySimpa false
namespace Go.Scr.S
def one8 : List Nat := [1, 2, 4, 8, 16, 32, 64, 128]
theorem aff_one : ∀ x : Nat, x < 256 → aff one8 x 8 = x := by decide +kernel
theorem aff_none : ∀ x : Nat, x < 256 → aff [0, 0, 0, 0, 0, 0, 0, 0] x 8 = 0 := by decide +kernel
theorem tab_is : ∀ m ∈ [283, 361, 333, 285, 299], isP (tabN m 254 one8 0) = true := by decide +kernel
theorem tab_two : ∀ m ∈ [283, 361, 333, 285, 299], ∀ x : Nat, x < 256 → pl2 m 8 (pl2 m 8 x 254 1) 254 1 = x := by decide +kernel
theorem tab_at {m e : Nat} {l : List Nat} {c x : Nat} (hx : x < 256) : (tabN m e l c).getD x 0 = c ^^^ aff l (pl2 m 8 x e 1) 8 := by
  unfold tabN
  rw [List.getD_eq_getElem?_getD, List.getElem?_map, List.getElem?_range hx]; rfl
theorem ones_l0 {T U : List Nat} (hT : T.length = 256) (hU : U.length = 256) (h1 : ∀ x, x < 256 → T.getD x 0 = x) (h2 : ∀ x, x < 256 → U.getD x 0 < 256 ∧ U.getD (U.getD x 0) 0 = x) (d : Nat) {k i : Nat} (hk : d < k) (hi : i + d = 256) :
    scrimlaw4_BoxOnes.l0 k (il T) (il U) (i : Int) = some true := by
  induction d generalizing k i with
  | zero =>
    obtain ⟨k, rfl⟩ : ∃ j, k = j + 1 := ⟨k - 1, by omega⟩
    have : i = 256 := by omega
    subst this
    simp only [scrimlaw4_BoxOnes.l0]
    rw [if_neg (by decide)]
  | succ d ih =>
    obtain ⟨k, rfl⟩ : ∃ j, k = j + 1 := ⟨k - 1, by omega⟩
    have a1 := h1 i (by omega)
    obtain ⟨a2, a3⟩ := h2 i (by omega)
    have c1 : decide ((i : Int) < 256) = true := by rw [decide_eq_true_eq]; omega
    have c2 : decide (0 ≤ (i : Int)) = true := by rw [decide_eq_true_eq]; omega
    have c5 : decide ((i : Int) < ((256 : Nat) : Int)) = true := by rw [decide_eq_true_eq]; omega
    have c3 : decide (0 ≤ ((U.getD i 0 : Nat) : Int)) = true := by rw [decide_eq_true_eq]; omega
    have c4 : decide (((U.getD i 0 : Nat) : Int) < ((256 : Nat) : Int)) = true := by rw [decide_eq_true_eq]; omega
    have e5 : I64 ((i : Int) + 1) = ((i + 1 : Nat) : Int) := by rw [I64_id (by omega) (by omega)]; simp
    have e6 : I64 (i : Int) = (i : Int) := I64_id (by omega) (by omega)
    have e7 : U8 (i : Int) = (i : Int) := U8_id (by omega) (by omega)
    simp only [scrimlaw4_BoxOnes.l0, il_length, hT, hU, c1, c2, c5, if_true, il_rd', a1, a3, c3, c4, e5, e6, e7, bne_self_eq_false, Bool.false_eq_true, if_false]
    exact ih (by omega) (by omega)
theorem BoxOnes (a0 : Int) (a1 : Int) (a2 : Int) (h0 : In .u8 a0) (h1 : In .u8 a1) (h2 : In .i64 a2) : ∃ k, scrimlaw4_BoxOnes.f k a0 a1 a2 = some true := by
  obtain ⟨x, hx, rfl⟩ := u8_of h0
  obtain ⟨c, hc, rfl⟩ := u8_of h1
  obtain ⟨m, hf, hz⟩ := fmod_eq a2
  have hm := hf.rst
  obtain ⟨k, hk⟩ : ∃ k : Nat, 700 ≤ k := ⟨700, Nat.le_refl _⟩
  refine ⟨k, ?_⟩
  have hmem : m ∈ [283, 361, 333, 285, 299] := by rcases hf with h | h | h | h | h <;> simp [h]
  have ho : ∀ x ∈ one8, x < 256 := by decide
  have hn : ∀ x ∈ [0, 0, 0, 0, 0, 0, 0, 0], x < 256 := by decide
  obtain ⟨T, eT⟩ : ∃ T, T = tabN m 1 one8 0 := ⟨_, rfl⟩
  obtain ⟨U, eU⟩ : ∃ U, U = tabN m 254 one8 0 := ⟨_, rfl⟩
  have p1 := make_eq (k := k) (e := 1) (c := 0) (l := one8) hm (by decide) ho (by decide) (by omega)
  have p2 := make_eq (k := k) (e := 254) (c := 0) (l := one8) hm (by decide) ho (by decide) (by omega)
  rw [tab_eq hm (by decide), ← eT] at p1
  rw [tab_eq hm (by decide), ← eU] at p2
  have q1 : box_Make.f k 1 (m : Int) [1, 2, 4, 8, 16, 32, 64, 128] 0 = some (il T) := p1
  have q2 : box_Make.f k 254 (m : Int) [1, 2, 4, 8, 16, 32, 64, 128] 0 = some (il U) := p2
  have l1 : T.length = 256 := by rw [eT]; simp [tabN]
  have l2 : U.length = 256 := by rw [eU]; simp [tabN]
  have s2 := is_eq (l := U) (by rw [eU]; exact tab_lt (by decide)) (k := k) (by omega)
  have d2 : isP U = true := by rw [eU]; exact tab_is m hmem
  rw [d2] at s2
  have g1 : ∀ x, x < 256 → T.getD x 0 = x := by
    intro y hy
    have e : pl2 m 8 y 1 1 = y := by rw [pl2_eq hm 8 hy (by decide) (by decide), pw_one m hy, one_mu m hy]
    rw [eT, tab_at hy, e, aff_one y hy, Nat.zero_xor]
  have g2 : ∀ x, x < 256 → U.getD x 0 < 256 ∧ U.getD (U.getD x 0) 0 = x := by
    intro y hy
    have h1 : pl2 m 8 y 254 1 < 256 := by rw [pl2_eq hm 8 hy (by decide) (by decide), one_mu m (pw_lt hm hy _)]; exact pw_lt hm hy _
    have h2 : U.getD y 0 = pl2 m 8 y 254 1 := by rw [eU, tab_at hy, aff_one _ h1, Nat.zero_xor]
    have h3 := tab_two m hmem y hy
    refine ⟨by rw [h2]; exact h1, ?_⟩
    rw [h2, eU, tab_at h1, h3, aff_one y hy, Nat.zero_xor]
  have f1 := baff_eq (k := k) ho hx hc (by omega)
  have f2 := baff_eq (k := k) hn hx hc (by omega)
  rw [aff_one x hx, Nat.xor_comm] at f1
  rw [aff_none x hx, Nat.xor_zero] at f2
  have r1 : box_Affine.f k (x : Int) [1, 2, 4, 8, 16, 32, 64, 128] (c : Int) = some ((x ^^^ c : Nat) : Int) := f1
  have r2 : box_Affine.f k (x : Int) [0, 0, 0, 0, 0, 0, 0, 0] (c : Int) = some (c : Int) := f2
  have b1 := bx8 hx hc
  have c0 : (((256 : Nat) : Int) != 256) = false := by decide
  have main := ones_l0 l1 l2 g1 g2 256 (k := k) (i := 0) (by omega) (by omega)
  clear eT eU p1 p2
  unfold scrimlaw4_BoxOnes.f
  simp only [known4_eq (k := k) (by omega), Option.bind_some, Bool.not_true, Bool.false_eq_true, if_false, hz, q1, q2, r1, r2, b1, il_length, l1, l2, c0, s2, bne_self_eq_false]
  exact main
end Go.Scr.S
