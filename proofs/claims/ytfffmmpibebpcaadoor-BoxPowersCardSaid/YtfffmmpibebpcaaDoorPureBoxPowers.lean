/- The plain law of BoxPowers. -/
import Derived.Test.YtfffmmpibebpcaaDoorFnBoxPowers
import Derived.Test.YtfffmmpibebpcaaDoorXLaw
import Derived.Test.YtfffmmpibebpcaaDoorLibNum
import Derived.Test.YtfffmmpibebpcaaDoorLibGf
import Derived.Test.YtfffmmpibebpcaaDoorLibFieldPw0
import Derived.Test.YtfffmmpibebpcaaDoorLibFieldWithin
import Derived.Test.YtfffmmpibebpcaaDoorLibFieldMod
import Derived.Test.YtfffmmpibebpcaaDoorLibFill
import Derived.Test.YtfffmmpibebpcaaDoorLibIl
import Derived.Test.YtfffmmpibebpcaaDoorLibBoxKnown0
import Derived.Test.YtfffmmpibebpcaaDoorLibBoxAff
import Derived.Test.YtfffmmpibebpcaaDoorLibBoxWithin
import Derived.Test.YtfffmmpibebpcaaDoorLibBoxMk
import Derived.Test.YtfffmmpibebpcaaDoorLibBoxTab
import Derived.Test.YtfffmmpibebpcaaDoorLibBoxIsL
import Derived.Test.YtfffmmpibebpcaaDoorLibPigeon
import Derived.Test.YtfffmmpibebpcaaDoorLibBoxBackL
set_option linter.unusedVariables false
set_option linter.unusedSimpArgs false
set_option linter.unnecessarySimpa false
namespace Go.Scr.S
def one8 : List Nat := [1, 2, 4, 8, 16, 32, 64, 128]
theorem aff_one : ∀ x : Nat, x < 256 → aff one8 x 8 = x := by decide +kernel
theorem pw_mul {m x : Nat} (hm : Rst m) (hx : x < 256) (a b : Nat) : pw m x (a * b) = pw m (pw m x a) b := by
  induction b with
  | zero => rfl
  | succ b ih =>
    rw [Nat.mul_succ, pw_add hm hx, ih]; rfl
theorem one_pw {m : Nat} (n : Nat) : pw m 1 n = 1 := by
  induction n with
  | zero => rfl
  | succ n ih => show mu m (pw m 1 n) 1 = 1; rw [ih]; exact one_mu m (by decide)
theorem fld_255 {m x : Nat} (hf : Fld m) (hx : x < 256) (h0 : x ≠ 0) : pw m x 255 = 1 := by
  show mu m (pw m x 254) x = 1
  rw [mu_comm m (pw_lt hf.rst hx _) hx]; exact fld_pow hf hx h0
theorem fld_round {m x : Nat} (hf : Fld m) (hx : x < 256) (q : Nat) : pw m x (255 * q + 1) = x := by
  by_cases h0 : x = 0
  · subst h0; exact pw_zero m _
  · rw [pw_add hf.rst hx, pw_mul hf.rst hx, fld_255 hf hx h0, one_pw, pw_one m hx, one_mu m hx]
theorem inv_exp : ∀ k, k < 255 → k % 3 ≠ 0 → k % 5 ≠ 0 → k % 17 ≠ 0 → ∃ j, j < 255 ∧ k * j % 255 = 1 := by decide +kernel
theorem root : ∀ m ∈ [283, 361, 333, 285, 299], ∀ p ∈ [3, 5, 17], ∃ w : Nat, w < 256 ∧ w ≠ 1 ∧ pl2 m 8 w p 1 = 1 := by decide +kernel
theorem tabp_at {m k c x : Nat} (hm : Rst m) (hk : k < 256) (hx : x < 256) : (tabN m k one8 c).getD x 0 = c ^^^ pw m x k := by
  unfold tabN
  rw [List.getD_eq_getElem?_getD, List.getElem?_map, List.getElem?_range hx]
  show c ^^^ aff one8 (pl2 m 8 x k 1) 8 = _
  rw [pl2_eq hm 8 hx (by decide) hk, one_mu m (pw_lt hm hx k), aff_one _ (pw_lt hm hx k)]
theorem pow_yes {m k c : Nat} (hf : Fld m) (hk : k < 255) (hc : c < 256) (h3 : k % 3 ≠ 0) (h5 : k % 5 ≠ 0) (h17 : k % 17 ≠ 0) : isP (tabN m k one8 c) = true := by
  have hm := hf.rst
  have hl : (tabN m k one8 c).length = 256 := by simp [tabN]
  refine isP_of (by omega) fun v hv => ⟨fun _ => by omega, fun _ => ?_⟩
  obtain ⟨j, hj, ej⟩ := inv_exp k hk h3 h5 h17
  have hvc : v ^^^ c < 256 := Nat.xor_lt_two_pow (n := 8) hv hc
  have hx := pw_lt hm hvc j
  have e : pw m (pw m (v ^^^ c) j) k = v ^^^ c := by
    rw [← pw_mul hm hvc, Nat.mul_comm, show k * j = 255 * (k * j / 255) + 1 by omega]
    exact fld_round hf hvc _
  have h1 := tabp_at hm (by omega : k < 256) (c := c) hx
  have e' : c ^^^ (v ^^^ c) = v := by rw [Nat.xor_comm v c, ← Nat.xor_assoc, Nat.xor_self, Nat.zero_xor]
  rw [e, e'] at h1
  have h2 := getD_mem (l := tabN m k one8 c) (i := pw m (v ^^^ c) j) (by omega)
  rw [h1] at h2; exact h2
theorem pow_no {m k c p : Nat} (hf : Fld m) (hmem : m ∈ [283, 361, 333, 285, 299]) (hk : k < 255) (hp : p ∈ [3, 5, 17]) (h : k % p = 0) : isP (tabN m k one8 c) = false := by
  have hm := hf.rst
  have hl : (tabN m k one8 c).length = 256 := by simp [tabN]
  obtain ⟨w, hw, hw1, e⟩ := root m hmem p hp
  have hp' : p < 2 ^ 8 := by
    have : p = 3 ∨ p = 5 ∨ p = 17 := by simpa using hp
    rcases this with h | h | h <;> subst h <;> decide
  rw [pl2_eq hm 8 hw (by decide) hp', one_mu m (pw_lt hm hw p)] at e
  have e2 : pw m w k = 1 := by
    have : k = p * (k / p) := by have := Nat.div_add_mod k p; omega
    rw [this, pw_mul hm hw, e, one_pw]
  cases hb : isP (tabN m k one8 c)
  · rfl
  · exfalso
    have h1 := tabp_at hm (by omega : k < 256) (c := c) hw
    have h2 := tabp_at hm (by omega : k < 256) (c := c) (show 1 < 256 by decide)
    rw [e2] at h1
    rw [one_pw] at h2
    exact hw1 (isP_inj hb (by omega) (by omega) (h1.trans h2.symm))
theorem BoxPowers (a0 : Int) (a1 : Int) (a2 : Int) (h0 : In .i64 a0) (h1 : In .i64 a1) (h2 : In .u8 a2) : ∃ k, scrimlaw4_BoxPowers.f k a0 a1 a2 = some true := by
  obtain ⟨c, hc, rfl⟩ := u8_of h2
  obtain ⟨m, hf, hz⟩ := fmod_eq a1
  have hm := hf.rst
  obtain ⟨F, hF⟩ : ∃ k : Nat, 700 ≤ k := ⟨700, Nat.le_refl _⟩
  refine ⟨F, ?_⟩
  have hmem : m ∈ [283, 361, 333, 285, 299] := by rcases hf with h | h | h | h | h <;> simp [h]
  obtain ⟨r, hr, er⟩ : ∃ i : Nat, i < 254 ∧ a0 % 254 = i := ⟨(a0 % 254).toNat, by omega, by omega⟩
  have w := within4_eq (k := F) a0 254 (by decide) (by decide)
  rw [er] at w
  obtain ⟨k, ek⟩ : ∃ k, k = r + 1 := ⟨_, rfl⟩
  have s1 : I64 (1 + (r : Int)) = (k : Int) := by rw [I64_id (by omega) (by omega)]; omega
  have hk : k < 255 := by omega
  have ho : ∀ x ∈ one8, x < 256 := by decide
  have p1 := make_eq (k := F) (e := k) (c := c) (l := one8) hm (by omega) ho hc (by omega)
  rw [tab_eq hm (by omega)] at p1
  have q1 : box_Make.f F (k : Int) (m : Int) [1, 2, 4, 8, 16, 32, 64, 128] (c : Int) = some (il (tabN m k one8 c)) := p1
  have s2 := is_eq (l := tabN m k one8 c) (tab_lt hc) (k := F) (by omega)
  have t3 : Int.tmod (k : Int) 3 = ((k % 3 : Nat) : Int) := rfl
  have t5 : Int.tmod (k : Int) 5 = ((k % 5 : Nat) : Int) := rfl
  have t17 : Int.tmod (k : Int) 17 = ((k % 17 : Nat) : Int) := rfl
  unfold scrimlaw4_BoxPowers.f
  simp only [known4_eq (k := F) (by omega), Option.bind_some, Bool.not_true, Bool.false_eq_true, if_false, w, s1, hz, q1, s2, t3, t5, t17]
  by_cases h3 : k % 3 = 0
  · rw [pow_no hf hmem hk (p := 3) (by decide) h3, h3]; rfl
  · rw [if_pos (by rw [bne_iff_ne]; omega)]
    by_cases h5 : k % 5 = 0
    · rw [pow_no hf hmem hk (p := 5) (by decide) h5, h5]; rfl
    · rw [if_pos (by rw [bne_iff_ne]; omega)]
      by_cases h17 : k % 17 = 0
      · rw [pow_no hf hmem hk (p := 17) (by decide) h17, h17]; rfl
      · rw [pow_yes hf hk hc h3 h5 h17]
        have : (((k % 17 : Nat) : Int) != 0) = true := by rw [bne_iff_ne]; omega
        rw [this]; rfl
end Go.Scr.S
