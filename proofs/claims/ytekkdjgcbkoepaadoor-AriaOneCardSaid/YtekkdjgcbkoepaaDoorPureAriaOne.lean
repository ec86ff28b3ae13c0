/- The plain law of AriaOne. -/
import Derived.Test.YtekkdjgcbkoepaaDoorFnAriaOne
import Derived.Test.YtekkdjgcbkoepaaDoorLibNum
import Derived.Test.YtekkdjgcbkoepaaDoorLibGf
import Derived.Test.YtekkdjgcbkoepaaDoorLibFieldPw0
import Derived.Test.YtekkdjgcbkoepaaDoorLibFill
import Derived.Test.YtekkdjgcbkoepaaDoorLibIl
import Derived.Test.YtekkdjgcbkoepaaDoorLibBoxAff
import Derived.Test.YtekkdjgcbkoepaaDoorLibBoxMk
import Derived.Test.YtekkdjgcbkoepaaDoorLibBoxIsL
import Derived.Test.YtekkdjgcbkoepaaDoorLibPigeon
import Derived.Test.YtekkdjgcbkoepaaDoorLibBoxBackL
import Derived.Test.YtekkdjgcbkoepaaDoorLibArLit
import Derived.Test.YtekkdjgcbkoepaaDoorLibArMade
import Derived.Test.YtekkdjgcbkoepaaDoorLibArKeys0
import Derived.Test.YtekkdjgcbkoepaaDoorLibArBlk0
import Derived.Test.YtekkdjgcbkoepaaDoorLibArK
import Derived.Test.YtekkdjgcbkoepaaDoorLibArMix
import Derived.Test.YtekkdjgcbkoepaaDoorLibArW
set_option linter.unusedVariables false
set_option linter.unusedSimpArgs false
set_option linter.unnecessarySimpa false
namespace Go.Scr.S
def flags (j : Nat) : List Bool := rows10.map fun row => row.foldl (fun b i => xor b (i == j)) false
def g1 (a : Nat) (b : Bool) : Nat := if b then a else 0
theorem fold_one (a j : Nat) : ∀ (row : List Nat) (b : Bool), row.foldl (fun v i => v ^^^ (if i = j then a else 0)) (g1 a b) = g1 a (row.foldl (fun b i => xor b (i == j)) b)
  | [], _ => rfl
  | i :: r, b => by
    have e : g1 a b ^^^ (if i = j then a else 0) = g1 a (xor b (i == j)) := by
      by_cases h : i = j
      · subst h; cases b <;> simp [g1]
      · have : (i == j) = false := by simp [h]
        rw [if_neg h, this]; cases b <;> simp [g1]
    rw [List.foldl_cons, List.foldl_cons, e]; exact fold_one a j r _
theorem unit_at (a j i : Nat) (hj : j < 16) : ((List.replicate 16 0).set j a).getD i 0 = if i = j then a else 0 := by
  rw [List.getD_eq_getElem?_getD, List.getElem?_set, List.length_replicate]
  by_cases h : j = i
  · subst h; rw [if_pos rfl, if_pos hj, if_pos rfl]; rfl
  · rw [if_neg h, if_neg (fun e => h e.symm), List.getElem?_replicate]
    by_cases h2 : i < 16 <;> simp [h2]
theorem mix_unit (a j : Nat) (hj : j < 16) : mixN ((List.replicate 16 0).set j a) = (flags j).map (g1 a) := by
  unfold mixN mixF flags
  rw [List.map_map]
  refine List.map_congr_left fun row _ => ?_
  have : (fun (v i : Nat) => v ^^^ ((List.replicate 16 0).set j a).getD i 0) = fun v i => v ^^^ (if i = j then a else 0) := by
    funext v i; rw [unit_at a j i hj]
  rw [this]; exact fold_one a j row false
def cn : List Bool → Nat | [] => 0 | b :: r => (if b then 1 else 0) + cn r
theorem flags_cn : ∀ j, j < 16 → cn (flags j) = 7 ∧ (flags j).length = 16 := by decide
theorem one_l0 {a : Nat} (F : List Bool) (hF : F.length = 16) (d : Nat) {k i c : Nat} (hk : d < k) (hi : i + d = 16) (hc : c + cn (F.drop i) = 7) (hc2 : c ≤ i) :
    scrimlaw10_AriaOne.l0 k (a : Int) (il (F.map (g1 a)), true) (if a = 0 then (0 : Int) else (c : Int)) (i : Int) = some true := by
  have hl : ((il (F.map (g1 a))).length : Int) = 16 := by rw [il_length, List.length_map, hF]; rfl
  induction d generalizing k i c with
  | zero =>
    obtain ⟨k, rfl⟩ : ∃ j, k = j + 1 := ⟨k - 1, by omega⟩
    have : F.drop i = [] := List.drop_of_length_le (by omega)
    rw [this] at hc
    have c7 : c = 7 := by simpa [cn] using hc
    rw [scrimlaw10_AriaOne.l0]
    show (if decide ((i : Int) < ((il (F.map (g1 a))).length : Int)) = true then _ else if true = true then if (((il (F.map (g1 a))).length : Int) == 16) = true then _ else some false else some false) = some true
    rw [hl, if_neg (by rw [decide_eq_true_eq]; omega), if_pos rfl, if_pos (by decide)]
    by_cases h0 : a = 0
    · subst h0; rfl
    · rw [if_neg (by rw [beq_iff_eq]; omega), if_neg h0, c7]; rfl
  | succ d ih =>
    obtain ⟨k, rfl⟩ : ∃ j, k = j + 1 := ⟨k - 1, by omega⟩
    have a2 : I64 ((i : Int) + 1) = ((i + 1 : Nat) : Int) := I64_nat (n := i + 1) (by omega)
    have hif : i < F.length := by omega
    have c0 : decide (0 ≤ (i : Int)) = true := by rw [decide_eq_true_eq]; omega
    have c1 : decide ((i : Int) < 16) = true := by rw [decide_eq_true_eq]; omega
    have r : rd (il (F.map (g1 a))) (i : Int) = ((g1 a F[i] : Nat) : Int) := by
      rw [il_rd', List.getD_eq_getElem?_getD, List.getElem?_map, List.getElem?_eq_getElem hif]; rfl
    rw [List.drop_eq_getElem_cons hif] at hc
    rw [scrimlaw10_AriaOne.l0]
    show (if decide ((i : Int) < ((il (F.map (g1 a))).length : Int)) = true then if decide (0 ≤ (i : Int)) = true then if decide ((i : Int) < ((il (F.map (g1 a))).length : Int)) = true then _ else none else none else _) = some true
    rw [hl, if_pos c1, if_pos c0, if_pos c1]
    show (if (rd (il (F.map (g1 a))) (i : Int) == (a : Int)) = true then if ((a : Int) != 0) = true then _ else if decide (0 ≤ (i : Int)) = true then if decide ((i : Int) < 16) = true then if (rd (il (F.map (g1 a))) (i : Int) != 0) = true then _ else _ else none else none else if decide (0 ≤ (i : Int)) = true then if decide ((i : Int) < 16) = true then if (rd (il (F.map (g1 a))) (i : Int) != 0) = true then _ else _ else none else none) = some true
    rw [r]
    by_cases h0 : a = 0
    · subst h0
      have e0 : g1 0 F[i] = 0 := by cases F[i] <;> rfl
      have := ih (k := k) (i := i + 1) (c := (if F[i] then 1 else 0) + c) (by omega) (by omega) (by simp only [cn] at hc; omega) (by split <;> omega)
      rw [e0, if_pos rfl, if_pos (by decide), if_neg (by decide), if_pos c0, if_pos c1, if_neg (by decide), a2]
      exact this
    · cases hb : F[i] with
      | true =>
        rw [hb] at hc
        have := ih (k := k) (i := i + 1) (c := c + 1) (by omega) (by omega) (by simp only [cn, if_true] at hc; omega) (by omega)
        have ec : I64 ((c : Int) + 1) = ((c + 1 : Nat) : Int) := I64_nat (n := c + 1) (by omega)
        rw [show g1 a true = a from rfl, if_pos (beq_self_eq_true _), if_pos (by rw [bne_iff_ne]; omega), if_neg h0, ec, a2]
        rw [if_neg h0] at this
        exact this
      | false =>
        rw [hb] at hc
        have := ih (k := k) (i := i + 1) (c := c) (by omega) (by omega) (by simp only [cn] at hc; simpa using hc) (by omega)
        rw [show g1 a false = 0 from rfl, if_neg (by rw [beq_iff_eq]; omega), if_pos c0, if_pos c1, if_neg (by decide), a2]
        exact this
theorem AriaOne (a0 : Int) (a1 : Int) (h0 : In .i64 a0) (h1 : In .u8 a1) : ∃ k, scrimlaw10_AriaOne.f k a0 a1 = some true := by
  obtain ⟨a, ha, rfl⟩ := u8_of h1
  obtain ⟨j, hj, ej⟩ : ∃ i : Nat, i < 16 ∧ a0 % 16 = i := ⟨(a0 % 16).toNat, by omega, by omega⟩
  obtain ⟨k, hk⟩ : ∃ k : Nat, 900 ≤ k := ⟨900, Nat.le_refl _⟩
  refine ⟨k, ?_⟩
  have w1 := within10_eq (k := k) a0 16 (by decide) (by decide)
  rw [ej] at w1
  have hu : ∀ x ∈ (List.replicate 16 0).set j a, x < 256 := by
    intro x hx
    rcases List.mem_or_eq_of_mem_set hx with hx | rfl
    · rw [List.eq_of_mem_replicate hx]; decide
    · exact ha
  have m := mix_eq (m := (List.replicate 16 0).set j a) (by rw [List.length_set, List.length_replicate]) hu (k := k) (by omega)
  rw [mix_unit a j hj] at m
  obtain ⟨f1, f2⟩ := flags_cn j hj
  have main := one_l0 (a := a) (flags j) f2 16 (k := k) (i := 0) (c := 0) (by omega) (by omega) (by simpa using f1) (by omega)
  have z : (if a = 0 then (0 : Int) else ((0 : Nat) : Int)) = 0 := by split <;> rfl
  rw [z] at main
  unfold scrimlaw10_AriaOne.f
  rw [known10_eq (by omega), Option.bind_some, if_neg (by decide), w1, Option.bind_some, if_pos (by rw [decide_eq_true_eq]; omega), if_pos (by rw [decide_eq_true_eq]; omega), Int.toNat_natCast, il_replicate, il_set, m, Option.bind_some]
  exact main
end Go.Scr.S
