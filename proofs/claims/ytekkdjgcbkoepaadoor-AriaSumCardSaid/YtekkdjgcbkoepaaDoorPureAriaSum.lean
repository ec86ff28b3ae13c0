/- The plain law of AriaSum. -/
import Derived.Test.YtekkdjgcbkoepaaDoorFnAriaSum
import Derived.Test.YtekkdjgcbkoepaaDoorLibNum
import Derived.Test.YtekkdjgcbkoepaaDoorLibGf
import Derived.Test.YtekkdjgcbkoepaaDoorLibFieldPw0
import Derived.Test.YtekkdjgcbkoepaaDoorLibFill
import Derived.Test.YtekkdjgcbkoepaaDoorLibIl
import Derived.Test.YtekkdjgcbkoepaaDoorLibGIl
import Derived.Test.YtekkdjgcbkoepaaDoorLibBoxAff
import Derived.Test.YtekkdjgcbkoepaaDoorLibBoxMk
import Derived.Test.YtekkdjgcbkoepaaDoorLibBoxIsL
import Derived.Test.YtekkdjgcbkoepaaDoorLibPigeon
import Derived.Test.YtekkdjgcbkoepaaDoorLibBoxBackL
import Derived.Test.YtekkdjgcbkoepaaDoorLibArLit
import Derived.Test.YtekkdjgcbkoepaaDoorLibArMade
import Derived.Test.YtekkdjgcbkoepaaDoorLibArKeys0
import Derived.Test.YtekkdjgcbkoepaaDoorLibArBlk0
import Derived.Test.YtekkdjgcbkoepaaDoorLibArK
import Derived.Test.YtekkdjgcbkoepaaDoorLibArMix
import Derived.Test.YtekkdjgcbkoepaaDoorLibAriaBytes
set_option linter.unusedVariables false
set_option linter.unusedSimpArgs false
set_option linter.unnecessarySimpa false
namespace Go.Scr.S
def xorN (a b : List Nat) : List Nat := (List.range 16).map fun i => a.getD i 0 ^^^ b.getD i 0
theorem xorN_at (a b : List Nat) {i : Nat} (h : i < 16) : (xorN a b).getD i 0 = a.getD i 0 ^^^ b.getD i 0 := by
  unfold xorN
  rw [List.getD_eq_getElem?_getD, List.getElem?_map, List.getElem?_range h]; rfl
theorem xorN_lt {a b : List Nat} (ha : ∀ x ∈ a, x < 256) (hb : ∀ x ∈ b, x < 256) : ∀ x ∈ xorN a b, x < 256 := by
  intro x hx
  unfold xorN at hx
  obtain ⟨i, _, rfl⟩ := List.mem_map.1 hx
  exact Nat.xor_lt_two_pow (n := 8) (getD_lt ha i) (getD_lt hb i)
theorem mix_congr {f g : Nat → Nat} (h : ∀ j, j < 16 → f j = g j) : mixF f = mixF g := by
  unfold mixF
  refine List.map_congr_left fun row hr => ?_
  have hb : ∀ row ∈ rows10, ∀ j ∈ row, j < 16 := by decide
  have : ∀ (r : List Nat) (v : Nat), (∀ j ∈ r, j < 16) → r.foldl (fun v j => v ^^^ f j) v = r.foldl (fun v j => v ^^^ g j) v := by
    intro r
    induction r with
    | nil => intro v _; rfl
    | cons j r ih => intro v hj; rw [List.foldl_cons, List.foldl_cons, h j (hj j (by simp))]; exact ih _ fun x hx => hj x (by simp [hx])
  exact this row 0 (hb row hr)
theorem mixN_xor (a b : List Nat) (i : Nat) : (mixN (xorN a b)).getD i 0 = (mixN a).getD i 0 ^^^ (mixN b).getD i 0 := by
  have : mixN (xorN a b) = mixF fun j => a.getD j 0 ^^^ b.getD j 0 := mix_congr fun j hj => xorN_at a b hj
  rw [this]; exact mixF_xor _ _ i
theorem sum_l1 {A B C : List Nat} (hA : A.length = 16) (hB : B.length = 16) (hC : C.length = 16) (bA : ∀ x ∈ A, x < 256) (bB : ∀ x ∈ B, x < 256) (h : ∀ i, C.getD i 0 = A.getD i 0 ^^^ B.getD i 0) (d : Nat) {k i : Nat} (hk : d < k) (hi : i + d = 16) :
    scrimlaw10_AriaSum.l1 k (il A, true) (il B, true) (il C, true) (i : Int) = some true := by
  induction d generalizing k i with
  | zero =>
    obtain ⟨k, rfl⟩ : ∃ j, k = j + 1 := ⟨k - 1, by omega⟩
    rw [scrimlaw10_AriaSum.l1, if_neg (by rw [decide_eq_true_eq]; omega)]
  | succ d ih =>
    obtain ⟨k, rfl⟩ : ∃ j, k = j + 1 := ⟨k - 1, by omega⟩
    have a2 : I64 ((i : Int) + 1) = ((i + 1 : Nat) : Int) := I64_nat (n := i + 1) (by omega)
    have c0 : decide (0 ≤ (i : Int)) = true := by rw [decide_eq_true_eq]; omega
    have lA : decide ((i : Int) < ((il A).length : Int)) = true := by rw [decide_eq_true_eq, il_length, hA]; omega
    have lB : decide ((i : Int) < ((il B).length : Int)) = true := by rw [decide_eq_true_eq, il_length, hB]; omega
    have lC : decide ((i : Int) < ((il C).length : Int)) = true := by rw [decide_eq_true_eq, il_length, hC]; omega
    have e : ((rd (il C) (i : Int) != bxor .u8 (rd (il A) (i : Int)) (rd (il B) (i : Int))) : Bool) = false := by
      rw [il_rd', il_rd', il_rd', bx8 (getD_lt bA i) (getD_lt bB i), h i]; simp
    rw [scrimlaw10_AriaSum.l1, if_pos (by rw [decide_eq_true_eq]; omega), if_pos c0, if_pos lC, if_pos c0, if_pos lA, if_pos c0, if_pos lB, e, Option.bind_some, if_neg (by decide), a2]
    exact ih (by omega) (by omega)
theorem sum_l0 {a b : List Nat} (ha : a.length = 16) (hb : b.length = 16) (ba : ∀ x ∈ a, x < 256) (bb : ∀ x ∈ b, x < 256) (d : Nat) {k i : Nat} {x : List Int} (hk : d + 400 < k) (hi : i + d = 16) (hx : Fl (fun i => (((a.getD i 0 ^^^ b.getD i 0 : Nat)) : Int)) 16 i x) :
    scrimlaw10_AriaSum.l0 k (il b) (il a) x (i : Int) = some true := by
  induction d generalizing k i x with
  | zero =>
    obtain ⟨k, rfl⟩ : ∃ j, k = j + 1 := ⟨k - 1, by omega⟩
    have : i = 16 := by omega
    subst this
    have ex : x = il (xorN a b) := by unfold xorN; rw [il_range]; exact hx.done
    have lx : (xorN a b).length = 16 := by unfold xorN; simp
    have m1 := mix_eq ha ba (k := k) (by omega)
    have m2 := mix_eq hb bb (k := k) (by omega)
    have m3 := mix_eq lx (xorN_lt ba bb) (k := k) (by omega)
    have l16 : ∀ m : List Nat, ((((il (mixN m)).length : Nat) : Int) != 16) = false := fun m => by rw [il_length, mixN_length]; rfl
    rw [scrimlaw10_AriaSum.l0, if_neg (by decide), m1, Option.bind_some, m2, Option.bind_some, ex, m3, Option.bind_some]
    show (if (((il (mixN a)).length : Int) != 16) = true then some false else if (((il (mixN b)).length : Int) != 16) = true then some false else if (((il (mixN (xorN a b))).length : Int) != 16) = true then some false else _) = some true
    rw [l16, l16, l16, if_neg (by decide), if_neg (by decide), if_neg (by decide)]
    exact sum_l1 (mixN_length _) (mixN_length _) (mixN_length _) (mixN_lt ba) (mixN_lt bb) (mixN_xor a b) 16 (i := 0) (by omega) (by omega)
  | succ d ih =>
    obtain ⟨k, rfl⟩ : ∃ j, k = j + 1 := ⟨k - 1, by omega⟩
    have a2 : I64 ((i : Int) + 1) = ((i + 1 : Nat) : Int) := I64_nat (n := i + 1) (by omega)
    have c0 : decide (0 ≤ (i : Int)) = true := by rw [decide_eq_true_eq]; omega
    have lA : decide ((i : Int) < ((il a).length : Int)) = true := by rw [decide_eq_true_eq, il_length, ha]; omega
    have lB : decide ((i : Int) < ((il b).length : Int)) = true := by rw [decide_eq_true_eq, il_length, hb]; omega
    have c3 : decide ((i : Int) < 16) = true := by rw [decide_eq_true_eq]; omega
    rw [scrimlaw10_AriaSum.l0, if_pos c3, if_pos c0, if_pos lA, if_pos c0, if_pos lB, if_pos c0, if_pos c3, il_rd', il_rd', bx8 (getD_lt ba i) (getD_lt bb i), Int.toNat_natCast, a2]
    exact ih (by omega) (by omega) (hx.set (by omega) rfl)
theorem AriaSum (a0 : List Int) (a1 : List Int) (h0 : a0.length ≤ maxLen) (h1 : ∀ x ∈ a0, In .u8 x) (h2 : a1.length ≤ maxLen) (h3 : ∀ x ∈ a1, In .u8 x) : ∃ k, scrimlaw10_AriaSum.f k a0 a1 = some true := by
  obtain ⟨l0, rfl, hl0⟩ := il_of h1
  obtain ⟨l1, rfl, hl1⟩ := il_of h3
  obtain ⟨k, hk⟩ : ∃ k : Nat, 900 ≤ k := ⟨900, Nat.le_refl _⟩
  refine ⟨k, ?_⟩
  obtain ⟨m, b1, hm, hmb⟩ := bytes10_eq (n := 16) (by decide) hl0 (k := k) (by omega)
  obtain ⟨n, b2, hn, hnb⟩ := bytes10_eq (n := 16) (by decide) hl1 (k := k) (by omega)
  simp only [Int.cast_ofNat_Int] at b1 b2
  unfold scrimlaw10_AriaSum.f
  rw [known10_eq (by omega), Option.bind_some, if_neg (by decide), b1, Option.bind_some, b2, Option.bind_some]
  exact sum_l0 hm hn hmb hnb 16 (i := 0) (by omega) (by omega) (Fl.zero (by rw [List.length_replicate]))
end Go.Scr.S
