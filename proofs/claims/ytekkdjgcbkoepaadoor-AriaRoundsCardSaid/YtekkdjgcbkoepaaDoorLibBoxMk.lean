/- The plain law of BoxMk. -/
import Derived.Test.YtekkdjgcbkoepaaDoorFnAriaRounds
import Derived.Test.YtekkdjgcbkoepaaDoorLibNum
import Derived.Test.YtekkdjgcbkoepaaDoorLibGf
import Derived.Test.YtekkdjgcbkoepaaDoorLibFieldPw0
import Derived.Test.YtekkdjgcbkoepaaDoorLibFill
import Derived.Test.YtekkdjgcbkoepaaDoorLibIl
import Derived.Test.YtekkdjgcbkoepaaDoorLibBoxAff
set_option linter.unusedVariables false
set_option linter.unusedSimpArgs false
set_option linter.unnecessarySimpa false
namespace Go.Scr.S
def mk (m e : Nat) (l : List Nat) (c x : Nat) : Int := ((c ^^^ aff l (pw m x e) 8 : Nat) : Int)
theorem make_l0 {m e c : Nat} {l : List Nat} (hm : Rst m) (he : e < 2 ^ 62) (hl : ∀ x ∈ l, x < 256) (hc : c < 256) (d : Nat) {k i : Nat} {x : List Int} (hk : d + 100 < k) (hi : i + d = 256) (hx : Fl (mk m e l c) 256 i x) :
    box_Make.l0 k (e : Int) (m : Int) (il l) (c : Int) x (i : Int) = some (fill 256 (mk m e l c)) := by
  induction d generalizing k i x with
  | zero =>
    obtain ⟨k, rfl⟩ : ∃ j, k = j + 1 := ⟨k - 1, by omega⟩
    have : i = 256 := by omega
    subst this
    simp only [box_Make.l0]
    rw [if_neg (by decide), hx.done]
  | succ d ih =>
    obtain ⟨k, rfl⟩ : ∃ j, k = j + 1 := ⟨k - 1, by omega⟩
    have e1 : U8 (i : Int) = (i : Int) := U8_id (by omega) (by omega)
    have e5 : I64 ((i : Int) + 1) = ((i + 1 : Nat) : Int) := by rw [I64_id (by omega) (by omega)]; simp
    have c1 : decide ((i : Int) < 256) = true := by rw [decide_eq_true_eq]; omega
    have c2 : decide (0 ≤ (i : Int)) = true := by rw [decide_eq_true_eq]; omega
    have f1 := fp_eq hm (k := k) (a := i) (n := e) (by omega) (by omega) he
    have f2 := baff_eq hl (pw_lt hm (by omega : i < 256) e) hc (k := k) (by omega)
    simp only [box_Make.l0, c1, c2, if_true, e1, f1, f2, Option.bind_some, e5, Int.toNat_natCast]
    exact ih (by omega) (by omega) (hx.set (by omega) rfl)
theorem make_eq {m e c k : Nat} {l : List Nat} (hm : Rst m) (he : e < 2 ^ 62) (hl : ∀ x ∈ l, x < 256) (hc : c < 256) (hk : 400 ≤ k) : box_Make.f k (e : Int) (m : Int) (il l) (c : Int) = some (fill 256 (mk m e l c)) :=
  make_l0 hm he hl hc 256 (i := 0) (by omega) (by omega) (Fl.zero (by rw [List.length_replicate]))
end Go.Scr.S
