/- The plain law of ArInv. -/
import Derived.Test.YtekkdjgcbkoepaaDoorXDeep3
import Derived.Test.YtekkdjgcbkoepaaDoorLibNum
import Derived.Test.YtekkdjgcbkoepaaDoorLibIl
set_option linter.unusedVariables false
set_option linter.unusedSimpArgs false
set_option linter.unnecessarySimpa false
namespace Go.Scr.S
/-- Sums over rows. -/
def xs (f : Nat → Nat) : List Nat → Nat | [] => 0 | j :: r => f j ^^^ xs f r
theorem xs_fold (f : Nat → Nat) : ∀ (L : List Nat) (v : Nat), L.foldl (fun v j => v ^^^ f j) v = v ^^^ xs f L
  | [], v => by simp [xs]
  | j :: r, v => by rw [List.foldl_cons, xs_fold f r, xs, Nat.xor_assoc]
theorem xs_app (f : Nat → Nat) : ∀ (A B : List Nat), xs f (A ++ B) = xs f A ^^^ xs f B
  | [], B => by simp [xs]
  | j :: r, B => by rw [List.cons_append, xs, xs, xs_app f r, Nat.xor_assoc]
theorem xs_perm (f : Nat → Nat) {A B : List Nat} (h : A.Perm B) : xs f A = xs f B := by
  induction h with
  | nil => rfl
  | cons x _ ih => rw [xs, xs, ih]
  | swap x y l => rw [xs, xs, xs, xs, ← Nat.xor_assoc, ← Nat.xor_assoc, Nat.xor_comm (f x)]
  | trans _ _ h1 h2 => rw [h1, h2]
theorem xs_flat (f : Nat → Nat) (R : Nat → List Nat) : ∀ L : List Nat, xs (fun j => xs f (R j)) L = xs f (L.flatMap R)
  | [] => rfl
  | j :: r => by rw [xs, xs_flat f R r, List.flatMap_cons, xs_app]
theorem xs_two (f : Nat → Nat) (i : Nat) (D : List Nat) {L : List Nat} (h : L.Perm (i :: (D ++ D))) : xs f L = f i := by
  rw [xs_perm f h, xs, xs_app, Nat.xor_self, Nat.xor_zero]
end Go.Scr.S
