/- The plain law of IdeaKeys. -/
import Derived.Test.YtdagooiakgnecaaFnIdeaRounds
import Derived.Test.YtdagooiakgnecaaLibNum
import Derived.Test.YtdagooiakgnecaaLibIl
import Derived.Test.YtdagooiakgnecaaLibFill
import Derived.Test.YtdagooiakgnecaaLibGIl
import Derived.Test.YtdagooiakgnecaaLibGTurn
import Derived.Test.YtdagooiakgnecaaLibGBits
set_option linter.unusedVariables false
set_option linter.unusedSimpArgs false
set_option linter.unnecessarySimpa false
namespace Go.Scr.S
def gi (x : List Int) (i : Int) : Int := bor .i64 (shl .i64 (I64 (rd x i)) 8) (I64 (rd x (I64 (i + 1))))
def row (x : List Int) : List Int := [gi x 0, gi x 2, gi x 4, gi x 6, gi x 8, gi x 10, gi x 12, gi x 14]
def pairs (m : List Nat) : List Nat := (List.range 8).map fun j => m.getD (2 * j) 0 * 256 + m.getD (2 * j + 1) 0
theorem pairs_length (m : List Nat) : (pairs m).length = 8 := by simp [pairs]
theorem gi_nat {a b : Nat} (ha : a < 256) (hb : b < 256) : bor .i64 (shl .i64 (I64 (a : Int)) 8) (I64 (b : Int)) = ((a * 256 + b : Nat) : Int) := by
  rw [I64_nat (by omega), I64_nat (by omega), shli (by rw [Nat.shiftLeft_eq]; omega), bo_of (by rw [Nat.shiftLeft_eq]; simp [IntKind.bits]; omega) (by simp [IntKind.bits]; omega)]
  rw [← Nat.shiftLeft_add_eq_or_of_lt (by omega : b < 2 ^ 8), Nat.shiftLeft_eq]
  exact I64_nat (by omega)
theorem row_il {m : List Nat} (hm : ∀ x ∈ m, x < 256) : row (il m) = il (pairs m) := by
  have e : ∀ i : Nat, i < 16 → gi (il m) (i : Int) = ((m.getD i 0 * 256 + m.getD (i + 1) 0 : Nat) : Int) := by
    intro i hi
    unfold gi
    have : I64 ((i : Int) + 1) = ((i + 1 : Nat) : Int) := I64_nat (n := i + 1) (by omega)
    rw [this, il_rd', il_rd']
    exact gi_nat (getD_lt hm _) (getD_lt hm _)
  have := e 0 (by decide); have := e 2 (by decide); have := e 4 (by decide); have := e 6 (by decide); have := e 8 (by decide); have := e 10 (by decide); have := e 12 (by decide); have := e 14 (by decide)
  simp only [Int.cast_ofNat_Int, Nat.zero_add, Nat.reduceAdd] at *
  unfold row
  simp only [*]
  rfl
theorem load16 {x : List Int} (h : x.length = 16) {k : Nat} (hk : 20 ≤ k) : idea_load.f k x = some (row x) := by
  obtain ⟨j, rfl⟩ : ∃ j, k = j + 20 := ⟨k - 20, by omega⟩
  match x, h with
  | [x0, x1, x2, x3, x4, x5, x6, x7, x8, x9, x10, x11, x12, x13, x14, x15], _ => exact Eq.trans (by kernel_rfl) (Eq.refl (some (row _)))
/-- The rows of a key. -/
def kR (m : List Nat) (i : Nat) : List Nat := pairs (turnN m (25 * (i : Int)))
def kA (m : List Nat) : Nat → List Nat
  | 0 => []
  | i + 1 => kA m i ++ kR m i
theorem kA_length (m : List Nat) (i : Nat) : (kA m i).length = 8 * i := by
  induction i with
  | zero => rfl
  | succ i ih => simp [kA, ih, kR, pairs_length]; omega
theorem il_append (a b : List Nat) : il (a ++ b) = il a ++ il b := by simp [il]
theorem il_take (a : List Nat) (n : Nat) : (il a).take n = il (a.take n) := by simp [il, List.map_take]
theorem clone_eq {l : List Int} {k : Nat} (h : l.length ≤ 1000000000) : slices_Clone_int_int.f k l = some l := by
  unfold slices_Clone_int_int.f
  rw [if_pos (by rw [decide_eq_true_eq]; simp; omega)]; simp
theorem keys7_l0 {m : List Nat} (hm : ∀ x ∈ m, x < 256) (hl : m.length = 16) (d : Nat) {k i : Nat} (hk : d + 50 < k) (hi : i + d = 7) :
    idea_Keys.l0 k (il m) (il (kA m i)) ((25 * i : Nat) : Int) = some (il ((kA m 7).take 52), 0) := by
  induction d generalizing k i with
  | zero =>
    obtain ⟨k, rfl⟩ : ∃ j, k = j + 1 := ⟨k - 1, by omega⟩
    have : i = 7 := by omega
    subst this
    simp only [idea_Keys.l0]
    rw [if_neg (by rw [decide_eq_true_eq, il_length, kA_length]; omega), if_pos (by decide), if_pos (by rw [decide_eq_true_eq, il_length, kA_length]; omega)]
    have e : List.drop (0 : Int).toNat (List.take (52 : Int).toNat (il (kA m 7))) = il ((kA m 7).take 52) := by
      rw [show (0 : Int).toNat = 0 from rfl, show (52 : Int).toNat = 52 from rfl, List.drop_zero, il_take]
    rw [e, clone_eq (by rw [il_length, List.length_take]; omega)]
    rfl
  | succ d ih =>
    obtain ⟨k, rfl⟩ : ∃ j, k = j + 1 := ⟨k - 1, by omega⟩
    simp only [idea_Keys.l0]
    have e1 := turn_eq (k := k) hm (by omega) (by omega) (25 * (i : Int))
    have e2 := load16 (x := il (turnN m (25 * (i : Int)))) (k := k) (by rw [il_length, turnN_length, hl]) (by omega)
    rw [row_il (turnN_lt hm _)] at e2
    have e3 : ((25 * i : Nat) : Int) = 25 * (i : Int) := by omega
    have e4 : I64 (25 * (i : Int) + 25) = ((25 * (i + 1) : Nat) : Int) := by
      rw [show 25 * (i : Int) + 25 = ((25 * (i + 1) : Nat) : Int) by omega, I64_nat (by omega)]
    rw [if_pos (by rw [decide_eq_true_eq, il_length, kA_length]; omega), e3, e1, Option.bind_some, e2, Option.bind_some, if_pos (by rw [decide_eq_true_eq, il_length, il_length, kA_length, pairs_length]; omega), e4]
    have := ih (k := k) (i := i + 1) (by omega) (by omega)
    rw [← this, ← il_append]; rfl
theorem keys7_eq {m : List Nat} (hm : ∀ x ∈ m, x < 256) (hl : m.length = 16) {k : Nat} (hk : 60 ≤ k) : idea_Keys.f k (il m) = some (il ((kA m 7).take 52), 0) := by
  unfold idea_Keys.f
  rw [if_neg (by rw [il_length, hl]; decide)]
  exact keys7_l0 hm hl 7 (i := 0) (by omega) (by omega)
theorem kA_take (m : List Nat) : (kA m 7).take 52 = kA m 6 ++ (kR m 6).take 4 := by
  show (kA m 6 ++ kR m 6).take 52 = _
  rw [List.take_append, kA_length, List.take_of_length_le (by rw [kA_length]; omega)]
end Go.Scr.S
