/- The plain law of AriaRounds. -/
import Derived.Test.YtekkdjgcbkoepaaDoorFnAriaRounds
import Derived.Test.YtekkdjgcbkoepaaDoorLibNum
import Derived.Test.YtekkdjgcbkoepaaDoorLibGf
import Derived.Test.YtekkdjgcbkoepaaDoorLibFieldPw0
import Derived.Test.YtekkdjgcbkoepaaDoorLibFill
import Derived.Test.YtekkdjgcbkoepaaDoorLibIl
import Derived.Test.YtekkdjgcbkoepaaDoorLibGIl
import Derived.Test.YtekkdjgcbkoepaaDoorLibGXor
import Derived.Test.YtekkdjgcbkoepaaDoorLibGRest
import Derived.Test.YtekkdjgcbkoepaaDoorLibGTurn
import Derived.Test.YtekkdjgcbkoepaaDoorLibBoxAff
import Derived.Test.YtekkdjgcbkoepaaDoorLibBoxMk
import Derived.Test.YtekkdjgcbkoepaaDoorLibBoxIsL
import Derived.Test.YtekkdjgcbkoepaaDoorLibPigeon
import Derived.Test.YtekkdjgcbkoepaaDoorLibBoxBackL
import Derived.Test.YtekkdjgcbkoepaaDoorLibArLit
import Derived.Test.YtekkdjgcbkoepaaDoorLibArMade
import Derived.Test.YtekkdjgcbkoepaaDoorLibArKeys0
import Derived.Test.YtekkdjgcbkoepaaDoorLibArBlk0
import Derived.Test.YtekkdjgcbkoepaaDoorLibArK
import Derived.Test.YtekkdjgcbkoepaaDoorLibArMix
import Derived.Test.YtekkdjgcbkoepaaDoorLibArLay
import Derived.Test.YtekkdjgcbkoepaaDoorLibArBoth
import Derived.Test.YtekkdjgcbkoepaaDoorLibArKA
import Derived.Test.YtekkdjgcbkoepaaDoorLibAriaBytes
import Derived.Test.YtekkdjgcbkoepaaDoorLibArW
import Derived.Test.YtekkdjgcbkoepaaDoorLibArKey
set_option linter.unusedVariables false
set_option linter.unusedSimpArgs false
set_option linter.unnecessarySimpa false
namespace Go.Scr.S
theorem ks_row {w0 w1 w2 w3 : List Nat} {n i : Nat} (h : i < n) : rdr ([] : List Int) (ks w0 w1 w2 w3 n) (i : Int) = il (kk w0 w1 w2 w3 i) := by
  unfold rdr ks
  rw [Int.toNat_natCast, List.getD_eq_getElem?_getD, List.getElem?_map, List.getElem?_range h]; rfl
theorem n_i (i : Nat) : I64 (1 + Int.tmod (i : Int) 2) = ((1 + i % 2 : Nat) : Int) := by
  have t : Int.tmod (i : Int) 2 = ((i % 2 : Nat) : Int) := rfl
  rw [t, I64_id (by omega) (by omega)]; omega
theorem hs_i (i : Nat) : I64 (2 * (I64 (((1 + i % 2 : Nat) : Int) - 1))) = ((2 * (i % 2) : Nat) : Int) := by
  have : I64 (((1 + i % 2 : Nat) : Int) - 1) = ((i % 2 : Nat) : Int) := by rw [I64_id (by omega) (by omega)]; omega
  rw [this]; exact I64_nat (n := 2 * (i % 2)) (by omega)
/-- The rounds. -/
def rr (K : Nat → List Nat) : Nat → Nat → List Nat → List Nat
  | 0, _, x => x
  | d + 1, i, x => rr K d (i + 1) (rd10 (2 * (i % 2)) x (K i))
theorem rr_ok (K : Nat → List Nat) : ∀ d i x, Ok16 x → Ok16 (rr K d i x)
  | 0, _, _, h => h
  | d + 1, i, _, _ => rr_ok K d (i + 1) _ (rd10_ok _ _ _)
def fin10 (K : Nat → List Nat) (n : Nat) (y : List Nat) : List Nat := xorN (layN 2 (xorN y (K (n - 2)))) (K (n - 1))
variable {w0 w1 w2 w3 : List Nat}
theorem blk_l3 (h0 : Ok16 w0) (h1 : Ok16 w1) (h2 : Ok16 w2) (h3 : Ok16 w3) {n : Nat} (hn : n < 100) (hn2 : 2 ≤ n) (d : Nat) {k i : Nat} {x : List Nat} (hx : Ok16 x) (hk : d + 400 < k) (hi : i + d = n - 2) :
    aria_Aria_Block.l3 k (tabs, ks w0 w1 w2 w3 n) (il x) (i : Int) = some (il (fin10 (kk w0 w1 w2 w3) n (rr (kk w0 w1 w2 w3) d i x)), 0) := by
  have ll := ks_length w0 w1 w2 w3 n
  have g1 : I64 (((ks w0 w1 w2 w3 n).length : Int) - 1) = ((n - 1 : Nat) : Int) := by rw [ll, I64_id (by omega) (by omega)]; omega
  have g2 : I64 (((n - 1 : Nat) : Int) - 1) = ((n - 2 : Nat) : Int) := by rw [I64_id (by omega) (by omega)]; omega
  have ok := kk_ok h0 h1 h2 h3
  have c0 : ∀ z : Nat, decide (0 ≤ (z : Int)) = true := fun z => by rw [decide_eq_true_eq]; omega
  have c1 : ∀ z : Nat, z < n → decide ((z : Int) < ((ks w0 w1 w2 w3 n).length : Int)) = true := fun z hz => by rw [decide_eq_true_eq, ll]; omega
  induction d generalizing k i x with
  | zero =>
    obtain ⟨k, rfl⟩ : ∃ j, k = j + 1 := ⟨k - 1, by omega⟩
    have e : i = n - 2 := by omega
    subst e
    have X1 := xor16 hx.1 (ok (n - 2)).1 hx.2 (ok (n - 2)).2 (k := k) (by omega)
    have o1 := hx.xor (ok (n - 2))
    have L := lay_eq o1.1 o1.2 s2 (by decide) (k := k) (by omega)
    have oL : Ok16 (layN 2 (xorN x (kk w0 w1 w2 w3 (n - 2)))) := ⟨layN_length _ _, layN_lt _ _⟩
    have X2 := xor16 oL.1 (ok (n - 1)).1 oL.2 (ok (n - 1)).2 (k := k) (by omega)
    rw [aria_Aria_Block.l3]
    show (some (decide (((n - 2 : Nat) : Int) < I64 (I64 (((ks w0 w1 w2 w3 n).length : Int) - 1) - 1)))).bind (fun y70 => if y70 = true then _ else if decide (0 ≤ ((n - 2 : Nat) : Int)) = true then if decide (((n - 2 : Nat) : Int) < ((ks w0 w1 w2 w3 n).length : Int)) = true then (words_Xor.f k (il x) (rdr ([] : List Int) (ks w0 w1 w2 w3 n) ((n - 2 : Nat) : Int))).bind (fun t87 => if decide (0 ≤ I64 (((ks w0 w1 w2 w3 n).length : Int) - 1)) = true then if decide (I64 (((ks w0 w1 w2 w3 n).length : Int) - 1) < ((ks w0 w1 w2 w3 n).length : Int)) = true then (aria_boxes_layer.f k tabs 2 t87.1).bind (fun t98 => (words_Xor.f k t98 (rdr ([] : List Int) (ks w0 w1 w2 w3 n) (I64 (((ks w0 w1 w2 w3 n).length : Int) - 1)))).bind fun t104 => some (t104.1, 0)) else none else none) else none else none) = _
    rw [g1, g2, Option.bind_some, if_neg (by rw [decide_eq_true_eq]; omega), if_pos (c0 _), if_pos (c1 _ (by omega)), ks_row (by omega), X1, Option.bind_some, if_pos (c0 _), if_pos (c1 _ (by omega))]
    show (aria_boxes_layer.f k tabs 2 (il (xorN x (kk w0 w1 w2 w3 (n - 2))))).bind _ = _
    rw [L, Option.bind_some, ks_row (by omega), X2, Option.bind_some]; rfl
  | succ d ih =>
    obtain ⟨k, rfl⟩ : ∃ j, k = j + 1 := ⟨k - 1, by omega⟩
    have a2 : I64 ((i : Int) + 1) = ((i + 1 : Nat) : Int) := I64_nat (n := i + 1) (by omega)
    have T := turn10 hx (ok i) (hs_i i) (by omega) (k := k) (by omega)
    have next := ih (k := k) (i := i + 1) (x := rd10 (2 * (i % 2)) x (kk w0 w1 w2 w3 i)) (rd10_ok _ _ _) (by omega) (by omega)
    rw [aria_Aria_Block.l3]
    show (some (decide ((i : Int) < I64 (I64 (((ks w0 w1 w2 w3 n).length : Int) - 1) - 1)))).bind (fun y70 => if y70 = true then if decide (0 ≤ (i : Int)) = true then if decide ((i : Int) < ((ks w0 w1 w2 w3 n).length : Int)) = true then (aria_boxes_turn.f k tabs (I64 (1 + Int.tmod (i : Int) 2)) (il x) (rdr ([] : List Int) (ks w0 w1 w2 w3 n) (i : Int))).bind (fun t78 => aria_Aria_Block.l3 k (tabs, ks w0 w1 w2 w3 n) t78 (I64 ((i : Int) + 1))) else none else none else _) = _
    rw [g1, g2, Option.bind_some, if_pos (by rw [decide_eq_true_eq]; omega), if_pos (c0 _), if_pos (c1 _ (by omega)), n_i, ks_row (by omega), T, Option.bind_some, a2]
    exact next
theorem blk (h0 : Ok16 w0) (h1 : Ok16 w1) (h2 : Ok16 w2) (h3 : Ok16 w3) {n : Nat} (hn : n < 100) (hn2 : 3 ≤ n) {k : Nat} {x : List Nat} (hx : Ok16 x) (hk : 600 < k) :
    aria_Aria_Block.f k (tabs, ks w0 w1 w2 w3 n) (il x) false = some (il (fin10 (kk w0 w1 w2 w3) n (rr (kk w0 w1 w2 w3) (n - 2) 0 x)), 0) := by
  obtain ⟨k, rfl⟩ : ∃ j, k = j + 1 := ⟨k - 1, by omega⟩
  have ll := ks_length w0 w1 w2 w3 n
  have g1 : I64 (((ks w0 w1 w2 w3 n).length : Int) - 1) = ((n - 1 : Nat) : Int) := by rw [ll, I64_id (by omega) (by omega)]; omega
  have g2 : I64 (((n - 1 : Nat) : Int) - 1) = ((n - 2 : Nat) : Int) := by rw [I64_id (by omega) (by omega)]; omega
  have ok := kk_ok h0 h1 h2 h3
  have T := turn10 hx (ok 0) (hs_i 0) (by omega) (k := k) (by omega)
  have c1 : decide ((0 : Int) < ((ks w0 w1 w2 w3 n).length : Int)) = true := by rw [decide_eq_true_eq, ll]; omega
  have r0 : rdr ([] : List Int) (ks w0 w1 w2 w3 n) 0 = il (kk w0 w1 w2 w3 0) := ks_row (i := 0) (by omega)
  have next := blk_l3 h0 h1 h2 h3 hn (by omega) (n - 3) (k := k) (i := 1) (x := rd10 (2 * (0 % 2)) x (kk w0 w1 w2 w3 0)) (rd10_ok _ _ _) (by omega) (by omega)
  have e : rr (kk w0 w1 w2 w3) (n - 2) 0 x = rr (kk w0 w1 w2 w3) (n - 3) 1 (rd10 (2 * (0 % 2)) x (kk w0 w1 w2 w3 0)) := by
    rw [show n - 2 = (n - 3) + 1 by omega]; rfl
  rw [e]
  unfold aria_Aria_Block.f
  rw [if_neg (by rw [il_length, hx.1]; decide), if_neg (by decide), aria_Aria_Block.l2]
  show (some (decide ((0 : Int) < I64 (I64 (((ks w0 w1 w2 w3 n).length : Int) - 1) - 1)))).bind (fun y70 => if y70 = true then if decide ((0 : Int) ≤ 0) = true then if decide ((0 : Int) < ((ks w0 w1 w2 w3 n).length : Int)) = true then (aria_boxes_turn.f k tabs (I64 (1 + Int.tmod (0 : Int) 2)) (il x) (rdr ([] : List Int) (ks w0 w1 w2 w3 n) 0)).bind (fun t78 => aria_Aria_Block.l3 k (tabs, ks w0 w1 w2 w3 n) t78 (I64 ((0 : Int) + 1))) else none else none else _) = _
  rw [g1, g2, Option.bind_some, if_pos (by rw [decide_eq_true_eq]; omega), if_pos (by decide), if_pos c1, r0]
  show (aria_boxes_turn.f k tabs ((1 + 0 % 2 : Nat) : Int) (il x) (il (kk w0 w1 w2 w3 0))).bind _ = _
  rw [T, Option.bind_some]
  exact next
theorem layI {m : List Nat} (h : Ok16 m) (i : Nat) {k : Nat} (hk : 700 ≤ k) : aria_Layer.f k ((1 + i % 2 : Nat) : Int) (il m) = some (il (layN (2 * (i % 2)) m), true) := by
  unfold aria_Layer.f
  rw [if_neg (by rw [il_length, h.1]; decide), if_neg (by rw [decide_eq_true_eq]; omega), if_neg (by rw [decide_eq_true_eq]; omega), made_eq hk, Option.bind_some, lay_eq h.1 h.2 (hs_i i) (by omega) (by omega), Option.bind_some]
theorem rounds_l0 (h0 : Ok16 w0) (h1 : Ok16 w1) (h2 : Ok16 w2) (h3 : Ok16 w3) {n : Nat} (hn : n < 100) (hn2 : 3 ≤ n) (hodd : n % 2 = 1) {a2 : List Int} {z : List Nat} (hz : Ok16 z) (bz : ∀ k, 100 ≤ k → scrimlaw10_Bytes.f k 16 a2 = some (il z)) (d : Nat) {k i : Nat} {x : List Nat} (hx : Ok16 x) (hk : d + 800 < k) (hi : i + d = n - 2)
    (hf : rr (kk w0 w1 w2 w3) d i x = rr (kk w0 w1 w2 w3) (n - 2) 0 z) :
    scrimlaw10_AriaRounds.l0 k a2 (tabs, ks w0 w1 w2 w3 n) (ks w0 w1 w2 w3 n, 0) (il x) (i : Int) = some true := by
  have ll := ks_length w0 w1 w2 w3 n
  have g1 : I64 (((ks w0 w1 w2 w3 n).length : Int) - 1) = ((n - 1 : Nat) : Int) := by rw [ll, I64_id (by omega) (by omega)]; omega
  have g2 : I64 (((ks w0 w1 w2 w3 n).length : Int) - 2) = ((n - 2 : Nat) : Int) := by rw [ll, I64_id (by omega) (by omega)]; omega
  have ok := kk_ok h0 h1 h2 h3
  have c0 : ∀ z : Nat, decide (0 ≤ (z : Int)) = true := fun z => by rw [decide_eq_true_eq]; omega
  have c1 : ∀ z : Nat, z < n → decide ((z : Int) < ((ks w0 w1 w2 w3 n).length : Int)) = true := fun z hz => by rw [decide_eq_true_eq, ll]; omega
  have l16 : ∀ m : List Nat, Ok16 m → (((il m).length : Int) != 16) = false := fun m hm => by rw [il_length, hm.1]; rfl
  induction d generalizing k i x with
  | zero =>
    obtain ⟨k, rfl⟩ : ∃ j, k = j + 2 := ⟨k - 2, by omega⟩
    have e : i = n - 2 := by omega
    subst e
    have a2' : I64 (((n - 2 : Nat) : Int) + 1) = ((n - 1 : Nat) : Int) := by rw [I64_id (by omega) (by omega)]; omega
    have B1 := both16 hx.1 (ok (n - 2)).1 hx.2 (ok (n - 2)).2 (k := k + 1) (by omega)
    have o1 := hx.xor (ok (n - 2))
    have L := layI o1 (n - 2) (k := k + 1) (by omega)
    have h22 : 2 * ((n - 2) % 2) = 2 := by omega
    rw [h22] at L
    have oL : Ok16 (layN 2 (xorN x (kk w0 w1 w2 w3 (n - 2)))) := ⟨layN_length _ _, layN_lt _ _⟩
    have B2 := both16 oL.1 (ok (n - 1)).1 oL.2 (ok (n - 1)).2 (k := k) (by omega)
    have bk := blk h0 h1 h2 h3 hn hn2 hz (k := k) (by omega)
    rw [scrimlaw10_AriaRounds.l0]
    show (some (decide (((n - 2 : Nat) : Int) < I64 (((ks w0 w1 w2 w3 n).length : Int) - 1)))).bind (fun y34 => if y34 = true then if decide (0 ≤ ((n - 2 : Nat) : Int)) = true then if decide (((n - 2 : Nat) : Int) < ((ks w0 w1 w2 w3 n).length : Int)) = true then (some (((rdr ([] : List Int) (ks w0 w1 w2 w3 n) ((n - 2 : Nat) : Int)).length : Int) != 16)).bind (fun y39 => if y39 = true then some false else if decide (0 ≤ ((n - 2 : Nat) : Int)) = true then if decide (((n - 2 : Nat) : Int) < ((ks w0 w1 w2 w3 n).length : Int)) = true then (scrimref1_Both.f (k + 1) (il x) (rdr ([] : List Int) (ks w0 w1 w2 w3 n) ((n - 2 : Nat) : Int))).bind (fun t45 => (aria_Layer.f (k + 1) (I64 (1 + Int.tmod ((n - 2 : Nat) : Int) 2)) t45).bind fun t51 => if (!t51.2) = true then some false else if ((t51.1.length : Int) != 16) = true then some false else (some (decide (((n - 2 : Nat) : Int) < I64 (((ks w0 w1 w2 w3 n).length : Int) - 2)))).bind fun y58 => if y58 = true then _ else scrimlaw10_AriaRounds.l0 (k + 1) a2 (tabs, ks w0 w1 w2 w3 n) (ks w0 w1 w2 w3 n, 0) t51.1 (I64 (((n - 2 : Nat) : Int) + 1))) else none else none) else none else none else _) = _
    rw [g1, g2, Option.bind_some, if_pos (by rw [decide_eq_true_eq]; omega), if_pos (c0 _), if_pos (c1 _ (by omega)), ks_row (by omega), l16 _ (ok _), Option.bind_some, if_neg (by decide), if_pos (c0 _), if_pos (c1 _ (by omega)), B1, Option.bind_some, n_i, L, Option.bind_some]
    show (if ((((il (layN 2 (xorN x (kk w0 w1 w2 w3 (n - 2))))).length : Int)) != 16) = true then some false else (some (decide (((n - 2 : Nat) : Int) < ((n - 2 : Nat) : Int)))).bind fun y58 => if y58 = true then _ else scrimlaw10_AriaRounds.l0 (k + 1) a2 (tabs, ks w0 w1 w2 w3 n) (ks w0 w1 w2 w3 n, 0) (il (layN 2 (xorN x (kk w0 w1 w2 w3 (n - 2))))) (I64 (((n - 2 : Nat) : Int) + 1))) = some true
    rw [l16 _ oL, if_neg (by decide), Option.bind_some, if_neg (by rw [decide_eq_true_eq]; omega), a2', scrimlaw10_AriaRounds.l0]
    show (some (decide (((n - 1 : Nat) : Int) < I64 (((ks w0 w1 w2 w3 n).length : Int) - 1)))).bind (fun y34 => if y34 = true then _ else (scrimlaw10_Bytes.f k 16 a2).bind fun t69 => (aria_Aria_Block.f k (tabs, ks w0 w1 w2 w3 n) t69 false).bind fun t75 => if decide (0 ≤ I64 (((ks w0 w1 w2 w3 n).length : Int) - 1)) = true then if decide (I64 (((ks w0 w1 w2 w3 n).length : Int) - 1) < ((ks w0 w1 w2 w3 n).length : Int)) = true then if (((rdr ([] : List Int) (ks w0 w1 w2 w3 n) (I64 (((ks w0 w1 w2 w3 n).length : Int) - 1))).length : Int) == 16) = true then if decide (0 ≤ I64 (((ks w0 w1 w2 w3 n).length : Int) - 1)) = true then if decide (I64 (((ks w0 w1 w2 w3 n).length : Int) - 1) < ((ks w0 w1 w2 w3 n).length : Int)) = true then (scrimref1_Both.f k (il (layN 2 (xorN x (kk w0 w1 w2 w3 (n - 2))))) (rdr ([] : List Int) (ks w0 w1 w2 w3 n) (I64 (((ks w0 w1 w2 w3 n).length : Int) - 1)))).bind fun t90 => some ((strOf t75.1).toList == (strOf t90).toList) else none else none else some false else none else none) = some true
    rw [g1, Option.bind_some, if_neg (by rw [decide_eq_true_eq]; omega), bz k (by omega), Option.bind_some, bk, Option.bind_some, if_pos (c0 _), if_pos (c1 _ (by omega)), ks_row (by omega), if_pos (by rw [il_length, (ok _).1]; rfl), if_pos (c0 _), if_pos (c1 _ (by omega)), B2, Option.bind_some, ← hf]
    exact congrArg some (beq_self_eq_true _)
  | succ d ih =>
    obtain ⟨k, rfl⟩ : ∃ j, k = j + 1 := ⟨k - 1, by omega⟩
    have a2' : I64 ((i : Int) + 1) = ((i + 1 : Nat) : Int) := I64_nat (n := i + 1) (by omega)
    have B1 := both16 hx.1 (ok i).1 hx.2 (ok i).2 (k := k) (by omega)
    have o1 := hx.xor (ok i)
    have L := layI o1 i (k := k) (by omega)
    have oL : Ok16 (layN (2 * (i % 2)) (xorN x (kk w0 w1 w2 w3 i))) := ⟨layN_length _ _, layN_lt _ _⟩
    have M := mix_eq oL.1 oL.2 (k := k) (by omega)
    have oM : Ok16 (mixN (layN (2 * (i % 2)) (xorN x (kk w0 w1 w2 w3 i)))) := ⟨mixN_length _, mixN_lt oL.2⟩
    have next := ih (k := k) (i := i + 1) (x := rd10 (2 * (i % 2)) x (kk w0 w1 w2 w3 i)) (rd10_ok _ _ _) (by omega) (by omega) hf
    rw [scrimlaw10_AriaRounds.l0]
    show (some (decide ((i : Int) < I64 (((ks w0 w1 w2 w3 n).length : Int) - 1)))).bind (fun y34 => if y34 = true then if decide (0 ≤ (i : Int)) = true then if decide ((i : Int) < ((ks w0 w1 w2 w3 n).length : Int)) = true then (some (((rdr ([] : List Int) (ks w0 w1 w2 w3 n) (i : Int)).length : Int) != 16)).bind (fun y39 => if y39 = true then some false else if decide (0 ≤ (i : Int)) = true then if decide ((i : Int) < ((ks w0 w1 w2 w3 n).length : Int)) = true then (scrimref1_Both.f k (il x) (rdr ([] : List Int) (ks w0 w1 w2 w3 n) (i : Int))).bind (fun t45 => (aria_Layer.f k (I64 (1 + Int.tmod (i : Int) 2)) t45).bind fun t51 => if (!t51.2) = true then some false else if ((t51.1.length : Int) != 16) = true then some false else (some (decide ((i : Int) < I64 (((ks w0 w1 w2 w3 n).length : Int) - 2)))).bind fun y58 => if y58 = true then (aria_Mix.f k t51.1).bind fun t61 => if (!t61.2) = true then some false else if ((t61.1.length : Int) != 16) = true then some false else scrimlaw10_AriaRounds.l0 k a2 (tabs, ks w0 w1 w2 w3 n) (ks w0 w1 w2 w3 n, 0) t61.1 (I64 ((i : Int) + 1)) else _) else none else none) else none else none else _) = _
    rw [g1, g2, Option.bind_some, if_pos (by rw [decide_eq_true_eq]; omega), if_pos (c0 _), if_pos (c1 _ (by omega)), ks_row (by omega), l16 _ (ok _), Option.bind_some, if_neg (by decide), if_pos (c0 _), if_pos (c1 _ (by omega)), B1, Option.bind_some, n_i, L, Option.bind_some]
    show (if ((((il (layN (2 * (i % 2)) (xorN x (kk w0 w1 w2 w3 i)))).length : Int)) != 16) = true then some false else (some (decide ((i : Int) < ((n - 2 : Nat) : Int)))).bind fun y58 => if y58 = true then (aria_Mix.f k (il (layN (2 * (i % 2)) (xorN x (kk w0 w1 w2 w3 i))))).bind fun t61 => if (!t61.2) = true then some false else if ((t61.1.length : Int) != 16) = true then some false else scrimlaw10_AriaRounds.l0 k a2 (tabs, ks w0 w1 w2 w3 n) (ks w0 w1 w2 w3 n, 0) t61.1 (I64 ((i : Int) + 1)) else _) = some true
    rw [l16 _ oL, if_neg (by decide), Option.bind_some, if_pos (by rw [decide_eq_true_eq]; omega), M, Option.bind_some]
    show (if ((((il (mixN (layN (2 * (i % 2)) (xorN x (kk w0 w1 w2 w3 i))))).length : Int)) != 16) = true then some false else scrimlaw10_AriaRounds.l0 k a2 (tabs, ks w0 w1 w2 w3 n) (ks w0 w1 w2 w3 n, 0) (il (mixN (layN (2 * (i % 2)) (xorN x (kk w0 w1 w2 w3 i))))) (I64 ((i : Int) + 1))) = some true
    rw [l16 _ oM, if_neg (by decide), a2']
    exact next
theorem bytes_mono10 (a0 : Int) : ∀ (k : Nat) (x : List Int) (i : Int) (r : List Int) (q : Nat), k ≤ q → scrimlaw10_Bytes.l0 k a0 x i = some r → scrimlaw10_Bytes.l0 q a0 x i = some r
  | 0, _, _, _, _, _, h => by rw [scrimlaw10_Bytes.l0] at h; cases h
  | k + 1, x, i, r, q, hq, h => by
    obtain ⟨q, rfl⟩ : ∃ j, q = j + 1 := ⟨q - 1, by omega⟩
    rw [scrimlaw10_Bytes.l0] at h ⊢
    by_cases c : decide (i < a0) = true
    · rw [if_pos c] at h ⊢
      by_cases c1 : decide (0 ≤ i) = true
      · rw [if_pos c1] at h ⊢
        by_cases c2 : decide (i < ((a0 : Int).toNat : Int)) = true
        · rw [if_pos c2] at h ⊢
          exact bytes_mono10 a0 k _ _ r q (by omega) h
        · rw [if_neg c2] at h; cases h
      · rw [if_neg c1] at h; cases h
    · rw [if_neg c] at h ⊢; exact h
theorem bytes10_all {l : List Nat} (hl : ∀ x ∈ l, x < 256) : ∃ n : List Nat, Ok16 n ∧ ∀ k, 100 ≤ k → scrimlaw10_Bytes.f k 16 (il l) = some (il n) := by
  obtain ⟨n, b, hn, hnb⟩ := bytes10_eq (n := 16) (by decide) hl (k := 99) (by omega)
  refine ⟨n, ⟨hn, hnb⟩, fun k hk => ?_⟩
  simp only [Int.cast_ofNat_Int] at b
  unfold scrimlaw10_Bytes.f at b ⊢
  rw [if_pos (by decide), if_pos (by decide)] at b ⊢
  exact bytes_mono10 16 99 _ _ _ k (by omega) b
theorem pass0 {α : Type} (x : α) (e : Int) (f : α → Option Bool) (g : Option Bool) : (if ((some x, e) : Option α × Int).1.isSome = true then ((some x, e) : Option α × Int).1.bind f else g) = f x := rfl
theorem AriaRounds (a0 : List Int) (a1 : Int) (a2 : List Int) (h0 : a0.length ≤ maxLen) (h1 : ∀ x ∈ a0, In .u8 x) (h2 : In .i64 a1) (h3 : a2.length ≤ maxLen) (h4 : ∀ x ∈ a2, In .u8 x) : ∃ k, scrimlaw10_AriaRounds.f k a0 a1 a2 = some true := by
  obtain ⟨l0, rfl, hl0⟩ := il_of h1
  obtain ⟨l2, rfl, hl2⟩ := il_of h4
  obtain ⟨k, hk⟩ : ∃ k : Nat, 1000 ≤ k := ⟨1000, Nat.le_refl _⟩
  refine ⟨k, ?_⟩
  obtain ⟨e, m, he, hm, hmb, key⟩ := key10 hl0 a1 (k := k) (by omega)
  obtain ⟨w0, w1, w2, w3, o0, o1, o2, o3, q⟩ := keys_two hmb he hm (k := k) (by omega)
  obtain ⟨z, hz, bz⟩ := bytes10_all hl2
  have ll := ks_length w0 w1 w2 w3 (13 + 2 * e)
  have ft : aria_fits.f k (il m) = some true := by rw [fits_len, decide_eq_true (by omega)]
  have nw : aria_New.f k (il m) = some (some (tabs, ks w0 w1 w2 w3 (13 + 2 * e)), 0) := by
    unfold aria_New.f
    rw [ft, Option.bind_some, if_neg (by decide), made_eq (by omega), Option.bind_some, q, Option.bind_some]
  have kw : aria_Keys.f k (il m) = some (ks w0 w1 w2 w3 (13 + 2 * e), 0) := by
    unfold aria_Keys.f
    rw [ft, Option.bind_some, if_neg (by decide), made_eq (by omega), Option.bind_some, q, Option.bind_some]
  have main := rounds_l0 o0 o1 o2 o3 (n := 13 + 2 * e) (by omega) (by omega) (by omega) hz bz (13 + 2 * e - 2) (k := k) (i := 0) (x := z) hz (by omega) (by omega) rfl
  have c : decide (((ks w0 w1 w2 w3 (13 + 2 * e)).length : Int) < 13) = false := by rw [decide_eq_false_iff_not, ll]; omega
  unfold scrimlaw10_AriaRounds.f
  rw [known10_eq (by omega), Option.bind_some, if_neg (by decide), key, Option.bind_some, nw, Option.bind_some, Option.bind_some, kw, Option.bind_some]
  show (if decide (((ks w0 w1 w2 w3 (13 + 2 * e)).length : Int) < 13) = true then some false else (scrimlaw10_Bytes.f k 16 (il l2)).bind fun t28 => scrimlaw10_AriaRounds.l0 k (il l2) (tabs, ks w0 w1 w2 w3 (13 + 2 * e)) (ks w0 w1 w2 w3 (13 + 2 * e), 0) t28 0) = some true
  rw [c, if_neg (by decide), bz k (by omega), Option.bind_some]
  exact main
end Go.Scr.S
