/- The plain law of ArKeys. -/
import Derived.Test.YtekkdjgcbkoepaaDoorFnAriaKeys
import Derived.Test.YtekkdjgcbkoepaaDoorLibNum
import Derived.Test.YtekkdjgcbkoepaaDoorLibGf
import Derived.Test.YtekkdjgcbkoepaaDoorLibFieldPw0
import Derived.Test.YtekkdjgcbkoepaaDoorLibFieldRefMul
import Derived.Test.YtekkdjgcbkoepaaDoorLibFieldRefPw
import Derived.Test.YtekkdjgcbkoepaaDoorLibFill
import Derived.Test.YtekkdjgcbkoepaaDoorLibIl
import Derived.Test.YtekkdjgcbkoepaaDoorLibGIl
import Derived.Test.YtekkdjgcbkoepaaDoorLibGXor
import Derived.Test.YtekkdjgcbkoepaaDoorLibGRest
import Derived.Test.YtekkdjgcbkoepaaDoorLibGTurn
import Derived.Test.YtekkdjgcbkoepaaDoorLibGRTurn
import Derived.Test.YtekkdjgcbkoepaaDoorLibBoxAff
import Derived.Test.YtekkdjgcbkoepaaDoorLibBoxMk
import Derived.Test.YtekkdjgcbkoepaaDoorLibBoxRefAff
import Derived.Test.YtekkdjgcbkoepaaDoorLibBoxRMake
import Derived.Test.YtekkdjgcbkoepaaDoorLibBoxIsL
import Derived.Test.YtekkdjgcbkoepaaDoorLibPigeon
import Derived.Test.YtekkdjgcbkoepaaDoorLibBoxBackL
import Derived.Test.YtekkdjgcbkoepaaDoorLibArLit
import Derived.Test.YtekkdjgcbkoepaaDoorLibArMade
import Derived.Test.YtekkdjgcbkoepaaDoorLibArMix
import Derived.Test.YtekkdjgcbkoepaaDoorLibArLay
import Derived.Test.YtekkdjgcbkoepaaDoorLibArRLay
import Derived.Test.YtekkdjgcbkoepaaDoorLibArRMix
import Derived.Test.YtekkdjgcbkoepaaDoorLibArRef
import Derived.Test.YtekkdjgcbkoepaaDoorLibArBoth
import Derived.Test.YtekkdjgcbkoepaaDoorLibArKS
set_option linter.unusedVariables false
set_option linter.unusedSimpArgs false
set_option linter.unnecessarySimpa false
namespace Go.Scr.S
theorem il_take' (a : List Nat) (n : Nat) : (il a).take n = il (a.take n) := by simp [il, List.map_take]
theorem il_drop' (a : List Nat) (n : Nat) : (il a).drop n = il (a.drop n) := by simp [il, List.map_drop]
theorem il_app' (a b : List Nat) : il a ++ il b = il (a ++ b) := by simp [il]
def krN (l : List Nat) (e : Nat) : List Nat := l.drop 16 ++ List.replicate (16 - 8 * e) 0
theorem keys_two {l : List Nat} (hl : ∀ x ∈ l, x < 256) {e : Nat} (he : e < 3) (hlen : l.length = 16 + 8 * e) {k : Nat} (hk : 900 ≤ k) : ∃ w0 w1 w2 w3, Ok16 w0 ∧ Ok16 w1 ∧ Ok16 w2 ∧ Ok16 w3 ∧ aria_boxes_keys.f k tabs (il l) = some (ks w0 w1 w2 w3 (13 + 2 * e)) ∧ scrimref10_Boxes_keys.f k tabs (il l) = some (ks w0 w1 w2 w3 (13 + 2 * e)) := by
  have o0 : Ok16 (l.take 16) := ⟨by rw [List.length_take]; omega, fun x hx => hl x (List.mem_of_mem_take hx)⟩
  have oR : Ok16 (krN l e) := ⟨by unfold krN; rw [List.length_append, List.length_drop, List.length_replicate]; omega, fun x hx => by
    unfold krN at hx
    rcases List.mem_append.1 hx with hx | hx
    · exact hl x (List.mem_of_mem_drop hx)
    · rw [List.eq_of_mem_replicate hx]; decide⟩
  have full : (il l).take (((il l).length : Int) : Int).toNat = il l := by rw [Int.toNat_natCast, List.take_length]
  have d16 : (il l).drop (16 : Int).toNat = il (l.drop 16) := il_drop' l 16
  have fA : ((il l).take (List.replicate 16 (0 : Int)).length ++ (List.replicate 16 (0 : Int)).drop (il l).length) = il (l.take 16) := by
    rw [List.length_replicate, il_take', List.drop_of_length_le (by rw [List.length_replicate, il_length]; omega), List.append_nil]
  have fB : ((((il l).take (((il l).length : Int) : Int).toNat).drop (16 : Int).toNat).take (List.replicate 16 (0 : Int)).length ++ (List.replicate 16 (0 : Int)).drop (((il l).take (((il l).length : Int) : Int).toNat).drop (16 : Int).toNat).length) = il (krN l e) := by
    rw [full, d16, List.length_replicate, List.take_of_length_le (by rw [il_length, List.length_drop]; omega), List.drop_replicate, il_length, List.length_drop, il_replicate, il_app']
    unfold krN
    rw [show 16 - (l.length - 16) = 16 - 8 * e by omega]
  have fC : (([] : List Int) ++ (((il l).take (16 : Int).toNat).drop (0 : Int).toNat)) = il (l.take 16) := by
    rw [List.nil_append]; exact il_take' l 16
  have i32 : I64 (32 - ((il l).length : Int)) = ((16 - 8 * e : Nat) : Int) := by rw [il_length, hlen, I64_id (by omega) (by omega)]; omega
  have fD : ((([] : List Int) ++ (((il l).take (((il l).length : Int) : Int).toNat).drop (16 : Int).toNat)) ++ List.replicate (I64 (32 - ((il l).length : Int)) : Int).toNat (0 : Int)) = il (krN l e) := by
    rw [full, d16, List.nil_append, i32, Int.toNat_natCast, il_replicate, il_app']; rfl
  have ey : I64 (Int.tdiv (I64 (((il l).length : Int) - 16)) 8) = (e : Int) := by
    have : I64 (((il l).length : Int) - 16) = ((8 * e : Nat) : Int) := by rw [il_length, hlen, I64_id (by omega) (by omega)]; omega
    rw [this]
    have t : Int.tdiv ((8 * e : Nat) : Int) 8 = ((8 * e / 8 : Nat) : Int) := rfl
    rw [t, show 8 * e / 8 = e by omega]; exact I64_nat (by omega)
  have er : I64 (I64 (Int.tdiv ((il l).length : Int) 8) - 2) = (e : Int) := by
    have t : Int.tdiv ((il l).length : Int) 8 = (((il l).length / 8 : Nat) : Int) := rfl
    rw [t, il_length, hlen, show (16 + 8 * e) / 8 = e + 2 by omega, I64_nat (by omega), I64_id (by omega) (by omega)]; omega
  have g0 : I64 (0 + (e : Int)) = ((e : Nat) : Int) := by rw [I64_id (by omega) (by omega)]; omega
  have g1 : I64 (1 + (e : Int)) = ((e + 1 : Nat) : Int) := by rw [I64_id (by omega) (by omega)]; omega
  have g2 : I64 (2 + (e : Int)) = ((e + 2 : Nat) : Int) := by rw [I64_id (by omega) (by omega)]; omega
  have r1 : I64 ((e : Int) + 1) = ((e + 1 : Nat) : Int) := I64_nat (n := e + 1) (by omega)
  have r2 : I64 ((e : Int) + 2) = ((e + 2 : Nat) : Int) := I64_nat (n := e + 2) (by omega)
  have t3 : ∀ z : Nat, Int.tmod (z : Int) 3 = ((z % 3 : Nat) : Int) := fun z => rfl
  have z0 : ∀ z : Nat, decide (0 ≤ (z : Int)) = true := fun z => by rw [decide_eq_true_eq]; omega
  have z3 : ∀ z : Nat, decide (((z % 3 : Nat) : Int) < 3) = true := fun z => by rw [decide_eq_true_eq]; omega
  have c16 : decide (16 ≤ ((il l).length : Int)) = true := by rw [decide_eq_true_eq, il_length, hlen]; omega
  have oc := fun n => (show Ok16 (cc n) from cc_ok n)
  have row := fun (n : Nat) => three_row (Nat.mod_lt n (by decide : 0 < 3))
  -- the words
  have T1 := turn10 o0 (oc (e % 3)) s1 (by decide) (k := k) (by omega)
  have R1 := rturn10 o0 (oc (e % 3)) s1 (by decide) (k := k) (by omega)
  have oT1 : Ok16 (rd10 0 (l.take 16) (cc (e % 3))) := rd10_ok _ _ _
  have X1 := xor16 oT1.1 oR.1 oT1.2 oR.2 (k := k) (by omega)
  have Y1 := both16 oT1.1 oR.1 oT1.2 oR.2 (k := k) (by omega)
  have o1 := oT1.xor oR
  generalize xorN (rd10 0 (l.take 16) (cc (e % 3))) (krN l e) = w1 at *
  have T2 := turn10 o1 (oc ((e + 1) % 3)) s2 (by decide) (k := k) (by omega)
  have R2 := rturn10 o1 (oc ((e + 1) % 3)) s2 (by decide) (k := k) (by omega)
  have oT2 : Ok16 (rd10 2 w1 (cc ((e + 1) % 3))) := rd10_ok _ _ _
  have X2 := xor16 oT2.1 o0.1 oT2.2 o0.2 (k := k) (by omega)
  have Y2 := both16 oT2.1 o0.1 oT2.2 o0.2 (k := k) (by omega)
  have o2 := oT2.xor o0
  generalize xorN (rd10 2 w1 (cc ((e + 1) % 3))) (l.take 16) = w2 at *
  have T3 := turn10 o2 (oc ((e + 2) % 3)) s1 (by decide) (k := k) (by omega)
  have R3 := rturn10 o2 (oc ((e + 2) % 3)) s1 (by decide) (k := k) (by omega)
  have oT3 : Ok16 (rd10 0 w2 (cc ((e + 2) % 3))) := rd10_ok _ _ _
  have X3 := xor16 oT3.1 o1.1 oT3.2 o1.2 (k := k) (by omega)
  have Y3 := both16 oT3.1 o1.1 oT3.2 o1.2 (k := k) (by omega)
  have o3 := oT3.xor o1
  generalize xorN (rd10 0 w2 (cc ((e + 2) % 3))) w1 = w3 at *
  refine ⟨l.take 16, w1, w2, w3, o0, o1, o2, o3, ?_, ?_⟩
  · have fin := kl0 fA o0 o1 o2 o3 he (12 + 2 * e) (k := k) (i := 0) (by omega) (by omega)
    unfold aria_boxes_keys.f
    rw [ey, Option.bind_some, three_eq (by omega), Option.bind_some, if_pos c16, g0, g1, g2, t3, t3, t3, if_pos (z0 _), if_pos (z3 _), row, row, row, fA, fB, T1, Option.bind_some, X1, Option.bind_some, if_pos (z0 _), if_pos (z3 _)]
    show (aria_boxes_turn.f k tabs 2 (il w1) (il (cc ((e + 1) % 3)))).bind _ = _
    rw [T2, Option.bind_some, X2, Option.bind_some, if_pos (z0 _), if_pos (z3 _)]
    show (aria_boxes_turn.f k tabs 1 (il w2) (il (cc ((e + 2) % 3)))).bind _ = _
    rw [T3, Option.bind_some]
    show (words_Xor.f k (il (rd10 0 w2 (cc ((e + 2) % 3)))) (il w1)).bind _ = _
    rw [X3, Option.bind_some]
    exact fin
  · have fin := rkl0 fC o0 o1 o2 o3 he (13 + 2 * e) (k := k) (i := 0) (by omega) (by omega)
    have l1 : decide ((([] : List Int)).length + (((il l).take (16 : Int).toNat).drop (0 : Int).toNat).length ≤ 1000000000) = true := by
      rw [decide_eq_true_eq]; show 0 + ((il l).take 16).length ≤ _; rw [List.length_take]; omega
    have l2 : decide ((([] : List Int)).length + (((il l).take (((il l).length : Int) : Int).toNat).drop (16 : Int).toNat).length ≤ 1000000000) = true := by
      rw [decide_eq_true_eq, full, d16, il_length, List.length_drop]; simp only [List.length_nil]; omega
    have l3 : decide (0 ≤ I64 (32 - ((il l).length : Int))) = true := by rw [i32]; exact z0 _
    have l4 : decide (((([] : List Int) ++ (((il l).take (((il l).length : Int) : Int).toNat).drop (16 : Int).toNat)).length : Int) + (I64 (32 - ((il l).length : Int))) ≤ 1000000000) = true := by
      rw [decide_eq_true_eq, i32, full, d16, List.nil_append, il_length, List.length_drop]; omega
    unfold scrimref10_Boxes_keys.f
    rw [er, Option.bind_some, if_pos (by decide), if_pos c16, if_pos l1, if_pos c16, if_pos l2, if_pos l3, if_pos l4, rconst (by omega), Option.bind_some, fC, fD, R1, Option.bind_some, Y1, Option.bind_some, r1, rconst (by omega), Option.bind_some, R2, Option.bind_some, Y2, Option.bind_some, r2, rconst (by omega), Option.bind_some, R3, Option.bind_some, Y3, Option.bind_some]
    exact fin
theorem fits_len {l : List Nat} {k : Nat} : aria_fits.f k (il l) = some (decide (l.length = 16 ∨ l.length = 24 ∨ l.length = 32)) := by
  unfold aria_fits.f
  rw [il_length]
  have t8 : Int.tmod (l.length : Int) 8 = ((l.length % 8 : Nat) : Int) := rfl
  by_cases h1 : 16 ≤ l.length
  · rw [if_pos (by rw [decide_eq_true_eq]; omega)]
    by_cases h2 : l.length ≤ 32
    · rw [if_pos (by rw [decide_eq_true_eq]; omega), t8]
      congr 1
      rw [Bool.eq_iff_iff, beq_iff_eq, decide_eq_true_eq]; omega
    · rw [if_neg (by rw [decide_eq_true_eq]; omega), decide_eq_false (by omega)]
  · rw [if_neg (by rw [decide_eq_true_eq]; omega), decide_eq_false (by omega)]
/-- Both Keys. -/
theorem two_keys {l : List Nat} (hl : ∀ x ∈ l, x < 256) {e : Nat} (he : e < 3) (hlen : l.length = 16 + 8 * e) {k : Nat} (hk : 900 ≤ k) : ∃ w0 w1 w2 w3, Ok16 w0 ∧ Ok16 w1 ∧ Ok16 w2 ∧ Ok16 w3 ∧ aria_Keys.f k (il l) = some (ks w0 w1 w2 w3 (13 + 2 * e), 0) ∧ scrimref10_Keys.f k (il l) = some (ks w0 w1 w2 w3 (13 + 2 * e), 0) := by
  obtain ⟨w0, w1, w2, w3, o0, o1, o2, o3, q1, q2⟩ := keys_two hl he hlen hk
  refine ⟨w0, w1, w2, w3, o0, o1, o2, o3, ?_, ?_⟩
  · unfold aria_Keys.f
    rw [fits_len, Option.bind_some, decide_eq_true (by omega), if_neg (by decide), made_eq (by omega), Option.bind_some, q1, Option.bind_some]
  · have rb := rboxes (k := k) (by omega)
    unfold scrimref10_Keys.f
    rw [il_length]
    have he3 : e = 0 ∨ e = 1 ∨ e = 2 := by omega
    rcases he3 with rfl | rfl | rfl
    · rw [if_neg (by rw [hlen]; decide), rb, Option.bind_some, Option.bind_some, q2, Option.bind_some]
    · rw [if_pos (by rw [hlen]; decide), if_neg (by rw [hlen]; decide), rb, Option.bind_some, Option.bind_some, q2, Option.bind_some]
    · rw [if_pos (by rw [hlen]; decide), if_pos (by rw [hlen]; decide), if_neg (by rw [hlen]; decide), rb, Option.bind_some, Option.bind_some, q2, Option.bind_some]
theorem no_keys {l : List Nat} (h : ¬ (l.length = 16 ∨ l.length = 24 ∨ l.length = 32)) {k : Nat} : aria_Keys.f k (il l) = some ([], 4) ∧ scrimref10_Keys.f k (il l) = some ([], 4) := by
  constructor
  · unfold aria_Keys.f
    rw [fits_len, Option.bind_some, decide_eq_false h, if_pos (by decide)]
  · unfold scrimref10_Keys.f
    rw [il_length, if_pos (by rw [bne_iff_ne]; omega), if_pos (by rw [bne_iff_ne]; omega), if_pos (by rw [bne_iff_ne]; omega)]
end Go.Scr.S
