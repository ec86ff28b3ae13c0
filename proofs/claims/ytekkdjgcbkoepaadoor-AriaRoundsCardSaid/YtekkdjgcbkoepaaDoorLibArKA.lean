/- The plain law of ArKA. -/
import Derived.Test.YtekkdjgcbkoepaaDoorFnAriaRounds
import Derived.Test.YtekkdjgcbkoepaaDoorLibNum
import Derived.Test.YtekkdjgcbkoepaaDoorLibGf
import Derived.Test.YtekkdjgcbkoepaaDoorLibFieldPw0
import Derived.Test.YtekkdjgcbkoepaaDoorLibFill
import Derived.Test.YtekkdjgcbkoepaaDoorLibIl
import Derived.Test.YtekkdjgcbkoepaaDoorLibGIl
import Derived.Test.YtekkdjgcbkoepaaDoorLibGXor
import Derived.Test.YtekkdjgcbkoepaaDoorLibGRest
import Derived.Test.YtekkdjgcbkoepaaDoorLibGTurn
import Derived.Test.YtekkdjgcbkoepaaDoorLibBoxAff
import Derived.Test.YtekkdjgcbkoepaaDoorLibBoxMk
import Derived.Test.YtekkdjgcbkoepaaDoorLibBoxIsL
import Derived.Test.YtekkdjgcbkoepaaDoorLibPigeon
import Derived.Test.YtekkdjgcbkoepaaDoorLibBoxBackL
import Derived.Test.YtekkdjgcbkoepaaDoorLibArLit
import Derived.Test.YtekkdjgcbkoepaaDoorLibArMade
import Derived.Test.YtekkdjgcbkoepaaDoorLibArMix
import Derived.Test.YtekkdjgcbkoepaaDoorLibArLay
import Derived.Test.YtekkdjgcbkoepaaDoorLibArBoth
set_option linter.unusedVariables false
set_option linter.unusedSimpArgs false
set_option linter.unnecessarySimpa false
namespace Go.Scr.S
def cc (n : Nat) : List Nat := if n = 0 then [81, 124, 193, 183, 39, 34, 10, 148, 254, 19, 171, 232, 250, 154, 110, 224] else if n = 1 then [109, 177, 74, 204, 158, 33, 200, 32, 255, 40, 177, 213, 239, 93, 226, 176] else [219, 146, 55, 29, 33, 38, 233, 112, 3, 36, 151, 117, 4, 232, 201, 14]
theorem cc_ok (n : Nat) : (cc n).length = 16 ∧ ∀ x ∈ cc n, x < 256 := by
  unfold cc; split
  · decide
  split <;> decide
theorem three_eq {k : Nat} (hk : 60 ≤ k) : aria_three.f k = some [il (cc 0), il (cc 1), il (cc 2)] := by
  obtain ⟨j, rfl⟩ : ∃ j, k = j + 60 := ⟨k - 60, by omega⟩
  kernel_rfl
theorem three_row {n : Nat} (hn : n < 3) : rdr ([] : List Int) [il (cc 0), il (cc 1), il (cc 2)] (n : Int) = il (cc n) := by
  have : n = 0 ∨ n = 1 ∨ n = 2 := by omega
  rcases this with rfl | rfl | rfl <;> rfl
def rd10 (s : Nat) (a b : List Nat) : List Nat := mixN (layN s (xorN a b))
theorem rd10_ok (s : Nat) (a b : List Nat) : (rd10 s a b).length = 16 ∧ ∀ x ∈ rd10 s a b, x < 256 := ⟨mixN_length _, mixN_lt (layN_lt _ _)⟩
def Ok16 (a : List Nat) : Prop := a.length = 16 ∧ ∀ x ∈ a, x < 256
theorem Ok16.xor {a b : List Nat} (h1 : Ok16 a) (h2 : Ok16 b) : Ok16 (xorN a b) := ⟨xorN_length _ _, xorN_lt h1.2 h2.2⟩
theorem turn10 {a b : List Nat} (h1 : Ok16 a) (h2 : Ok16 b) {n : Int} {s : Nat} (hs : I64 (2 * (I64 (n - 1))) = (s : Int)) (hs2 : s < 4) {k : Nat} (hk : 300 ≤ k) : aria_boxes_turn.f k tabs n (il a) (il b) = some (il (rd10 s a b)) := by
  have hx := h1.xor h2
  unfold aria_boxes_turn.f
  rw [xor16 h1.1 h2.1 h1.2 h2.2 (by omega), Option.bind_some]
  show (aria_boxes_layer.f k tabs n (il (xorN a b))).bind _ = _
  rw [lay_eq hx.1 hx.2 hs hs2 (by omega), Option.bind_some, mix_eq (layN_length _ _) (layN_lt _ _) hk, Option.bind_some]; rfl
theorem s1 : I64 (2 * (I64 ((1 : Int) - 1))) = ((0 : Nat) : Int) := by decide
theorem s2 : I64 (2 * (I64 ((2 : Int) - 1))) = ((2 : Nat) : Int) := by decide
def sel (w0 w1 w2 w3 : List Nat) (i : Nat) : List Nat := if i = 0 then w0 else if i = 1 then w1 else if i = 2 then w2 else w3
def vv (i : Nat) : Int := rd ([(-19), (-31), 61, 31, 19] : List Int) ((i / 4 : Nat) : Int)
def kk (w0 w1 w2 w3 : List Nat) (i : Nat) : List Nat := xorN (sel w0 w1 w2 w3 (i % 4)) (turnN (sel w0 w1 w2 w3 ((i + 1) % 4)) (vv i))
def ks (w0 w1 w2 w3 : List Nat) (n : Nat) : List (List Int) := (List.range n).map fun i => il (kk w0 w1 w2 w3 i)
theorem ks_succ (w0 w1 w2 w3 : List Nat) (n : Nat) : ks w0 w1 w2 w3 n ++ [il (kk w0 w1 w2 w3 n)] = ks w0 w1 w2 w3 (n + 1) := by simp [ks, List.range_succ]
theorem ks_length (w0 w1 w2 w3 : List Nat) (n : Nat) : (ks w0 w1 w2 w3 n).length = n := by simp [ks]
theorem sel_ok {w0 w1 w2 w3 : List Nat} (h0 : Ok16 w0) (h1 : Ok16 w1) (h2 : Ok16 w2) (h3 : Ok16 w3) (i : Nat) : Ok16 (sel w0 w1 w2 w3 i) := by
  unfold sel; split
  · exact h0
  split
  · exact h1
  split
  · exact h2
  · exact h3
theorem sel_row (w0 w1 w2 w3 : List Nat) {i : Nat} (hi : i < 4) : rdr ([] : List Int) [il w0, il w1, il w2, il w3] (i : Int) = il (sel w0 w1 w2 w3 i) := by
  have : i = 0 ∨ i = 1 ∨ i = 2 ∨ i = 3 := by omega
  rcases this with rfl | rfl | rfl | rfl <;> rfl
theorem turn_ok {l : List Nat} (h : Ok16 l) (v : Int) : Ok16 (turnN l v) := ⟨by rw [turnN_length, h.1], turnN_lt h.2 v⟩
theorem kk_ok {w0 w1 w2 w3 : List Nat} (h0 : Ok16 w0) (h1 : Ok16 w1) (h2 : Ok16 w2) (h3 : Ok16 w3) (i : Nat) : Ok16 (kk w0 w1 w2 w3 i) := (sel_ok h0 h1 h2 h3 _).xor (turn_ok (sel_ok h0 h1 h2 h3 _) _)
theorem kl0 {A w0 w1 w2 w3 : List Nat} (hA : ((il A).take (List.replicate 16 (0 : Int)).length ++ (List.replicate 16 (0 : Int)).drop (il A).length) = il w0) (h0 : Ok16 w0) (h1 : Ok16 w1) (h2 : Ok16 w2) (h3 : Ok16 w3) {e : Nat} (he : e < 3) (d : Nat) {k i : Nat} (hk : d + 100 < k) (hi : i + (d + 1) = 13 + 2 * e) :
    aria_boxes_keys.l0 k (il A) (il w1, true) (il w2, true) (il w3, true) (e : Int) (ks w0 w1 w2 w3 i) (i : Int) = some (ks w0 w1 w2 w3 (13 + 2 * e)) := by
  induction d generalizing k i with
  | zero =>
    obtain ⟨k, rfl⟩ : ∃ j, k = j + 1 := ⟨k - 1, by omega⟩
    have a1 : I64 ((i : Int) + 1) = ((i + 1 : Nat) : Int) := I64_nat (n := i + 1) (by omega)
    have t0 : Int.tmod (i : Int) 4 = ((i % 4 : Nat) : Int) := rfl
    have t1 : Int.tmod ((i + 1 : Nat) : Int) 4 = (((i + 1) % 4 : Nat) : Int) := rfl
    have d0 : I64 (Int.tdiv (i : Int) 4) = ((i / 4 : Nat) : Int) := I64_nat (n := i / 4) (by omega)
    have c0 : ∀ z : Nat, decide (0 ≤ (z : Int)) = true := fun z => by rw [decide_eq_true_eq]; omega
    have c4 : ∀ z : Nat, decide (((z % 4 : Nat) : Int) < 4) = true := fun z => by rw [decide_eq_true_eq]; omega
    have c5 : decide (((i / 4 : Nat) : Int) < 5) = true := by rw [decide_eq_true_eq]; omega
    have hs := sel_ok h0 h1 h2 h3 ((i + 1) % 4)
    have hz := sel_ok h0 h1 h2 h3 (i % 4)
    have tn := turn_eq (k := k) hs.2 (by rw [hs.1]; decide) (by rw [hs.1]; omega) (vv i)
    have tk := turn_ok hs (vv i)
    have xr := xor16 hz.1 tk.1 hz.2 tk.2 (k := k) (by omega)
    have cl : decide ((ks w0 w1 w2 w3 i).length + [il (kk w0 w1 w2 w3 i)].length ≤ 1000000000) = true := by rw [decide_eq_true_eq, ks_length]; simp only [List.length_cons, List.length_nil]; omega
    have ee : I64 (13 + I64 (2 * (e : Int))) = ((13 + 2 * e : Nat) : Int) := by
      have : I64 (2 * (e : Int)) = ((2 * e : Nat) : Int) := I64_nat (n := 2 * e) (by omega)
      rw [this]; exact I64_nat (n := 13 + 2 * e) (by omega)
    rw [aria_boxes_keys.l0, a1, t0, t1, d0, if_pos (c0 _), if_pos (c4 _), if_pos (c0 _), if_pos (c4 _), if_pos (c0 _), if_pos c5, hA]
    show (words_Turn.f k (rdr ([] : List Int) [il w0, il w1, il w2, il w3] (((i + 1) % 4 : Nat) : Int)) (vv i)).bind (fun t125 => (words_Xor.f k (rdr ([] : List Int) [il w0, il w1, il w2, il w3] ((i % 4 : Nat) : Int)) t125).bind _) = _
    rw [sel_row _ _ _ _ (Nat.mod_lt _ (by decide)), sel_row _ _ _ _ (Nat.mod_lt _ (by decide)), tn, Option.bind_some, xr, Option.bind_some]
    show (if decide ((ks w0 w1 w2 w3 i).length + [il (kk w0 w1 w2 w3 i)].length ≤ 1000000000) = true then (some (decide (((i + 1 : Nat) : Int) < I64 (13 + I64 (2 * (e : Int)))))).bind (fun y => if y = true then aria_boxes_keys.l0 k (il A) (il w1, true) (il w2, true) (il w3, true) (e : Int) (ks w0 w1 w2 w3 i ++ [il (kk w0 w1 w2 w3 i)]) ((i + 1 : Nat) : Int) else some (ks w0 w1 w2 w3 i ++ [il (kk w0 w1 w2 w3 i)])) else none) = _
    rw [if_pos cl, Option.bind_some, ee, if_neg (by rw [decide_eq_true_eq]; omega), ks_succ, show i + 1 = 13 + 2 * e by omega]
  | succ d ih =>
    obtain ⟨k, rfl⟩ : ∃ j, k = j + 1 := ⟨k - 1, by omega⟩
    have a1 : I64 ((i : Int) + 1) = ((i + 1 : Nat) : Int) := I64_nat (n := i + 1) (by omega)
    have t0 : Int.tmod (i : Int) 4 = ((i % 4 : Nat) : Int) := rfl
    have t1 : Int.tmod ((i + 1 : Nat) : Int) 4 = (((i + 1) % 4 : Nat) : Int) := rfl
    have d0 : I64 (Int.tdiv (i : Int) 4) = ((i / 4 : Nat) : Int) := I64_nat (n := i / 4) (by omega)
    have c0 : ∀ z : Nat, decide (0 ≤ (z : Int)) = true := fun z => by rw [decide_eq_true_eq]; omega
    have c4 : ∀ z : Nat, decide (((z % 4 : Nat) : Int) < 4) = true := fun z => by rw [decide_eq_true_eq]; omega
    have c5 : decide (((i / 4 : Nat) : Int) < 5) = true := by rw [decide_eq_true_eq]; omega
    have hs := sel_ok h0 h1 h2 h3 ((i + 1) % 4)
    have hz := sel_ok h0 h1 h2 h3 (i % 4)
    have tn := turn_eq (k := k) hs.2 (by rw [hs.1]; decide) (by rw [hs.1]; omega) (vv i)
    have tk := turn_ok hs (vv i)
    have xr := xor16 hz.1 tk.1 hz.2 tk.2 (k := k) (by omega)
    have cl : decide ((ks w0 w1 w2 w3 i).length + [il (kk w0 w1 w2 w3 i)].length ≤ 1000000000) = true := by rw [decide_eq_true_eq, ks_length]; simp only [List.length_cons, List.length_nil]; omega
    have ee : I64 (13 + I64 (2 * (e : Int))) = ((13 + 2 * e : Nat) : Int) := by
      have : I64 (2 * (e : Int)) = ((2 * e : Nat) : Int) := I64_nat (n := 2 * e) (by omega)
      rw [this]; exact I64_nat (n := 13 + 2 * e) (by omega)
    rw [aria_boxes_keys.l0, a1, t0, t1, d0, if_pos (c0 _), if_pos (c4 _), if_pos (c0 _), if_pos (c4 _), if_pos (c0 _), if_pos c5, hA]
    show (words_Turn.f k (rdr ([] : List Int) [il w0, il w1, il w2, il w3] (((i + 1) % 4 : Nat) : Int)) (vv i)).bind (fun t125 => (words_Xor.f k (rdr ([] : List Int) [il w0, il w1, il w2, il w3] ((i % 4 : Nat) : Int)) t125).bind _) = _
    rw [sel_row _ _ _ _ (Nat.mod_lt _ (by decide)), sel_row _ _ _ _ (Nat.mod_lt _ (by decide)), tn, Option.bind_some, xr, Option.bind_some]
    show (if decide ((ks w0 w1 w2 w3 i).length + [il (kk w0 w1 w2 w3 i)].length ≤ 1000000000) = true then (some (decide (((i + 1 : Nat) : Int) < I64 (13 + I64 (2 * (e : Int)))))).bind (fun y => if y = true then aria_boxes_keys.l0 k (il A) (il w1, true) (il w2, true) (il w3, true) (e : Int) (ks w0 w1 w2 w3 i ++ [il (kk w0 w1 w2 w3 i)]) ((i + 1 : Nat) : Int) else some (ks w0 w1 w2 w3 i ++ [il (kk w0 w1 w2 w3 i)])) else none) = _
    rw [if_pos cl, Option.bind_some, ee, if_pos (by rw [decide_eq_true_eq]; omega), ks_succ]
    exact ih (by omega) (by omega)
theorem il_take' (a : List Nat) (n : Nat) : (il a).take n = il (a.take n) := by simp [il, List.map_take]
theorem il_drop' (a : List Nat) (n : Nat) : (il a).drop n = il (a.drop n) := by simp [il, List.map_drop]
theorem il_app' (a b : List Nat) : il a ++ il b = il (a ++ b) := by simp [il]
def krN (l : List Nat) (e : Nat) : List Nat := l.drop 16 ++ List.replicate (16 - 8 * e) 0
theorem keys_two {l : List Nat} (hl : ∀ x ∈ l, x < 256) {e : Nat} (he : e < 3) (hlen : l.length = 16 + 8 * e) {k : Nat} (hk : 900 ≤ k) : ∃ w0 w1 w2 w3, Ok16 w0 ∧ Ok16 w1 ∧ Ok16 w2 ∧ Ok16 w3 ∧ aria_boxes_keys.f k tabs (il l) = some (ks w0 w1 w2 w3 (13 + 2 * e)) := by
  have o0 : Ok16 (l.take 16) := ⟨by rw [List.length_take]; omega, fun x hx => hl x (List.mem_of_mem_take hx)⟩
  have oR : Ok16 (krN l e) := ⟨by unfold krN; rw [List.length_append, List.length_drop, List.length_replicate]; omega, fun x hx => by
    unfold krN at hx
    rcases List.mem_append.1 hx with hx | hx
    · exact hl x (List.mem_of_mem_drop hx)
    · rw [List.eq_of_mem_replicate hx]; decide⟩
  have full : (il l).take (((il l).length : Int) : Int).toNat = il l := by rw [Int.toNat_natCast, List.take_length]
  have d16 : (il l).drop (16 : Int).toNat = il (l.drop 16) := il_drop' l 16
  have fA : ((il l).take (List.replicate 16 (0 : Int)).length ++ (List.replicate 16 (0 : Int)).drop (il l).length) = il (l.take 16) := by
    rw [List.length_replicate, il_take', List.drop_of_length_le (by rw [List.length_replicate, il_length]; omega), List.append_nil]
  have fB : ((((il l).take (((il l).length : Int) : Int).toNat).drop (16 : Int).toNat).take (List.replicate 16 (0 : Int)).length ++ (List.replicate 16 (0 : Int)).drop (((il l).take (((il l).length : Int) : Int).toNat).drop (16 : Int).toNat).length) = il (krN l e) := by
    rw [full, d16, List.length_replicate, List.take_of_length_le (by rw [il_length, List.length_drop]; omega), List.drop_replicate, il_length, List.length_drop, il_replicate, il_app']
    unfold krN
    rw [show 16 - (l.length - 16) = 16 - 8 * e by omega]
  have ey : I64 (Int.tdiv (I64 (((il l).length : Int) - 16)) 8) = (e : Int) := by
    have : I64 (((il l).length : Int) - 16) = ((8 * e : Nat) : Int) := by rw [il_length, hlen, I64_id (by omega) (by omega)]; omega
    rw [this]
    have t : Int.tdiv ((8 * e : Nat) : Int) 8 = ((8 * e / 8 : Nat) : Int) := rfl
    rw [t, show 8 * e / 8 = e by omega]; exact I64_nat (by omega)
  have g0 : I64 (0 + (e : Int)) = ((e : Nat) : Int) := by rw [I64_id (by omega) (by omega)]; omega
  have g1 : I64 (1 + (e : Int)) = ((e + 1 : Nat) : Int) := by rw [I64_id (by omega) (by omega)]; omega
  have g2 : I64 (2 + (e : Int)) = ((e + 2 : Nat) : Int) := by rw [I64_id (by omega) (by omega)]; omega
  have t3 : ∀ z : Nat, Int.tmod (z : Int) 3 = ((z % 3 : Nat) : Int) := fun z => rfl
  have z0 : ∀ z : Nat, decide (0 ≤ (z : Int)) = true := fun z => by rw [decide_eq_true_eq]; omega
  have z3 : ∀ z : Nat, decide (((z % 3 : Nat) : Int) < 3) = true := fun z => by rw [decide_eq_true_eq]; omega
  have c16 : decide (16 ≤ ((il l).length : Int)) = true := by rw [decide_eq_true_eq, il_length, hlen]; omega
  have oc := fun n => (show Ok16 (cc n) from cc_ok n)
  have row := fun (n : Nat) => three_row (Nat.mod_lt n (by decide : 0 < 3))
  -- the words
  have T1 := turn10 o0 (oc (e % 3)) s1 (by decide) (k := k) (by omega)
  have oT1 : Ok16 (rd10 0 (l.take 16) (cc (e % 3))) := rd10_ok _ _ _
  have X1 := xor16 oT1.1 oR.1 oT1.2 oR.2 (k := k) (by omega)
  have o1 := oT1.xor oR
  generalize xorN (rd10 0 (l.take 16) (cc (e % 3))) (krN l e) = w1 at *
  have T2 := turn10 o1 (oc ((e + 1) % 3)) s2 (by decide) (k := k) (by omega)
  have oT2 : Ok16 (rd10 2 w1 (cc ((e + 1) % 3))) := rd10_ok _ _ _
  have X2 := xor16 oT2.1 o0.1 oT2.2 o0.2 (k := k) (by omega)
  have o2 := oT2.xor o0
  generalize xorN (rd10 2 w1 (cc ((e + 1) % 3))) (l.take 16) = w2 at *
  have T3 := turn10 o2 (oc ((e + 2) % 3)) s1 (by decide) (k := k) (by omega)
  have oT3 : Ok16 (rd10 0 w2 (cc ((e + 2) % 3))) := rd10_ok _ _ _
  have X3 := xor16 oT3.1 o1.1 oT3.2 o1.2 (k := k) (by omega)
  have o3 := oT3.xor o1
  generalize xorN (rd10 0 w2 (cc ((e + 2) % 3))) w1 = w3 at *
  refine ⟨l.take 16, w1, w2, w3, o0, o1, o2, o3, ?_⟩
  · have fin := kl0 fA o0 o1 o2 o3 he (12 + 2 * e) (k := k) (i := 0) (by omega) (by omega)
    unfold aria_boxes_keys.f
    rw [ey, Option.bind_some, three_eq (by omega), Option.bind_some, if_pos c16, g0, g1, g2, t3, t3, t3, if_pos (z0 _), if_pos (z3 _), row, row, row, fA, fB, T1, Option.bind_some, X1, Option.bind_some, if_pos (z0 _), if_pos (z3 _)]
    show (aria_boxes_turn.f k tabs 2 (il w1) (il (cc ((e + 1) % 3)))).bind _ = _
    rw [T2, Option.bind_some, X2, Option.bind_some, if_pos (z0 _), if_pos (z3 _)]
    show (aria_boxes_turn.f k tabs 1 (il w2) (il (cc ((e + 2) % 3)))).bind _ = _
    rw [T3, Option.bind_some]
    show (words_Xor.f k (il (rd10 0 w2 (cc ((e + 2) % 3)))) (il w1)).bind _ = _
    rw [X3, Option.bind_some]
    exact fin
theorem fits_len {l : List Nat} {k : Nat} : aria_fits.f k (il l) = some (decide (l.length = 16 ∨ l.length = 24 ∨ l.length = 32)) := by
  unfold aria_fits.f
  rw [il_length]
  have t8 : Int.tmod (l.length : Int) 8 = ((l.length % 8 : Nat) : Int) := rfl
  by_cases h1 : 16 ≤ l.length
  · rw [if_pos (by rw [decide_eq_true_eq]; omega)]
    by_cases h2 : l.length ≤ 32
    · rw [if_pos (by rw [decide_eq_true_eq]; omega), t8]
      congr 1
      rw [Bool.eq_iff_iff, beq_iff_eq, decide_eq_true_eq]; omega
    · rw [if_neg (by rw [decide_eq_true_eq]; omega), decide_eq_false (by omega)]
  · rw [if_neg (by rw [decide_eq_true_eq]; omega), decide_eq_false (by omega)]
end Go.Scr.S
