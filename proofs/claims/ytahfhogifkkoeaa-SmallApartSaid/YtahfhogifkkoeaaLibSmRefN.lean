/- The plain law of SmRefN. -/
import Derived.Test.YtahfhogifkkoeaaFnSmallApart
import Derived.Test.YtahfhogifkkoeaaLibNum
import Derived.Test.YtahfhogifkkoeaaLibIl
import Derived.Test.YtahfhogifkkoeaaLibGRest
import Derived.Test.YtahfhogifkkoeaaLibGRol
import Derived.Test.YtahfhogifkkoeaaLibGRRol
import Derived.Test.YtahfhogifkkoeaaLibSmNum
import Derived.Test.YtahfhogifkkoeaaLibSmRol
import Derived.Test.YtahfhogifkkoeaaLibGLoad
import Derived.Test.YtahfhogifkkoeaaLibFill
import Derived.Test.YtahfhogifkkoeaaLibGIl
import Derived.Test.YtahfhogifkkoeaaLibGStore
import Derived.Test.YtahfhogifkkoeaaLibSmWords
import Derived.Test.YtahfhogifkkoeaaLibSmX
import Derived.Test.YtahfhogifkkoeaaLibSmR5
set_option linter.unusedVariables false
set_option linter.unusedSimpArgs false
set_option linter.unnecessarySimpa false
namespace Go.Scr.S
theorem rbig_l0 : ∀ (k : Nat) (l : List Int) (v i : Int), scrimref1_Big.l0 k l v i = words_load.l0 k l v i
  | 0, _, _, _ => rfl
  | k + 1, l, v, i => by simp only [scrimref1_Big.l0, words_load.l0, rbig_l0 k]
theorem rbig_eq {l : List Nat} {k : Nat} (hl : ∀ x ∈ l, x < 256) (h8 : l.length ≤ 8) (hk : 8 < k) : scrimref1_Big.f k (il l) = some ((bigN l : Nat) : Int) := by
  unfold scrimref1_Big.f; rw [rbig_l0]; exact load_eq hl h8 hk
theorem rlit4 {k : Nat} (a b c d : Int) (hk : 20 ≤ k) : scrimref1_Little.f k [a, b, c, d] = words_load.f k [d, c, b, a] := by
  obtain ⟨j, rfl⟩ : ∃ j, k = j + 20 := ⟨k - 20, by omega⟩
  kernel_rfl
theorem chunk_b (b : Bool) : ∀ (n : Nat) (l : List Nat) (j : Nat), l.length = 4 * n → j < n → ∃ x y z w, (l.take (4 * j + 4)).drop (4 * j) = [x, y, z, w] ∧ (W b l).getD j 0 = if b then bigN [w, z, y, x] else bigN [x, y, z, w]
  | 0, _, _, _, h => by omega
  | n + 1, l, j, h, hj => by
    obtain ⟨x, y, z, w, r, rfl, hr⟩ := four h
    match j with
    | 0 => exact ⟨x, y, z, w, by simp, by simp [W]⟩
    | j + 1 =>
      obtain ⟨x', y', z', w', q1, q2⟩ := chunk_b b n r j hr (by omega)
      have e1 : (W b (x :: y :: z :: w :: r)).getD (j + 1) 0 = (W b r).getD j 0 := by rw [W, List.getD_cons_succ]
      have e2 : (x :: y :: z :: w :: r).drop (4 * (j + 1)) = r.drop (4 * j) := by
        rw [show 4 * (j + 1) = 4 + 4 * j by omega, ← List.drop_drop]; rfl
      refine ⟨x', y', z', w', ?_, by rw [e1, q2]⟩
      rw [← q1, List.drop_take, List.drop_take, e2, show 4 * (j + 1) + 4 - 4 * (j + 1) = 4 by omega, show 4 * j + 4 - 4 * j = 4 by omega]
theorem take_snoc (l : List Nat) {j : Nat} (h : j < l.length) : l.take j ++ [l.getD j 0] = l.take (j + 1) := by
  rw [List.take_succ_eq_append_getElem h, List.getD_eq_getElem?_getD, List.getElem?_eq_getElem h]; rfl
theorem rb_l0 {m : List Nat} {n : Nat} (h : m.length = 4 * n) (hn : n < 100) (hm : ∀ x ∈ m, x < 256) (d : Nat) {k j : Nat} (hk : d + 20 < k) (hi : j + d = n) :
    scrimref8_big.l0 k (il m) (il ((W false m).take j)) ((4 * j : Nat) : Int) = some (il (W false m)) := by
  have wl := W_length false n m h
  induction d generalizing k j with
  | zero =>
    obtain ⟨k, rfl⟩ : ∃ j, k = j + 1 := ⟨k - 1, by omega⟩
    rw [scrimref8_big.l0, if_neg (by rw [decide_eq_true_eq, il_length]; omega), List.take_of_length_le (by omega)]
  | succ d ih =>
    obtain ⟨k, rfl⟩ : ∃ j, k = j + 1 := ⟨k - 1, by omega⟩
    obtain ⟨x, y, z, w, q1, q2⟩ := chunk_b false n m j h (by omega)
    have hmem : ∀ v ∈ [x, y, z, w], v < 256 := fun v hv => by rw [← q1] at hv; exact hm v (List.mem_of_mem_take (List.mem_of_mem_drop hv))
    have a1 : I64 (((4 * j : Nat) : Int) + 4) = ((4 * j + 4 : Nat) : Int) := I64_nat (n := 4 * j + 4) (by omega)
    have b := rbig_eq (l := [x, y, z, w]) (k := k) hmem (by simp) (by omega)
    have q2' : (W false m).getD j 0 = bigN [x, y, z, w] := q2
    have u : U32 (((W false m).getD j 0 : Nat) : Int) = (((W false m).getD j 0 : Nat) : Int) := by rw [U32_nat, Nat.mod_eq_of_lt (getW (W_lt false n m h hm) j)]
    rw [scrimref8_big.l0, if_pos (by rw [decide_eq_true_eq, il_length]; omega), a1, if_pos (by rw [decide_eq_true_eq]; omega), if_pos (by rw [decide_eq_true_eq]; omega), if_pos (by rw [decide_eq_true_eq, il_length]; omega), Int.toNat_natCast, Int.toNat_natCast, il_take, il_drop, q1, b, Option.bind_some, ← q2', u, if_pos (by rw [decide_eq_true_eq, il_length, List.length_take]; simp only [List.length_cons, List.length_nil]; omega)]
    have e : il ((W false m).take j) ++ [(((W false m).getD j 0 : Nat) : Int)] = il ((W false m).take (j + 1)) := by
      rw [← take_snoc (W false m) (by omega : j < (W false m).length), il_append]; rfl
    rw [e]
    exact ih (j := j + 1) (by omega) (by omega)
theorem rbigs {m : List Nat} {n : Nat} (h : m.length = 4 * n) (hn : n < 100) (hm : ∀ x ∈ m, x < 256) {k : Nat} (hk : 130 ≤ k) : scrimref8_big.f k (il m) = some (il (W false m)) := by
  unfold scrimref8_big.f
  exact rb_l0 h hn hm n (j := 0) (by omega) (by omega)
theorem rl_l0 {m : List Nat} {n : Nat} (h : m.length = 4 * n) (hn : n < 100) (hm : ∀ x ∈ m, x < 256) (d : Nat) {k j : Nat} (hk : d + 20 < k) (hi : j + d = n) :
    scrimref8_little.l0 k (il m) (il ((W true m).take j)) ((4 * j : Nat) : Int) = some (il (W true m)) := by
  have wl := W_length true n m h
  induction d generalizing k j with
  | zero =>
    obtain ⟨k, rfl⟩ : ∃ j, k = j + 1 := ⟨k - 1, by omega⟩
    rw [scrimref8_little.l0, if_neg (by rw [decide_eq_true_eq, il_length]; omega), List.take_of_length_le (by omega)]
  | succ d ih =>
    obtain ⟨k, rfl⟩ : ∃ j, k = j + 1 := ⟨k - 1, by omega⟩
    obtain ⟨x, y, z, w, q1, q2⟩ := chunk_b true n m j h (by omega)
    have hmem : ∀ v ∈ [x, y, z, w], v < 256 := fun v hv => by rw [← q1] at hv; exact hm v (List.mem_of_mem_take (List.mem_of_mem_drop hv))
    have a1 : I64 (((4 * j : Nat) : Int) + 4) = ((4 * j + 4 : Nat) : Int) := I64_nat (n := 4 * j + 4) (by omega)
    have b0 := load_eq (l := [w, z, y, x]) (k := k) (fun v hv => hmem v (by simp at hv ⊢; omega)) (by simp) (by omega)
    have b : scrimref1_Little.f k (il [x, y, z, w]) = some ((bigN [w, z, y, x] : Nat) : Int) := (rlit4 _ _ _ _ (by omega)).trans b0
    have q2' : (W true m).getD j 0 = bigN [w, z, y, x] := q2
    have u : U32 (((W true m).getD j 0 : Nat) : Int) = (((W true m).getD j 0 : Nat) : Int) := by rw [U32_nat, Nat.mod_eq_of_lt (getW (W_lt true n m h hm) j)]
    rw [scrimref8_little.l0, if_pos (by rw [decide_eq_true_eq, il_length]; omega), a1, if_pos (by rw [decide_eq_true_eq]; omega), if_pos (by rw [decide_eq_true_eq]; omega), if_pos (by rw [decide_eq_true_eq, il_length]; omega), Int.toNat_natCast, Int.toNat_natCast, il_take, il_drop, q1, b, Option.bind_some, ← q2', u, if_pos (by rw [decide_eq_true_eq, il_length, List.length_take]; simp only [List.length_cons, List.length_nil]; omega)]
    have e : il ((W true m).take j) ++ [(((W true m).getD j 0 : Nat) : Int)] = il ((W true m).take (j + 1)) := by
      rw [← take_snoc (W true m) (by omega : j < (W true m).length), il_append]; rfl
    rw [e]
    exact ih (j := j + 1) (by omega) (by omega)
theorem rlits {m : List Nat} {n : Nat} (h : m.length = 4 * n) (hn : n < 100) (hm : ∀ x ∈ m, x < 256) {k : Nat} (hk : 130 ≤ k) : scrimref8_little.f k (il m) = some (il (W true m)) := by
  unfold scrimref8_little.f
  exact rl_l0 h hn hm n (j := 0) (by omega) (by omega)
theorem rrolP {a z k : Nat} (ha : a < 4294967296) : scrimref1_Rol32.f k (a : Int) ((z % 32 : Nat) : Int) = some ((rolN a (z % 32) : Nat) : Int) := by
  rw [rrol32_eq ha, em32]
theorem rd_set {l : List Nat} {i v : Nat} (h : i < l.length) : (l.set i v).getD i 0 = v := by
  rw [List.getD_eq_getElem?_getD, List.getElem?_set_self h]; rfl
theorem str_l1 {L0 S0 : List Nat} (h4 : L0.length = 4) (h26 : S0.length = 26) (d : Nat) {k i : Nat} {L S : List Nat} {A B : Nat} (hk : d + 20 < k) (hi : i + d = 78) (lL : L.length = 4) (lS : S.length = 26) :
    scrimref8_stretched.l1 k (il L0) (il S0) (il L) (il S) (A : Int) (B : Int) (i : Int) = some (il (mx d i L S A B)) := by
  induction d generalizing k i L S A B with
  | zero =>
    obtain ⟨k, rfl⟩ : ∃ j, k = j + 1 := ⟨k - 1, by omega⟩
    rw [scrimref8_stretched.l1, if_neg (by rw [decide_eq_true_eq]; omega)]; rfl
  | succ d ih =>
    obtain ⟨k, rfl⟩ : ∃ j, k = j + 1 := ⟨k - 1, by omega⟩
    have eL : ((il L0).length : Int) = 4 := by rw [il_length, h4]; rfl
    have eS : ((il S0).length : Int) = 26 := by rw [il_length, h26]; rfl
    have t26 : Int.tmod (i : Int) 26 = ((i % 26 : Nat) : Int) := rfl
    have t4 : Int.tmod (i : Int) 4 = ((i % 4 : Nat) : Int) := rfl
    have a2 : I64 ((i : Int) + 1) = ((i + 1 : Nat) : Int) := I64_nat (n := i + 1) (by omega)
    have c0 : ∀ z : Nat, decide (0 ≤ (z : Int)) = true := fun z => by rw [decide_eq_true_eq]; omega
    have c26 : decide (((i % 26 : Nat) : Int) < 26) = true := by rw [decide_eq_true_eq]; omega
    have c4 : decide (((i % 4 : Nat) : Int) < 4) = true := by rw [decide_eq_true_eq]; omega
    have r3 : scrimref1_Rol32.f k ((wa (wa (S.getD (i % 26) 0) A) B : Nat) : Int) 3 = some ((mA S i A B : Nat) : Int) := rrol32_eq (wa_lt _ _) 3
    have r4 : scrimref1_Rol32.f k ((wa (wa (L.getD (i % 4) 0) (mA S i A B)) B : Nat) : Int) ((wa (mA S i A B) B % 32 : Nat) : Int) = some ((mB L i (mA S i A B) B : Nat) : Int) := rrolP (wa_lt _ _)
    have s1 : rd (il (S.set (i % 26) (mA S i A B))) ((i % 26 : Nat) : Int) = ((mA S i A B : Nat) : Int) := by rw [il_rd', rd_set (by omega)]
    have s2 : rd (il (L.set (i % 4) (mB L i (mA S i A B) B))) ((i % 4 : Nat) : Int) = ((mB L i (mA S i A B) B : Nat) : Int) := by rw [il_rd', rd_set (by omega)]
    rw [scrimref8_stretched.l1, eL, eS, t26, t4, if_pos (by rw [decide_eq_true_eq]; omega), if_pos (c0 _), if_pos c26, il_rd', U32_add, U32_add, Option.bind_some, r3, Option.bind_some, if_pos (c0 _), if_pos c26, if_pos (c0 _), if_pos c26, Int.toNat_natCast, Int.toNat_natCast, il_set, s1, Option.bind_some, if_pos (c0 _), if_pos c4, il_rd', U32_add, U32_add, Option.bind_some, U32_add, tm32, r4, Option.bind_some, if_pos (c0 _), if_pos c4, if_pos (c0 _), if_pos c4, il_set, s2, Option.bind_some, a2, mx_succ]
    exact ih (by omega) (by omega) (by rw [List.length_set]; exact lL) (by rw [List.length_set]; exact lS)
theorem str_l0 {L0 : List Nat} (h4 : L0.length = 4) (d : Nat) {k i : Nat} (hk : d + 120 < k) (hi : i + d = 26) :
    scrimref8_stretched.l0 k (il L0) (il (pl i)) (i : Int) = some (il (mx 78 0 L0 (pl 26) 0 0)) := by
  induction d generalizing k i with
  | zero =>
    obtain ⟨k, rfl⟩ : ∃ j, k = j + 1 := ⟨k - 1, by omega⟩
    have : i = 26 := by omega
    subst this
    rw [scrimref8_stretched.l0, if_neg (by decide)]
    generalize hP : pl 26 = P
    exact str_l1 (L0 := L0) (S0 := P) h4 (by rw [← hP, pl_length]) 78 (i := 0) (L := L0) (S := P) (A := 0) (B := 0) (by omega) (by omega) h4 (by rw [← hP, pl_length])
  | succ d ih =>
    obtain ⟨k, rfl⟩ : ∃ j, k = j + 1 := ⟨k - 1, by omega⟩
    have a2 : I64 ((i : Int) + 1) = ((i + 1 : Nat) : Int) := I64_nat (n := i + 1) (by omega)
    have e2 : U32 (3084996963 + (U32 ((U32 (i : Int)) * 2654435769))) = ((c5 i : Nat) : Int) := by
      rw [U32_nat, Nat.mod_eq_of_lt (by omega), U32_emod, U32_emod]; unfold c5; omega
    have e3 : il (pl i) ++ [((c5 i : Nat) : Int)] = il (pl (i + 1)) := by rw [pl_succ i, il_append]; rfl
    rw [scrimref8_stretched.l0, if_pos (by rw [decide_eq_true_eq]; omega), e2, Option.bind_some, if_pos (by rw [decide_eq_true_eq, il_length, pl_length]; simp only [List.length_cons, List.length_nil]; omega), e3, a2]
    exact ih (by omega) (by omega)
theorem str_eq {m : List Nat} (h : m.length = 16) (hm : ∀ x ∈ m, x < 256) {k : Nat} (hk : 200 ≤ k) : scrimref8_stretched.f k (il m) = some (il (s5 (W true m))) := by
  unfold scrimref8_stretched.f
  rw [rlits (n := 4) (by omega) (by decide) hm (by omega), Option.bind_some]
  exact str_l0 (W_length true 4 m h) 26 (i := 0) (by omega) (by omega)
theorem rnew4 {m : List Nat} (h : m.length = 16) (hm : ∀ x ∈ m, x < 256) {k : Nat} (hk : 200 ≤ k) : scrimref8_New.f k 4 (il m) = some (some (4, il (W false m)), 0) := by
  have l := rbigs (n := 4) (k := k) (by omega) (by decide) hm (by omega)
  unfold scrimref8_New.f
  rw [if_pos (by decide), if_neg (by rw [il_length, h]; decide), if_neg (by decide), l, Option.bind_some]
theorem rnew5 {m : List Nat} (h : m.length = 32) (hm : ∀ x ∈ m, x < 256) {k : Nat} (hk : 200 ≤ k) : scrimref8_New.f k 5 (il m) = some (some (5, il (W false m)), 0) := by
  have l := rbigs (n := 8) (k := k) (by omega) (by decide) hm (by omega)
  unfold scrimref8_New.f
  rw [if_neg (by decide), if_neg (by decide), if_pos (by decide), if_neg (by rw [il_length, h]; decide), if_neg (by decide), l, Option.bind_some]
theorem rnew8 {m : List Nat} (h : m.length = 16) (hm : ∀ x ∈ m, x < 256) {k : Nat} (hk : 200 ≤ k) : scrimref8_New.f k 8 (il m) = some (some (8, il (s5 (W true m))), 0) := by
  have l := str_eq h hm hk
  unfold scrimref8_New.f
  rw [if_neg (by decide), if_pos (by decide), if_neg (by rw [il_length, h]; decide), if_pos (by decide), l, Option.bind_some]
end Go.Scr.S
