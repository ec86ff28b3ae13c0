/- The plain law of TwB. -/
import Derived.Test.YtngagagokcnnaaaFnTwofishRounds
import Derived.Test.YtngagagokcnnaaaLibNum
import Derived.Test.YtngagagokcnnaaaLibGf
import Derived.Test.YtngagagokcnnaaaLibFieldMu0
import Derived.Test.YtngagagokcnnaaaLibIl
import Derived.Test.YtngagagokcnnaaaLibGLoad
import Derived.Test.YtngagagokcnnaaaLibFill
import Derived.Test.YtngagagokcnnaaaLibGIl
import Derived.Test.YtngagagokcnnaaaLibGStore
import Derived.Test.YtngagagokcnnaaaLibGXor
import Derived.Test.YtngagagokcnnaaaLibTwQ
import Derived.Test.YtngagagokcnnaaaLibTwH
import Derived.Test.YtngagagokcnnaaaLibTwM
import Derived.Test.YtngagagokcnnaaaLibTwF
import Derived.Test.YtngagagokcnnaaaLibGRest
import Derived.Test.YtngagagokcnnaaaLibGRol
import Derived.Test.YtngagagokcnnaaaLibSmNum
import Derived.Test.YtngagagokcnnaaaLibTwKP
set_option linter.unusedVariables false
set_option linter.unusedSimpArgs false
set_option linter.unnecessarySimpa false
namespace Go.Scr.S
/-- A block's words. -/
def bpw (P : List Nat) (j : Nat) : Nat := bigN ((P.drop (4 * j)).take 4).reverse
def W4 (x : List Nat) : Prop := x.length = 4 ∧ ∀ v ∈ x, v < 4294967296
theorem W4.at {x : List Nat} (h : W4 x) (j : Nat) : x.getD j 0 < 4294967296 := getW h.2 j
theorem W4.set {x : List Nat} (h : W4 x) (j : Nat) {v : Nat} (hv : v < 4294967296) : W4 (x.set j v) := ⟨by rw [List.length_set]; exact h.1, fun y hy => by
  rcases List.mem_or_eq_of_mem_set hy with hy | rfl
  · exact h.2 y hy
  · exact hv⟩
theorem W4.four {x : List Nat} (h : W4 x) : ∃ a b c d, x = [a, b, c, d] := by
  obtain ⟨hl, _⟩ := h
  match x, hl with
  | [a, b, c, d], _ => exact ⟨a, b, c, d, rfl⟩
theorem W4.mk {a b c d : Nat} (ha : a < 4294967296) (hb : b < 4294967296) (hc : c < 4294967296) (hd : d < 4294967296) : W4 [a, b, c, d] := ⟨rfl, fun v hv => by
  simp only [List.mem_cons, List.not_mem_nil, or_false] at hv
  rcases hv with rfl | rfl | rfl | rfl <;> assumption⟩
theorem dt' (l : List Nat) (i n : Nat) : ((il l).take (i + n)).drop i = il ((l.drop i).take n) := by
  rw [il_take, il_drop, List.drop_take]; congr 2; omega
theorem pb_ok {P : List Nat} (hl : P.length = 16) (hb : ∀ v ∈ P, v < 256) {j : Nat} (hj : j < 4) : B4 ((P.drop (4 * j)).take 4) :=
  ⟨by rw [List.length_take, List.length_drop, hl]; omega, fun v hv => hb v (List.mem_of_mem_drop (List.mem_of_mem_take hv))⟩
theorem bpw_lt {P : List Nat} (hl : P.length = 16) (hb : ∀ v ∈ P, v < 256) {j : Nat} (hj : j < 4) : bpw P j < 4294967296 := by
  have o := pb_ok hl hb hj
  have h := bigN_lt ((P.drop (4 * j)).take 4).reverse (fun x hx => o.2 x (by simpa using hx))
  rw [List.length_reverse, o.1] at h
  exact h
theorem b_s {a0 : List Int × List Int} {P : List Nat} (hl : P.length = 16) (hb : ∀ v ∈ P, v < 256) {x : List Nat} {j k : Nat} (hj : j < 4) (hk : 20 ≤ k) :
    twofish_Twofish_Block.l0 (k + 1) a0 (il P) false (il x) (j : Int) = twofish_Twofish_Block.l0 k a0 (il P) false (il (x.set j (bpw P j))) ((j + 1 : Nat) : Int) := by
  have c0 : ∀ z : Nat, decide (0 ≤ (z : Int)) = true := fun z => by rw [decide_eq_true_eq]; omega
  have c1 : decide ((j : Int) < 4) = true := by rw [decide_eq_true_eq]; omega
  have a0' : I64 (4 * (j : Int)) = ((4 * j : Nat) : Int) := I64_nat (n := 4 * j) (by omega)
  have a2 : I64 ((j : Int) + 1) = ((j + 1 : Nat) : Int) := I64_nat (n := j + 1) (by omega)
  have a3 : I64 (4 * ((j + 1 : Nat) : Int)) = ((4 * j + 4 : Nat) : Int) := I64_nat (n := 4 * j + 4) (by omega)
  have e : ((il P).take (((4 * j + 4 : Nat) : Int)).toNat).drop (((4 * j : Nat) : Int)).toNat = il ((P.drop (4 * j)).take 4) := by rw [Int.toNat_natCast, Int.toNat_natCast, dt']
  rw [twofish_Twofish_Block.l0, if_pos c1, a0', a2, a3, if_pos (c0 _), if_pos (by rw [decide_eq_true_eq]; omega), if_pos (by rw [decide_eq_true_eq, il_length, hl]; omega), e, le4 (pb_ok hl hb hj) (by omega), Option.bind_some, if_pos (c0 _), if_pos c1, Int.toNat_natCast, il_set]
  rfl
def bpws (P : List Nat) : List Nat := [bpw P 0, bpw P 1, bpw P 2, bpw P 3]
theorem bpws_ok {P : List Nat} (hl : P.length = 16) (hb : ∀ v ∈ P, v < 256) : W4 (bpws P) := W4.mk (bpw_lt hl hb (j := 0) (by omega)) (bpw_lt hl hb (j := 1) (by omega)) (bpw_lt hl hb (j := 2) (by omega)) (bpw_lt hl hb (j := 3) (by omega))
theorem b_l0 {a0 : List Int × List Int} {P : List Nat} (hl : P.length = 16) (hb : ∀ v ∈ P, v < 256) {k : Nat} (hk : 20 ≤ k) :
    twofish_Twofish_Block.l0 (k + 5) a0 (il P) false (List.replicate 4 (0 : Int)) 0 = (twofish_Twofish_white.f k a0 (il (bpws P)) 0).bind fun t147 => twofish_Twofish_Block.l3 k a0 t147 0 := by
  have e0 := b_s (a0 := a0) hl hb (x := [0, 0, 0, 0]) (j := 0) (k := k + 4) (by omega) (by omega)
  have e1 := b_s (a0 := a0) hl hb (x := [bpw P 0, 0, 0, 0]) (j := 1) (k := k + 3) (by omega) (by omega)
  have e2 := b_s (a0 := a0) hl hb (x := [bpw P 0, bpw P 1, 0, 0]) (j := 2) (k := k + 2) (by omega) (by omega)
  have e3 := b_s (a0 := a0) hl hb (x := [bpw P 0, bpw P 1, bpw P 2, 0]) (j := 3) (k := k + 1) (by omega) (by omega)
  refine (e0.trans (e1.trans (e2.trans e3))).trans ?_
  rw [twofish_Twofish_Block.l0, if_neg (by decide), if_neg (by decide)]; rfl
theorem w_s {K : List Nat} {S : List Int} (hK : ∀ v ∈ K, v < 4294967296) {at_ : Nat} (ha : at_ + 4 ≤ K.length) (hk40 : K.length < 1000) {x : List Nat} (hx : W4 x) {j k : Nat} (hj : j < 4) :
    twofish_Twofish_white.l0 (k + 1) (il K, S) (at_ : Int) (il x) (j : Int) = twofish_Twofish_white.l0 k (il K, S) (at_ : Int) (il (x.set j (x.getD j 0 ^^^ K.getD (at_ + j) 0))) ((j + 1 : Nat) : Int) := by
  have c0 : ∀ z : Nat, decide (0 ≤ (z : Int)) = true := fun z => by rw [decide_eq_true_eq]; omega
  have c1 : decide ((j : Int) < 4) = true := by rw [decide_eq_true_eq]; omega
  have a1 : I64 ((at_ : Int) + (j : Int)) = ((at_ + j : Nat) : Int) := I64_nat (n := at_ + j) (by omega)
  have a2 : I64 ((j : Int) + 1) = ((j + 1 : Nat) : Int) := I64_nat (n := j + 1) (by omega)
  rw [twofish_Twofish_white.l0, if_pos c1, if_pos (c0 _), if_pos c1, a1, if_pos (c0 _), if_pos (by rw [decide_eq_true_eq, il_length]; omega), if_pos (c0 _), if_pos c1, il_rd', il_rd', bx32 (hx.at j) (getW hK _), Int.toNat_natCast, il_set, a2]
def whN (K : List Nat) (at_ : Nat) (x : List Nat) : List Nat := [x.getD 0 0 ^^^ K.getD at_ 0, x.getD 1 0 ^^^ K.getD (at_ + 1) 0, x.getD 2 0 ^^^ K.getD (at_ + 2) 0, x.getD 3 0 ^^^ K.getD (at_ + 3) 0]
theorem whN_ok {K : List Nat} (hK : ∀ v ∈ K, v < 4294967296) (at_ : Nat) {x : List Nat} (hx : W4 x) : W4 (whN K at_ x) := W4.mk (x32 (hx.at _) (getW hK _)) (x32 (hx.at _) (getW hK _)) (x32 (hx.at _) (getW hK _)) (x32 (hx.at _) (getW hK _))
theorem white_eq {K : List Nat} {S : List Int} (hK : ∀ v ∈ K, v < 4294967296) {at_ : Nat} (ha : at_ + 4 ≤ K.length) (hk40 : K.length < 1000) {x : List Nat} (hx : W4 x) {k : Nat} (hk : 10 ≤ k) :
    twofish_Twofish_white.f k (il K, S) (il x) (at_ : Int) = some (il (whN K at_ x)) := by
  obtain ⟨k, rfl⟩ : ∃ j, k = j + 5 := ⟨k - 5, by omega⟩
  have l := fun (i j : Nat) {x : List Nat} (hx : W4 x) => x32 (hx.at j) (getW hK i)
  have e0 := w_s (S := S) hK ha hk40 hx (j := 0) (k := k + 4) (by omega)
  have o1 := hx.set 0 (l (at_ + 0) 0 hx)
  have e1 := w_s (S := S) hK ha hk40 o1 (j := 1) (k := k + 3) (by omega)
  have o2 := o1.set 1 (l (at_ + 1) 1 o1)
  have e2 := w_s (S := S) hK ha hk40 o2 (j := 2) (k := k + 2) (by omega)
  have o3 := o2.set 2 (l (at_ + 2) 2 o2)
  have e3 := w_s (S := S) hK ha hk40 o3 (j := 3) (k := k + 1) (by omega)
  unfold twofish_Twofish_white.f
  refine (e0.trans (e1.trans (e2.trans e3))).trans ?_
  rw [twofish_Twofish_white.l0, if_neg (by decide)]
  obtain ⟨a, b, c, d, rfl⟩ := hx.four
  rfl
/-- A round's two sums. -/
def sT (S : List Nat) (a b : Nat) : Nat := wa (hN S a) (hN S (rolN b 8))
def sU (S : List Nat) (a b : Nat) : Nat := wa (hN S a) (wa (hN S (rolN b 8)) (hN S (rolN b 8)))
theorem sums_eq {K S : List Nat} (hS : ∀ v ∈ S, v < 4294967296) (hK : K.length = 40) {a b i k : Nat} (ha : a < 4294967296) (hb : b < 4294967296) (hi : i < 16) (hk : 200 ≤ k) :
    twofish_Twofish_sums.f k (il K, il S) (a : Int) (b : Int) (i : Int) = some (((wa (sT S a b) (K.getD (2 * i + 8) 0) : Nat) : Int), ((wa (sU S a b) (K.getD (2 * i + 9) 0) : Nat) : Int)) := by
  have c0 : ∀ z : Nat, decide (0 ≤ (z : Int)) = true := fun z => by rw [decide_eq_true_eq]; omega
  have y0 : I64 (2 * (i : Int)) = ((2 * i : Nat) : Int) := I64_nat (n := 2 * i) (by omega)
  have y1 : I64 (((2 * i : Nat) : Int) + 8) = ((2 * i + 8 : Nat) : Int) := I64_nat (n := 2 * i + 8) (by omega)
  have y2 : I64 (((2 * i : Nat) : Int) + 9) = ((2 * i + 9 : Nat) : Int) := I64_nat (n := 2 * i + 9) (by omega)
  have h0 := h_eq hS ha (k := k) hk
  have r0 := rol32_eq (k := k) hb 8
  have h1 := h_eq hS (rolN_lt hb (s := 8)) (k := k) hk
  have r0' : words_Rol32.f k (b : Int) 8 = some ((rolN b 8 : Nat) : Int) := r0
  unfold twofish_Twofish_sums.f
  rw [h0, Option.bind_some, r0', Option.bind_some, h1, Option.bind_some, y0, y1, y2, if_pos (c0 _), if_pos (by rw [decide_eq_true_eq, il_length, hK]; omega), if_pos (c0 _), if_pos (by rw [decide_eq_true_eq, il_length, hK]; omega), il_rd', il_rd', U32_add, U32_add, U32_two, U32_add, U32_add]
  rfl
/-- A round. -/
def rnd (K S : List Nat) (i : Nat) (x : List Nat) : List Nat := [rolN (x.getD 2 0 ^^^ wa (sT S (x.getD 0 0) (x.getD 1 0)) (K.getD (2 * i + 8) 0)) 31, rolN (x.getD 3 0) 1 ^^^ wa (sU S (x.getD 0 0) (x.getD 1 0)) (K.getD (2 * i + 9) 0), x.getD 0 0, x.getD 1 0]
theorem rnd_ok (K S : List Nat) (i : Nat) {x : List Nat} (hx : W4 x) : W4 (rnd K S i x) := W4.mk (rolN_lt (x32 (hx.at 2) (wa_lt _ _))) (x32 (rolN_lt (hx.at 3)) (wa_lt _ _)) (hx.at 0) (hx.at 1)
def rnds (K S : List Nat) : Nat → Nat → List Nat → List Nat
  | _, 0, x => x
  | i, d + 1, x => rnds K S (i + 1) d (rnd K S i x)
theorem rnds_ok (K S : List Nat) : ∀ d i x, W4 x → W4 (rnds K S i d x)
  | 0, _, _, h => h
  | d + 1, i, x, h => rnds_ok K S d (i + 1) _ (rnd_ok K S i h)
def swp (x : List Nat) : List Nat := [x.getD 2 0, x.getD 3 0, x.getD 0 0, x.getD 1 0]
theorem swp_ok {x : List Nat} (hx : W4 x) : W4 (swp x) := W4.mk (hx.at 2) (hx.at 3) (hx.at 0) (hx.at 1)
theorem b_l3 {K S : List Nat} (hS : ∀ v ∈ S, v < 4294967296) (hK : K.length = 40) (d : Nat) : ∀ {i k : Nat} {x : List Nat}, i + d = 16 → W4 x → 220 ≤ k →
    twofish_Twofish_Block.l3 (k + d + 1) (il K, il S) (il x) (i : Int) = (twofish_Twofish_white.f k (il K, il S) (il (swp (rnds K S i d x))) 4).bind fun t => twofish_Twofish_Block.l4 k t ([] : List Int) 0 := by
  induction d with
  | zero =>
    intro i k x hi hx hk
    have : i = 16 := by omega
    subst this
    have g : ∀ j : Nat, rd (il x) (j : Int) = ((x.getD j 0 : Nat) : Int) := il_rd' x
    have g0 : rd (il x) 0 = ((x.getD 0 0 : Nat) : Int) := g 0
    have g1 : rd (il x) 1 = ((x.getD 1 0 : Nat) : Int) := g 1
    have g2 : rd (il x) 2 = ((x.getD 2 0 : Nat) : Int) := g 2
    have g3 : rd (il x) 3 = ((x.getD 3 0 : Nat) : Int) := g 3
    show twofish_Twofish_Block.l3 (k + 1) _ _ _ = _
    rw [twofish_Twofish_Block.l3, if_neg (by decide), g0, g1, g2, g3]
    rfl
  | succ d ih =>
    intro i k x hi hx hk
    have g : ∀ j : Nat, rd (il x) (j : Int) = ((x.getD j 0 : Nat) : Int) := il_rd' x
    have g0 : rd (il x) 0 = ((x.getD 0 0 : Nat) : Int) := g 0
    have g1 : rd (il x) 1 = ((x.getD 1 0 : Nat) : Int) := g 1
    have g2 : rd (il x) 2 = ((x.getD 2 0 : Nat) : Int) := g 2
    have g3 : rd (il x) 3 = ((x.getD 3 0 : Nat) : Int) := g 3
    have a2 : I64 ((i : Int) + 1) = ((i + 1 : Nat) : Int) := I64_nat (n := i + 1) (by omega)
    have s := sums_eq hS hK (hx.at 0) (hx.at 1) (i := i) (k := k + d + 1) (by omega) (by omega)
    have l2 := x32 (hx.at 2) (wa_lt (sT S (x.getD 0 0) (x.getD 1 0)) (K.getD (2 * i + 8) 0))
    obtain ⟨y, ey⟩ : ∃ y, y = x.getD 2 0 ^^^ wa (sT S (x.getD 0 0) (x.getD 1 0)) (K.getD (2 * i + 8) 0) := ⟨_, rfl⟩
    rw [← ey] at l2
    have r0 : words_Rol32.f (k + d + 1) (y : Int) (-1) = some ((rolN y 31 : Nat) : Int) := rol32_eq (k := k + d + 1) l2 (-1)
    have r1 : words_Rol32.f (k + d + 1) ((x.getD 3 0 : Nat) : Int) 1 = some ((rolN (x.getD 3 0) 1 : Nat) : Int) := rol32_eq (k := k + d + 1) (hx.at 3) 1
    show twofish_Twofish_Block.l3 (k + d + 1 + 1) _ _ _ = _
    rw [twofish_Twofish_Block.l3, if_pos (by rw [decide_eq_true_eq]; omega), g0, g1, g2, g3, s, Option.bind_some, bx32 (hx.at 2) (wa_lt _ _), ← ey, r0, Option.bind_some, r1, Option.bind_some, bx32 (rolN_lt (hx.at 3)) (wa_lt _ _), a2, ey]
    have e1 : rnds K S i (d + 1) x = rnds K S (i + 1) d (rnd K S i x) := rfl
    rw [e1]
    have e2 : il (rnd K S i x) = [((rolN (x.getD 2 0 ^^^ wa (sT S (x.getD 0 0) (x.getD 1 0)) (K.getD (2 * i + 8) 0)) 31 : Nat) : Int), ((rolN (x.getD 3 0) 1 ^^^ wa (sU S (x.getD 0 0) (x.getD 1 0)) (K.getD (2 * i + 9) 0) : Nat) : Int), ((x.getD 0 0 : Nat) : Int), ((x.getD 1 0 : Nat) : Int)] := rfl
    rw [← e2]
    exact ih (by omega) (rnd_ok K S i hx) hk
theorem o_s {x acc : List Nat} (hx : W4 x) (ha : acc.length < 1000) {j k : Nat} (hj : j < 4) (hk : 20 ≤ k) :
    twofish_Twofish_Block.l4 (k + 1) (il x) (il acc) (j : Int) = twofish_Twofish_Block.l4 k (il x) (il (acc ++ wb (x.getD j 0))) ((j + 1 : Nat) : Int) := by
  have c0 : ∀ z : Nat, decide (0 ≤ (z : Int)) = true := fun z => by rw [decide_eq_true_eq]; omega
  have c1 : decide ((j : Int) < 4) = true := by rw [decide_eq_true_eq]; omega
  have a2 : I64 ((j : Int) + 1) = ((j + 1 : Nat) : Int) := I64_nat (n := j + 1) (by omega)
  rw [twofish_Twofish_Block.l4, if_pos c1, if_pos (c0 _), if_pos c1, il_rd', putle4 (hx.at j) hk, Option.bind_some, if_pos (by rw [decide_eq_true_eq, il_length, il_length, (wb_ok _).1]; omega), a2, il_append]
def outN (x : List Nat) : List Nat := wb (x.getD 0 0) ++ wb (x.getD 1 0) ++ wb (x.getD 2 0) ++ wb (x.getD 3 0)
theorem out_eq {x : List Nat} (hx : W4 x) {k : Nat} (hk : 30 ≤ k) : twofish_Twofish_Block.l4 k (il x) ([] : List Int) 0 = some (il (outN x), 0) := by
  obtain ⟨k, rfl⟩ : ∃ j, k = j + 5 := ⟨k - 5, by omega⟩
  have w : ∀ v, (wb v).length = 4 := fun v => (wb_ok v).1
  have e0 := o_s hx (acc := []) (j := 0) (k := k + 4) (by simp) (by omega) (by omega)
  have e1 := o_s hx (acc := [] ++ wb (x.getD 0 0)) (j := 1) (k := k + 3) (by simp [w]) (by omega) (by omega)
  have e2 := o_s hx (acc := [] ++ wb (x.getD 0 0) ++ wb (x.getD 1 0)) (j := 2) (k := k + 2) (by simp [w]) (by omega) (by omega)
  have e3 := o_s hx (acc := [] ++ wb (x.getD 0 0) ++ wb (x.getD 1 0) ++ wb (x.getD 2 0)) (j := 3) (k := k + 1) (by simp [w]) (by omega) (by omega)
  refine (e0.trans (e1.trans (e2.trans e3))).trans ?_
  rw [twofish_Twofish_Block.l4, if_neg (by decide)]; rfl
/-- A block there. -/
def fwd (K S P : List Nat) : List Nat := outN (whN K 4 (swp (rnds K S 0 16 (whN K 0 (bpws P)))))
theorem fwd_eq {K S P : List Nat} (hK : ∀ v ∈ K, v < 4294967296) (hKl : K.length = 40) (hS : ∀ v ∈ S, v < 4294967296) (hl : P.length = 16) (hb : ∀ v ∈ P, v < 256) {k : Nat} (hk : 300 ≤ k) :
    twofish_Twofish_Block.f k (il K, il S) (il P) false = some (il (fwd K S P), 0) := by
  obtain ⟨k, rfl⟩ : ∃ j, k = j + 5 := ⟨k - 5, by omega⟩
  obtain ⟨j, rfl⟩ : ∃ j, k = j + 16 + 1 := ⟨k - 17, by omega⟩
  have o0 := whN_ok hK 0 (bpws_ok hl hb)
  have o1 := rnds_ok K S 16 0 _ o0
  have w0 := white_eq (S := il S) hK (at_ := 0) (by omega) (by omega) (bpws_ok hl hb) (k := j + 16 + 1) (by omega)
  have w1 := white_eq (S := il S) hK (at_ := 4) (by omega) (by omega) (swp_ok o1) (k := j) (by omega)
  have L := b_l3 hS hKl 16 (i := 0) (k := j) (by omega) o0 (by omega)
  have w0' : twofish_Twofish_white.f (j + 16 + 1) (il K, il S) (il (bpws P)) 0 = some (il (whN K 0 (bpws P))) := w0
  have w1' : twofish_Twofish_white.f j (il K, il S) (il (swp (rnds K S 0 16 (whN K 0 (bpws P))))) 4 = some (il (whN K 4 (swp (rnds K S 0 16 (whN K 0 (bpws P)))))) := w1
  unfold twofish_Twofish_Block.f
  rw [il_length, hl, if_neg (by decide)]
  refine (b_l0 hl hb (k := j + 16 + 1) (by omega)).trans ?_
  rw [w0', Option.bind_some]
  refine L.trans ?_
  rw [w1', Option.bind_some, out_eq (whN_ok hK 4 (swp_ok o1)) (by omega)]; rfl
end Go.Scr.S
