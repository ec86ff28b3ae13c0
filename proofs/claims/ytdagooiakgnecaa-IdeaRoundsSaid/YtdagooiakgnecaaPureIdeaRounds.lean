/- The plain law of IdeaRounds. -/
import Derived.Test.YtdagooiakgnecaaFnIdeaRounds
import Derived.Test.YtdagooiakgnecaaLibNum
import Derived.Test.YtdagooiakgnecaaLibIl
import Derived.Test.YtdagooiakgnecaaLibFill
import Derived.Test.YtdagooiakgnecaaLibGIl
import Derived.Test.YtdagooiakgnecaaLibGTurn
import Derived.Test.YtdagooiakgnecaaLibGBits
import Derived.Test.YtdagooiakgnecaaLibIdeaNum
import Derived.Test.YtdagooiakgnecaaLibIdeaKnown
import Derived.Test.YtdagooiakgnecaaLibIdeaMulL
import Derived.Test.YtdagooiakgnecaaLibIdeaBytes
import Derived.Test.YtdagooiakgnecaaLibIdeaKeys
set_option linter.unusedVariables false
set_option linter.unusedSimpArgs false
set_option linter.unnecessarySimpa false
namespace Go.Scr.S
theorem il_drop (a : List Nat) (n : Nat) : (il a).drop n = il (a.drop n) := by simp [il, List.map_drop]
def ad (a b : Nat) : Nat := (a + b) % 65536
theorem ad_lt (a b : Nat) : ad a b < 65536 := Nat.mod_lt _ (by decide)
theorem add7_eq {k a b : Nat} (ha : a < 65536) (hb : b < 65536) : idea_add.f k (a : Int) (b : Int) = some ((ad a b : Nat) : Int) := by
  unfold idea_add.f ad
  rw [← Int.natCast_add, I64_nat (by omega)]; rfl
theorem ad7 {a b : Nat} (ha : a < 65536) (hb : b < 65536) : Int.tmod (I64 ((a : Int) + (b : Int))) 65536 = ((ad a b : Nat) : Int) := by
  unfold ad
  rw [← Int.natCast_add, I64_nat (by omega)]; rfl
theorem neg7_eq {k a : Nat} (ha : a < 65536) : ∃ n : Nat, n < 65536 ∧ idea_neg.f k (a : Int) = some (n : Int) := by
  refine ⟨(65536 - a) % 65536, Nat.mod_lt _ (by decide), ?_⟩
  unfold idea_neg.f
  rw [show (65536 - (a : Int)) = ((65536 - a : Nat) : Int) by omega, I64_nat (by omega)]; rfl
theorem xlt {a b : Nat} (ha : a < 65536) (hb : b < 65536) : a ^^^ b < 65536 := Nat.xor_lt_two_pow (n := 16) ha hb
theorem bxw {a b : Nat} (ha : a < 65536) (hb : b < 65536) : bxor .i64 (a : Int) (b : Int) = ((a ^^^ b : Nat) : Int) := bxi (by omega) (by omega)
theorem gW {l : List Nat} (hl : ∀ x ∈ l, x < 65536) (i : Nat) : l.getD i 0 < 65536 := by
  rw [List.getD_eq_getElem?_getD]
  cases e : l[i]? with
  | none => decide
  | some x => exact hl x (List.mem_of_getElem? e)
theorem undone_some {K : List Nat} (hK : ∀ x ∈ K, x < 65536) (hl : K.length = 52) (i : Nat) : ∀ {k : Nat} {x : List Int}, i ≤ 8 → i + 30 < k → x.length + 6 * (i + 1) < 1000 → ∃ B, idea_undone.l0 k (il K) x (i : Int) = some B := by
  have hsub : ∀ a b : Nat, ∀ y ∈ (K.take a).drop b, y < 65536 := fun a b y hy => hK y (List.mem_of_mem_take (List.mem_of_mem_drop hy))
  induction i with
  | zero =>
    intro k x h8 hk hx
    obtain ⟨k, rfl⟩ : ∃ q, k = q + 1 + 1 := ⟨k - 2, by omega⟩
    have hL : ((K.take 4).drop 0).length = 4 := by simp [hl]
    generalize hLL : (K.take 4).drop 0 = L at hL
    have hLb : ∀ y ∈ L, y < 65536 := hLL ▸ hsub 4 0
    have e1 : I64 (6 * ((0 : Nat) : Int)) = ((0 : Nat) : Int) := rfl
    have e2 : I64 (((0 : Nat) : Int) + 4) = ((4 : Nat) : Int) := rfl
    obtain ⟨n1, hn1, e3⟩ := neg7_eq (k := k + 1) (gW hLb 1)
    obtain ⟨n2, hn2, e4⟩ := neg7_eq (k := k + 1) (gW hLb 2)
    have e5 := inv7_eq (k := k + 1) (by omega) (gW hLb 0)
    have e6 := inv7_eq (k := k + 1) (by omega) (gW hLb 3)
    have r0 := il_rd' L 0; have r1 := il_rd' L 1; have r2 := il_rd' L 2; have r3 := il_rd' L 3
    simp only [Int.cast_ofNat_Int] at r0 r1 r2 r3
    rw [idea_undone.l0]
    simp only [e1, e2, Int.toNat_natCast, il_take, il_drop, hLL, il_length, hL, r0, r1, r2, r3, e3, e4, e5, e6, Option.bind_some]
    simp (config := { decide := true }) only [if_true, if_false, hl]
    rw [if_pos (by rw [decide_eq_true_eq]; simp; omega), idea_undone.l0]
    exact ⟨_, if_neg (by decide)⟩
  | succ i ih =>
    intro k x h8 hk hx
    obtain ⟨k, rfl⟩ : ∃ q, k = q + 1 := ⟨k - 1, by omega⟩
    have hL : ((K.take (6 * (i + 1) + 4)).drop (6 * (i + 1))).length = 4 := by simp [hl]; omega
    generalize hLL : (K.take (6 * (i + 1) + 4)).drop (6 * (i + 1)) = L at hL
    have hLb : ∀ y ∈ L, y < 65536 := hLL ▸ hsub _ _
    have e1 : I64 (6 * ((i + 1 : Nat) : Int)) = ((6 * (i + 1) : Nat) : Int) := I64_nat (n := 6 * (i + 1)) (by omega)
    have e2 : I64 (((6 * (i + 1) : Nat) : Int) + 4) = ((6 * (i + 1) + 4 : Nat) : Int) := I64_nat (n := 6 * (i + 1) + 4) (by omega)
    have e7 : I64 (((6 * (i + 1) : Nat) : Int) - 2) = ((6 * (i + 1) - 2 : Nat) : Int) := by rw [show ((6 * (i + 1) : Nat) : Int) - 2 = ((6 * (i + 1) - 2 : Nat) : Int) by omega]; exact I64_nat (by omega)
    have e8 : I64 (((i + 1 : Nat) : Int) - 1) = (i : Int) := by rw [show ((i + 1 : Nat) : Int) - 1 = (i : Int) by omega]; exact I64_nat (by omega)
    obtain ⟨n1, hn1, e3⟩ := neg7_eq (k := k) (gW hLb 1)
    obtain ⟨n2, hn2, e4⟩ := neg7_eq (k := k) (gW hLb 2)
    have e5 := inv7_eq (k := k) (by omega) (gW hLb 0)
    have e6 := inv7_eq (k := k) (by omega) (gW hLb 3)
    have r0 := il_rd' L 0; have r1 := il_rd' L 1; have r2 := il_rd' L 2; have r3 := il_rd' L 3
    simp only [Int.cast_ofNat_Int] at r0 r1 r2 r3
    have c1 : decide (((i + 1 : Nat) : Int) ≥ 0) = true := by rw [decide_eq_true_eq]; omega
    have c2 : decide (0 ≤ ((6 * (i + 1) : Nat) : Int)) = true := by rw [decide_eq_true_eq]; omega
    have c3 : decide (((6 * (i + 1) : Nat) : Int) ≤ ((6 * (i + 1) + 4 : Nat) : Int)) = true := by rw [decide_eq_true_eq]; omega
    have c4 : decide (((6 * (i + 1) + 4 : Nat) : Int) ≤ ((52 : Nat) : Int)) = true := by rw [decide_eq_true_eq]; omega
    have c5 : decide (((i + 1 : Nat) : Int) > 0) = true := by rw [decide_eq_true_eq]; omega
    have c6 : decide (0 ≤ ((6 * (i + 1) - 2 : Nat) : Int)) = true := by rw [decide_eq_true_eq]; omega
    have c7 : decide (((6 * (i + 1) - 2 : Nat) : Int) ≤ ((6 * (i + 1) : Nat) : Int)) = true := by rw [decide_eq_true_eq]; omega
    have c8 : decide (((6 * (i + 1) : Nat) : Int) ≤ ((52 : Nat) : Int)) = true := by rw [decide_eq_true_eq]; omega
    have d1 : decide (1 < ((4 : Nat) : Int)) = true := by decide
    have d2 : decide (2 < ((4 : Nat) : Int)) = true := by decide
    have d0 : decide (0 < ((4 : Nat) : Int)) = true := by decide
    have d3 : decide (3 < ((4 : Nat) : Int)) = true := by decide
    rw [idea_undone.l0]
    simp only [e1, e2, e7, e8, Int.toNat_natCast, il_take, il_drop, hLL, il_length, hL, hl, r0, r1, r2, r3, e3, e4, e5, e6, c1, c2, c3, c4, c5, c6, c7, c8, d0, d1, d2, d3, Option.bind_some, if_true]
    have key : ∀ (y z : List Int), y.length = x.length + 4 → z.length = 2 → ∃ B, idea_undone.l0 k (il K) (y ++ z) (i : Int) = some B := fun y z hy hz => ih (by omega) (by omega) (by simp [hy, hz]; omega)
    have hz : (il ((K.take (6 * (i + 1))).drop (6 * (i + 1) - 2))).length = 2 := by rw [il_length]; simp [hl]; omega
    have hz' : ((K.take (6 * (i + 1))).drop (6 * (i + 1) - 2)).length = 2 := by rw [← il_length]; exact hz
    split
    · rw [if_pos (by rw [decide_eq_true_eq]; simp; omega), if_pos (by rw [decide_eq_true_eq, hz']; simp; omega)]
      exact key _ _ (by simp) hz
    · rw [if_pos (by rw [decide_eq_true_eq]; simp; omega), if_pos (by rw [decide_eq_true_eq, hz']; simp; omega)]
      exact key _ _ (by simp) hz
/-- A round, on four numbers. -/
def rn (k0 k1 k2 k3 k4 k5 : Nat) (x : Nat × Nat × Nat × Nat) : Nat × Nat × Nat × Nat :=
  let a := im x.1 k0
  let c := ad x.2.1 k1
  let d := ad x.2.2.1 k2
  let e := im x.2.2.2 k3
  let f := im (a ^^^ d) k4
  let g := im (ad (c ^^^ e) f) k5
  (a ^^^ g, d ^^^ g, c ^^^ ad f g, e ^^^ ad f g)
def Sm (x : Nat × Nat × Nat × Nat) : Prop := x.1 < 65536 ∧ x.2.1 < 65536 ∧ x.2.2.1 < 65536 ∧ x.2.2.2 < 65536
theorem rn_sm (k0 k1 k2 k3 k4 k5 : Nat) (x : Nat × Nat × Nat × Nat) : Sm (rn k0 k1 k2 k3 k4 k5 x) :=
  ⟨xlt (im_lt _ _) (im_lt _ _), xlt (ad_lt _ _) (im_lt _ _), xlt (ad_lt _ _) (ad_lt _ _), xlt (im_lt _ _) (ad_lt _ _)⟩
def rs (K : List Nat) (x : Nat × Nat × Nat × Nat) : Nat → Nat × Nat × Nat × Nat
  | 0 => x
  | r + 1 => rn (K.getD (6 * r) 0) (K.getD (6 * r + 1) 0) (K.getD (6 * r + 2) 0) (K.getD (6 * r + 3) 0) (K.getD (6 * r + 4) 0) (K.getD (6 * r + 5) 0) (rs K x r)
theorem rs_sm (K : List Nat) {x : Nat × Nat × Nat × Nat} (h : Sm x) (r : Nat) : Sm (rs K x r) := by cases r with | zero => exact h | succ r => exact rn_sm _ _ _ _ _ _ _
def fin (K : List Nat) (x : Nat × Nat × Nat × Nat) : List Nat := [im x.1 (K.getD 48 0), ad x.2.2.1 (K.getD 49 0), ad x.2.1 (K.getD 50 0), im x.2.2.2 (K.getD 51 0)]
theorem drop_rd (K : List Nat) (r j : Nat) : rd (il (K.drop (6 * r))) (j : Int) = ((K.getD (6 * r + j) 0 : Nat) : Int) := by
  rw [il_rd', List.getD_eq_getElem?_getD, List.getElem?_drop, ← List.getD_eq_getElem?_getD]
/-- What 'turn' makes: the last round's middle numbers change places. -/
def sw (r : Nat) (x : Nat × Nat × Nat × Nat) : Nat × Nat × Nat × Nat := if r = 8 then (x.1, x.2.2.1, x.2.1, x.2.2.2) else x
theorem turn7_l0 {K : List Nat} (hK : ∀ x ∈ K, x < 65536) (hl : K.length = 52) {x : Nat × Nat × Nat × Nat} (hx : Sm x) (d : Nat) {k r : Nat} (hk : d + 30 < k) (hr : r + d = 8) :
    idea_turn.l0 k (il (K.drop (6 * r))) ((sw r (rs K x r)).1 : Int) ((sw r (rs K x r)).2.1 : Int) ((sw r (rs K x r)).2.2.1 : Int) ((sw r (rs K x r)).2.2.2 : Int) = some (il (fin K (rs K x 8))) := by
  have hs := rs_sm K hx r
  obtain ⟨q0, q1, q2, q3⟩ := hs
  have hlen : (K.drop (6 * r)).length = 52 - 6 * r := by simp [hl]
  have g := gW hK
  have r0 := drop_rd K r 0; have r1 := drop_rd K r 1; have r2 := drop_rd K r 2; have r3 := drop_rd K r 3; have r4 := drop_rd K r 4; have r5 := drop_rd K r 5
  simp only [Int.cast_ofNat_Int] at r0 r1 r2 r3 r4 r5
  induction d generalizing k r with
  | zero =>
    obtain ⟨k, rfl⟩ : ∃ q, k = q + 1 := ⟨k - 1, by omega⟩
    have : r = 8 := by omega
    subst this
    have m1 := mul7_eq (k := k) q0 (g 48)
    have m2 := add7_eq (k := k) q2 (g 49)
    have m3 := add7_eq (k := k) q1 (g 50)
    have m4 := mul7_eq (k := k) q3 (g 51)
    have hlen4 : (K.drop (6 * 8)).length = 4 := hlen
    simp only [Nat.reduceMul, Nat.reduceAdd] at r0 r1 r2 r3 hlen4 ⊢
    rw [idea_turn.l0]
    simp only [sw, if_true, il_length, hlen4, r0, r1, r2, r3, m1, m2, m3, m4, Option.bind_some]
    rfl
  | succ d ih =>
    obtain ⟨k, rfl⟩ : ∃ q, k = q + 1 := ⟨k - 1, by omega⟩
    have hr8 : r ≠ 8 := by omega
    have esw : sw r (rs K x r) = rs K x r := by unfold sw; rw [if_neg hr8]
    rw [esw]
    generalize hy : rs K x r = y at q0 q1 q2 q3
    obtain ⟨y0, y1, y2, y3⟩ := y
    simp only at q0 q1 q2 q3
    have m1 := mul7_eq (k := k) q0 (g (6 * r))
    have m2 := add7_eq (k := k) q1 (g (6 * r + 1))
    have m3 := add7_eq (k := k) q2 (g (6 * r + 2))
    have m4 := mul7_eq (k := k) q3 (g (6 * r + 3))
    have b1 := bxw (im_lt y0 (K.getD (6 * r) 0)) (ad_lt y2 (K.getD (6 * r + 2) 0))
    have m5 := mul7_eq (k := k) (xlt (im_lt y0 (K.getD (6 * r) 0)) (ad_lt y2 (K.getD (6 * r + 2) 0))) (g (6 * r + 4))
    have b2 := bxw (ad_lt y1 (K.getD (6 * r + 1) 0)) (im_lt y3 (K.getD (6 * r + 3) 0))
    have m6 := add7_eq (k := k) (xlt (ad_lt y1 (K.getD (6 * r + 1) 0)) (im_lt y3 (K.getD (6 * r + 3) 0))) (im_lt (im y0 (K.getD (6 * r) 0) ^^^ ad y2 (K.getD (6 * r + 2) 0)) (K.getD (6 * r + 4) 0))
    generalize hf : im (im y0 (K.getD (6 * r) 0) ^^^ ad y2 (K.getD (6 * r + 2) 0)) (K.getD (6 * r + 4) 0) = f at m5 m6
    have hfl : f < 65536 := hf ▸ im_lt _ _
    have m7 := mul7_eq (k := k) (ad_lt (ad y1 (K.getD (6 * r + 1) 0) ^^^ im y3 (K.getD (6 * r + 3) 0)) f) (g (6 * r + 5))
    generalize hg : im (ad (ad y1 (K.getD (6 * r + 1) 0) ^^^ im y3 (K.getD (6 * r + 3) 0)) f) (K.getD (6 * r + 5) 0) = gg at m7
    have hgl : gg < 65536 := hg ▸ im_lt _ _
    have m8 := add7_eq (k := k) hfl hgl
    have b3 := bxw (im_lt y0 (K.getD (6 * r) 0)) hgl
    have b4 := bxw (ad_lt y1 (K.getD (6 * r + 1) 0)) (ad_lt f gg)
    have b5 := bxw (ad_lt y2 (K.getD (6 * r + 2) 0)) hgl
    have b6 := bxw (im_lt y3 (K.getD (6 * r + 3) 0)) (ad_lt f gg)
    have hnext : rs K x (r + 1) = (im y0 (K.getD (6 * r) 0) ^^^ gg, ad y2 (K.getD (6 * r + 2) 0) ^^^ gg, ad y1 (K.getD (6 * r + 1) 0) ^^^ ad f gg, im y3 (K.getD (6 * r + 3) 0) ^^^ ad f gg) := by
      have e : rs K x (r + 1) = rn (K.getD (6 * r) 0) (K.getD (6 * r + 1) 0) (K.getD (6 * r + 2) 0) (K.getD (6 * r + 3) 0) (K.getD (6 * r + 4) 0) (K.getD (6 * r + 5) 0) (rs K x r) := by simp only [rs]
      rw [e, hy]; simp only [rn, hf, hg]
    have c0 : decide (0 < ((52 - 6 * r : Nat) : Int)) = true := by rw [decide_eq_true_eq]; omega
    have c1 : decide (1 < ((52 - 6 * r : Nat) : Int)) = true := by rw [decide_eq_true_eq]; omega
    have c2 : decide (2 < ((52 - 6 * r : Nat) : Int)) = true := by rw [decide_eq_true_eq]; omega
    have c3 : decide (3 < ((52 - 6 * r : Nat) : Int)) = true := by rw [decide_eq_true_eq]; omega
    have c4 : decide (((52 - 6 * r : Nat) : Int) > 4) = true := by rw [decide_eq_true_eq]; omega
    have c4' : decide (4 < ((52 - 6 * r : Nat) : Int)) = true := by rw [decide_eq_true_eq]; omega
    have c5 : decide (5 < ((52 - 6 * r : Nat) : Int)) = true := by rw [decide_eq_true_eq]; omega
    have c6 : decide (6 ≤ ((52 - 6 * r : Nat) : Int)) = true := by rw [decide_eq_true_eq]; omega
    have hd : List.drop (6 : Int).toNat (List.take (((52 - 6 * r : Nat) : Int)).toNat (il (K.drop (6 * r)))) = il (K.drop (6 * (r + 1))) := by
      rw [Int.toNat_natCast, List.take_of_length_le (by rw [il_length, hlen]; exact Nat.le_refl _), il_drop, List.drop_drop, show 6 * r + (6 : Int).toNat = 6 * (r + 1) by rw [show (6 : Int).toNat = 6 from rfl]; omega]
    have hlen2 : (K.drop (6 * (r + 1))).length = 46 - 6 * r := by simp [hl]; omega
    rw [idea_turn.l0]
    simp only [il_length, hlen, r0, r1, r2, r3, r4, r5, Nat.add_zero, c0, c1, c2, c3, c4, c4', c5, c6, if_true]
    rw [m1, Option.bind_some, m2, Option.bind_some, m3, Option.bind_some, m4, Option.bind_some, b1, m5, Option.bind_some, b2, m6, Option.bind_some, m7, Option.bind_some, m8, Option.bind_some, hd, il_length, hlen2, Option.bind_some, b3, b4, b5, b6]
    have nx := ih (k := k) (r := r + 1) (by omega) (by omega) (rs_sm K hx (r + 1)).1 (rs_sm K hx (r + 1)).2.1 (rs_sm K hx (r + 1)).2.2.1 (rs_sm K hx (r + 1)).2.2.2 (by simp [hl]) (drop_rd K (r + 1) 0) (drop_rd K (r + 1) 1) (drop_rd K (r + 1) 2) (drop_rd K (r + 1) 3) (drop_rd K (r + 1) 4) (drop_rd K (r + 1) 5)
    rw [hnext] at nx
    by_cases h7 : r = 7
    · subst h7
      rw [if_pos (by decide)]
      have e9 : ∀ z, sw (7 + 1) z = (z.1, z.2.2.1, z.2.1, z.2.2.2) := fun z => by unfold sw; rw [if_pos (by decide)]
      rw [e9] at nx
      exact nx
    · rw [if_neg (by simp; omega)]
      have e9 : ∀ z, sw (r + 1) z = z := fun z => by unfold sw; rw [if_neg (by omega)]
      rw [e9] at nx
      exact nx
theorem load8 {x : List Int} (h : x.length = 8) {k : Nat} (hk : 20 ≤ k) : idea_load.f k x = some [gi x 0, gi x 2, gi x 4, gi x 6] := by
  obtain ⟨j, rfl⟩ : ∃ j, k = j + 20 := ⟨k - 20, by omega⟩
  match x, h with
  | [x0, x1, x2, x3, x4, x5, x6, x7], _ => exact Eq.trans (by kernel_rfl) (Eq.refl (some [gi _ 0, gi _ 2, gi _ 4, gi _ 6]))
/-- A block's numbers. -/
def blk4 (b : List Nat) : Nat × Nat × Nat × Nat := (b.getD 0 0 * 256 + b.getD 1 0, b.getD 2 0 * 256 + b.getD 3 0, b.getD 4 0 * 256 + b.getD 5 0, b.getD 6 0 * 256 + b.getD 7 0)
theorem blk4_sm {b : List Nat} (hb : ∀ x ∈ b, x < 256) : Sm (blk4 b) := by
  have g := getD_lt hb
  have := g 0; have := g 1; have := g 2; have := g 3; have := g 4; have := g 5; have := g 6; have := g 7
  unfold Sm blk4; simp only; omega
theorem gi_il {b : List Nat} (hb : ∀ x ∈ b, x < 256) (i : Nat) (hi : i < 1000) : gi (il b) (i : Int) = ((b.getD i 0 * 256 + b.getD (i + 1) 0 : Nat) : Int) := by
  unfold gi
  have : I64 ((i : Int) + 1) = ((i + 1 : Nat) : Int) := I64_nat (n := i + 1) (by omega)
  rw [this, il_rd', il_rd']
  exact gi_nat (getD_lt hb _) (getD_lt hb _)
/-- Its bytes. -/
def outB (v : List Nat) : List Int := (v.map fun x => [((x / 256 : Nat) : Int), ((x % 256 : Nat) : Int)]).flatten
theorem two_out {x : Nat} (h : x < 65536) : ([U8 (shr (x : Int) 8), U8 (x : Int)] : List Int) = [((x / 256 : Nat) : Int), ((x % 256 : Nat) : Int)] := by
  rw [shr_nat, U8_nat, U8_nat, Nat.shiftRight_eq_div_pow]
  congr 2; omega
theorem blk_out {k a b c d : Nat} (hk : 10 ≤ k) (ha : a < 65536) (hb : b < 65536) (hc : c < 65536) (hd : d < 65536) : idea_Idea_Block.l1 k (il [a, b, c, d]) (List.replicate 0 (0 : Int)) 0 = some (outB [a, b, c, d], 0) := by
  obtain ⟨k, rfl⟩ : ∃ j, k = j + 10 := ⟨k - 10, by omega⟩
  have e : idea_Idea_Block.l1 (k + 10) (il [a, b, c, d]) (List.replicate 0 (0 : Int)) 0 = some ([U8 (shr (a : Int) 8), U8 (a : Int)] ++ [U8 (shr (b : Int) 8), U8 (b : Int)] ++ [U8 (shr (c : Int) 8), U8 (c : Int)] ++ [U8 (shr (d : Int) 8), U8 (d : Int)], 0) := by kernel_rfl
  rw [e, two_out ha, two_out hb, two_out hc, two_out hd]; rfl
theorem block7_eq {K : List Nat} {B : List Int} (hK : ∀ x ∈ K, x < 65536) (hl : K.length = 52) {b : List Nat} (hb : ∀ x ∈ b, x < 256) (h8 : b.length = 8) {k : Nat} (hk : 100 ≤ k) :
    idea_Idea_Block.f k (il K, B) (il b) false = some (outB (fin K (rs K (blk4 b) 8)), 0) := by
  have hx := blk4_sm hb
  have g0 := gi_il hb 0 (by decide); have g2 := gi_il hb 2 (by decide); have g4 := gi_il hb 4 (by decide); have g6 := gi_il hb 6 (by decide)
  simp only [Int.cast_ofNat_Int, Nat.zero_add, Nat.reduceAdd] at g0 g2 g4 g6
  have t := turn7_l0 hK hl hx 8 (k := k) (r := 0) (by omega) (by omega)
  have e0 : idea_turn.f k [gi (il b) 0, gi (il b) 2, gi (il b) 4, gi (il b) 6] (il K) = some (il (fin K (rs K (blk4 b) 8))) := by
    rw [g0, g2, g4, g6]; exact t
  unfold idea_Idea_Block.f
  rw [if_neg (by rw [il_length, h8]; decide), if_neg (by decide), if_pos (by decide), load8 (by rw [il_length, h8]) (by omega), Option.bind_some, e0, Option.bind_some]
  exact blk_out (by omega) (im_lt _ _) (ad_lt _ _) (ad_lt _ _) (im_lt _ _)
theorem new7_eq {m : List Nat} (hm : ∀ x ∈ m, x < 256) (hl : m.length = 16) {k : Nat} (hk : 100 ≤ k) : ∃ B, idea_New.f k (il m) = some (some (il ((kA m 7).take 52), B), 0) := by
  have hK : ∀ x ∈ (kA m 7).take 52, x < 65536 := by
    intro x hx
    have h1 : ∀ n, ∀ x ∈ kA m n, x < 65536 := by
      intro n
      induction n with
      | zero => intro x hx; cases hx
      | succ n ih =>
        intro x hx
        rcases List.mem_append.1 hx with hx | hx
        · exact ih x hx
        · obtain ⟨j, hj, rfl⟩ := List.mem_map.1 hx
          have := getD_lt (turnN_lt hm (25 * (n : Int))) (2 * j)
          have := getD_lt (turnN_lt hm (25 * (n : Int))) (2 * j + 1)
          omega
    exact h1 7 x (List.mem_of_mem_take hx)
  obtain ⟨B, hB⟩ := undone_some hK (by rw [List.length_take, kA_length]; rfl) 8 (k := k) (x := []) (by omega) (by omega) (by simp)
  refine ⟨B, ?_⟩
  unfold idea_New.f idea_undone.f
  rw [keys7_eq hm hl (by omega), Option.bind_some, if_neg (by simp)]
  simp only [Int.cast_ofNat_Int] at hB
  rw [hB]; rfl

theorem kA_sm {m : List Nat} (hm : ∀ x ∈ m, x < 256) : ∀ x ∈ (kA m 7).take 52, x < 65536 := by
  intro x hx
  have h1 : ∀ n, ∀ x ∈ kA m n, x < 65536 := by
    intro n
    induction n with
    | zero => intro x hx; cases hx
    | succ n ih =>
      intro x hx
      rcases List.mem_append.1 hx with hx | hx
      · exact ih x hx
      · obtain ⟨j, hj, rfl⟩ := List.mem_map.1 hx
        have := getD_lt (turnN_lt hm (25 * (n : Int))) (2 * j)
        have := getD_lt (turnN_lt hm (25 * (n : Int))) (2 * j + 1)
        omega
  exact h1 7 x (List.mem_of_mem_take hx)
theorem num2 {a b : Nat} (ha : a < 256) (hb : b < 256) : I64 (I64 (I64 (a : Int) * 256) + I64 (b : Int)) = ((a * 256 + b : Nat) : Int) := by
  rw [I64_nat (by omega), I64_nat (by omega), show (a : Int) * 256 = ((a * 256 : Nat) : Int) by omega, I64_nat (by omega), ← Int.natCast_add, I64_nat (by omega)]
theorem ir_l0 {k : Nat} {s : List Int × List Int} {t : List Int × Int} {b : List Nat} (hb : ∀ x ∈ b, x < 256) (h8 : b.length = 8) :
    scrimlaw7_IdeaRounds.l0 (k + 5) s t (il b) (List.replicate 4 (0 : Int)) 0 = scrimlaw7_IdeaRounds.l1 k s t (il b) [((blk4 b).1 : Int), ((blk4 b).2.1 : Int), ((blk4 b).2.2.1 : Int), ((blk4 b).2.2.2 : Int)] 0 := by
  match b, h8, hb with
  | [b0, b1, b2, b3, b4, b5, b6, b7], _, hb =>
    have e : scrimlaw7_IdeaRounds.l0 (k + 5) s t (il [b0, b1, b2, b3, b4, b5, b6, b7]) (List.replicate 4 (0 : Int)) 0 =
      scrimlaw7_IdeaRounds.l1 k s t (il [b0, b1, b2, b3, b4, b5, b6, b7]) [I64 (I64 (I64 (b0 : Int) * 256) + I64 (b1 : Int)), I64 (I64 (I64 (b2 : Int) * 256) + I64 (b3 : Int)), I64 (I64 (I64 (b4 : Int) * 256) + I64 (b5 : Int)), I64 (I64 (I64 (b6 : Int) * 256) + I64 (b7 : Int))] 0 := by kernel_rfl
    rw [e, num2 (hb _ (by simp)) (hb _ (by simp)), num2 (hb _ (by simp)) (hb _ (by simp)), num2 (hb _ (by simp)) (hb _ (by simp)), num2 (hb _ (by simp)) (hb _ (by simp))]
    rfl
theorem ir_l2 {k v0 v1 v2 v3 : Nat} {t : List Int × Int} {x : List Int} (h0 : v0 < 65536) (h1 : v1 < 65536) (h2 : v2 < 65536) (h3 : v3 < 65536)
    (e1 : Int.tmod (I64 (rd x 2 + rd (List.drop (48 : Int).toNat (List.take ((t.1.length : Int)).toNat t.1)) 1)) 65536 = (v1 : Int)) (e2 : Int.tmod (I64 (rd x 1 + rd (List.drop (48 : Int).toNat (List.take ((t.1.length : Int)).toNat t.1)) 2)) 65536 = (v2 : Int)) :
    scrimlaw7_IdeaRounds.l2 (k + 5) (v0 : Int) (v3 : Int) (outB [v0, v1, v2, v3], 0) t x 0 = some true := by
  have n : ∀ v : Nat, v < 65536 → I64 (I64 (I64 ((v / 256 : Nat) : Int) * 256) + I64 ((v % 256 : Nat) : Int)) = (v : Int) := fun v hv => by
    rw [num2 (by omega) (by omega)]; omega
  generalize hE1 : Int.tmod (I64 (rd x 2 + rd (List.drop (48 : Int).toNat (List.take ((t.1.length : Int)).toNat t.1)) 1)) 65536 = E1 at e1
  generalize hE2 : Int.tmod (I64 (rd x 1 + rd (List.drop (48 : Int).toNat (List.take ((t.1.length : Int)).toNat t.1)) 2)) 65536 = E2 at e2
  have o0 : ∀ i : Nat, i < 4 → rd (outB [v0, v1, v2, v3]) ((2 * i : Nat) : Int) = (([v0, v1, v2, v3].getD i 0 / 256 : Nat) : Int) ∧ rd (outB [v0, v1, v2, v3]) ((2 * i + 1 : Nat) : Int) = (([v0, v1, v2, v3].getD i 0 % 256 : Nat) : Int) := by
    intro i hi
    have : i = 0 ∨ i = 1 ∨ i = 2 ∨ i = 3 := by omega
    rcases this with rfl | rfl | rfl | rfl <;> exact ⟨rfl, rfl⟩
  have ho : ((outB [v0, v1, v2, v3]).length : Int) = 8 := rfl
  have stp : ∀ (k i : Nat), i < 4 → scrimlaw7_IdeaRounds.l2 (k + 1) (v0 : Int) (v3 : Int) (outB [v0, v1, v2, v3], 0) t x (i : Int) = scrimlaw7_IdeaRounds.l2 k (v0 : Int) (v3 : Int) (outB [v0, v1, v2, v3], 0) t x ((i + 1 : Nat) : Int) := by
    intro k i hi
    have a1 : I64 (2 * (i : Int)) = ((2 * i : Nat) : Int) := I64_nat (n := 2 * i) (by omega)
    have a2 : I64 (((2 * i : Nat) : Int) + 1) = ((2 * i + 1 : Nat) : Int) := I64_nat (n := 2 * i + 1) (by omega)
    have a4 : I64 ((i : Int) + 1) = ((i + 1 : Nat) : Int) := I64_nat (n := i + 1) (by omega)
    have hv : [v0, v1, v2, v3].getD i 0 < 65536 := by
      have : i = 0 ∨ i = 1 ∨ i = 2 ∨ i = 3 := by omega
      rcases this with rfl | rfl | rfl | rfl <;> assumption
    have hr : rd ([(v0 : Int), E1, E2, (v3 : Int)] : List Int) (i : Int) = (([v0, v1, v2, v3].getD i 0 : Nat) : Int) := by
      rw [e1, e2]
      have : i = 0 ∨ i = 1 ∨ i = 2 ∨ i = 3 := by omega
      rcases this with rfl | rfl | rfl | rfl <;> rfl
    rw [scrimlaw7_IdeaRounds.l2]
    simp only [a1, a2, a4, hE1, hE2, ho, (o0 i hi).1, (o0 i hi).2, hr]
    rw [if_pos (by rw [decide_eq_true_eq]; omega), if_pos (by rw [decide_eq_true_eq]; omega), if_pos (by rw [decide_eq_true_eq]; omega), if_pos (by rw [decide_eq_true_eq]; omega), if_pos (by rw [decide_eq_true_eq]; omega), if_pos (by rw [decide_eq_true_eq]; omega), if_pos (by rw [decide_eq_true_eq]; omega)]
    simp only [Option.bind_some]
    rw [Int.add_comm] 
    have := n _ hv
    rw [Int.add_comm] at this
    rw [this, if_neg (by simp)]
  have s0 := stp (k + 4) 0 (by decide); have s1' := stp (k + 3) 1 (by decide); have s2 := stp (k + 2) 2 (by decide); have s3 := stp (k + 1) 3 (by decide)
  simp only [Int.cast_ofNat_Int, Nat.zero_add, Nat.reduceAdd] at s0 s1' s2 s3
  rw [s0, s1', s2, s3, scrimlaw7_IdeaRounds.l2, if_neg (by decide)]
theorem tk_rd {K : List Nat} (hl : K.length = 52) {r j : Nat} (hr : r < 8) (hj : j < 6) : rd (List.drop (6 * r) (List.take (6 * r + 6) (il K))) (j : Int) = ((K.getD (6 * r + j) 0 : Nat) : Int) := by
  rw [il_take, il_drop, il_rd', List.getD_eq_getElem?_getD, List.getElem?_drop, List.getElem?_take, if_pos (by omega), ← List.getD_eq_getElem?_getD]
theorem ir_l1 {K : List Nat} (hK : ∀ x ∈ K, x < 65536) (hl : K.length = 52) {s : List Int × List Int} {b : List Nat} {x : Nat × Nat × Nat × Nat} (hx : Sm x)
    (hB : ∀ k, 100 ≤ k → idea_Idea_Block.f k s (il b) false = some (outB (fin K (rs K x 8)), 0)) (d : Nat) {k r : Nat} (hk : d + 200 < k) (hr : r + d = 8) :
    scrimlaw7_IdeaRounds.l1 k s (il K, 0) (il b) [((rs K x r).1 : Int), ((rs K x r).2.1 : Int), ((rs K x r).2.2.1 : Int), ((rs K x r).2.2.2 : Int)] (r : Int) = some true := by
  have g := gW hK
  induction d generalizing k r with
  | zero =>
    obtain ⟨k, rfl⟩ : ∃ q, k = q + 5 + 1 := ⟨k - 6, by omega⟩
    have : r = 8 := by omega
    subst this
    obtain ⟨q0, q1, q2, q3⟩ := rs_sm K hx 8
    have hb := hB (k + 5) (by omega)
    generalize rs K x 8 = y at *
    obtain ⟨y0, y1, y2, y3⟩ := y
    simp only at q0 q1 q2 q3
    have hd : List.drop (48 : Int).toNat (List.take (((il K).length : Int)).toNat (il K)) = il (K.drop 48) := by
      rw [Int.toNat_natCast, List.take_of_length_le (Nat.le_refl _)]; exact il_drop K 48
    have r0 := drop_rd K 8 0; have r1 := drop_rd K 8 1; have r2 := drop_rd K 8 2; have r3 := drop_rd K 8 3
    simp only [Int.cast_ofNat_Int, Nat.reduceMul, Nat.reduceAdd] at r0 r1 r2 r3
    have m1 := mul7_eq (k := k + 5) q0 (g 48)
    have m2 := mul7_eq (k := k + 5) q3 (g 51)
    have e1 := ad7 q2 (g 49)
    have e2 := ad7 q1 (g 50)
    have hdl : (K.drop 48).length = 4 := by simp [hl]
    have x0 : rd [(y0 : Int), (y1 : Int), (y2 : Int), (y3 : Int)] 0 = (y0 : Int) := rfl
    have x1 : rd [(y0 : Int), (y1 : Int), (y2 : Int), (y3 : Int)] 1 = (y1 : Int) := rfl
    have x2 : rd [(y0 : Int), (y1 : Int), (y2 : Int), (y3 : Int)] 2 = (y2 : Int) := rfl
    have x3 : rd [(y0 : Int), (y1 : Int), (y2 : Int), (y3 : Int)] 3 = (y3 : Int) := rfl
    have fin2 := ir_l2 (k := k) (t := (il K, 0)) (x := [(y0 : Int), (y1 : Int), (y2 : Int), (y3 : Int)]) (im_lt y0 (K.getD 48 0)) (ad_lt y2 (K.getD 49 0)) (ad_lt y1 (K.getD 50 0)) (im_lt y3 (K.getD 51 0)) (by rw [hd, x2, r1]; exact e1) (by rw [hd, x1, r2]; exact e2)
    rw [scrimlaw7_IdeaRounds.l1, if_neg (by decide)]
    simp only [hd]
    simp only [il_length, hl, hdl, x0, x3, r0, r3]
    rw [if_pos (by decide), if_pos (by decide), if_pos (by decide), if_pos (by decide), if_pos (by decide), m1, Option.bind_some, m2, Option.bind_some, hb, Option.bind_some, if_neg (by simp [outB, fin])]
    exact fin2
  | succ d ih =>
    obtain ⟨k, rfl⟩ : ∃ q, k = q + 1 := ⟨k - 1, by omega⟩
    obtain ⟨q0, q1, q2, q3⟩ := rs_sm K hx r
    have nx := ih (k := k) (r := r + 1) (by omega) (by omega)
    have e : rs K x (r + 1) = rn (K.getD (6 * r) 0) (K.getD (6 * r + 1) 0) (K.getD (6 * r + 2) 0) (K.getD (6 * r + 3) 0) (K.getD (6 * r + 4) 0) (K.getD (6 * r + 5) 0) (rs K x r) := by simp only [rs]
    rw [e] at nx
    generalize rs K x r = y at *
    obtain ⟨y0, y1, y2, y3⟩ := y
    simp only at q0 q1 q2 q3
    have a1 : I64 (6 * (r : Int)) = ((6 * r : Nat) : Int) := I64_nat (n := 6 * r) (by omega)
    have a2 : I64 (((6 * r : Nat) : Int) + 6) = ((6 * r + 6 : Nat) : Int) := I64_nat (n := 6 * r + 6) (by omega)
    have a3 : I64 ((r : Int) + 1) = ((r + 1 : Nat) : Int) := I64_nat (n := r + 1) (by omega)
    have hlen : (List.drop (6 * r) (List.take (6 * r + 6) (il K))).length = 6 := by rw [il_take, il_drop, il_length]; simp [hl]; omega
    have r0 := tk_rd hl (r := r) (j := 0) (by omega) (by decide); have r1 := tk_rd hl (r := r) (j := 1) (by omega) (by decide); have r2 := tk_rd hl (r := r) (j := 2) (by omega) (by decide)
    have r3 := tk_rd hl (r := r) (j := 3) (by omega) (by decide); have r4 := tk_rd hl (r := r) (j := 4) (by omega) (by decide); have r5 := tk_rd hl (r := r) (j := 5) (by omega) (by decide)
    simp only [Int.cast_ofNat_Int, Nat.add_zero] at r0 r1 r2 r3 r4 r5
    have m1 := mul7_eq (k := k) q0 (g (6 * r))
    have m2 := ad7 q1 (g (6 * r + 1))
    have m3 := ad7 q2 (g (6 * r + 2))
    have m4 := mul7_eq (k := k) q3 (g (6 * r + 3))
    have b1 := bxw (im_lt y0 (K.getD (6 * r) 0)) (ad_lt y2 (K.getD (6 * r + 2) 0))
    have m5 := mul7_eq (k := k) (xlt (im_lt y0 (K.getD (6 * r) 0)) (ad_lt y2 (K.getD (6 * r + 2) 0))) (g (6 * r + 4))
    have b2 := bxw (ad_lt y1 (K.getD (6 * r + 1) 0)) (im_lt y3 (K.getD (6 * r + 3) 0))
    have m6 := ad7 (xlt (ad_lt y1 (K.getD (6 * r + 1) 0)) (im_lt y3 (K.getD (6 * r + 3) 0))) (im_lt (im y0 (K.getD (6 * r) 0) ^^^ ad y2 (K.getD (6 * r + 2) 0)) (K.getD (6 * r + 4) 0))
    simp only [rn] at nx
    generalize hf : im (im y0 (K.getD (6 * r) 0) ^^^ ad y2 (K.getD (6 * r + 2) 0)) (K.getD (6 * r + 4) 0) = f at m5 m6 nx
    have hfl : f < 65536 := hf ▸ im_lt _ _
    have m7 := mul7_eq (k := k) (ad_lt (ad y1 (K.getD (6 * r + 1) 0) ^^^ im y3 (K.getD (6 * r + 3) 0)) f) (g (6 * r + 5))
    generalize hg : im (ad (ad y1 (K.getD (6 * r + 1) 0) ^^^ im y3 (K.getD (6 * r + 3) 0)) f) (K.getD (6 * r + 5) 0) = gg at m7 nx
    have hgl : gg < 65536 := hg ▸ im_lt _ _
    have m8 := ad7 hfl hgl
    have b3 := bxw (im_lt y0 (K.getD (6 * r) 0)) hgl
    have b4 := bxw (ad_lt y1 (K.getD (6 * r + 1) 0)) (ad_lt f gg)
    have b5 := bxw (ad_lt y2 (K.getD (6 * r + 2) 0)) hgl
    have b6 := bxw (im_lt y3 (K.getD (6 * r + 3) 0)) (ad_lt f gg)
    have x0 : rd [(y0 : Int), (y1 : Int), (y2 : Int), (y3 : Int)] 0 = (y0 : Int) := rfl
    have x1 : rd [(y0 : Int), (y1 : Int), (y2 : Int), (y3 : Int)] 1 = (y1 : Int) := rfl
    have x2 : rd [(y0 : Int), (y1 : Int), (y2 : Int), (y3 : Int)] 2 = (y2 : Int) := rfl
    have x3 : rd [(y0 : Int), (y1 : Int), (y2 : Int), (y3 : Int)] 3 = (y3 : Int) := rfl
    have cs : decide ((r : Int) < 8) = true := by rw [decide_eq_true_eq]; omega
    have cs0 : decide (0 ≤ ((6 * r : Nat) : Int)) = true := by rw [decide_eq_true_eq]; omega
    have cs1 : decide (((6 * r : Nat) : Int) ≤ ((6 * r + 6 : Nat) : Int)) = true := by rw [decide_eq_true_eq]; omega
    have cs2 : decide (((6 * r + 6 : Nat) : Int) ≤ ((52 : Nat) : Int)) = true := by rw [decide_eq_true_eq]; omega
    rw [scrimlaw7_IdeaRounds.l1]
    simp only [a1, a2, a3, Int.toNat_natCast, il_length, hl, hlen, r0, r1, r2, r3, r4, r5, x0, x1, x2, x3, cs, cs0, cs1, cs2, if_true]
    rw [if_pos (by decide), if_pos (by decide), if_pos (by decide), if_pos (by decide), m1, Option.bind_some, m4, Option.bind_some, m2, Option.bind_some, m3, Option.bind_some, if_pos (by decide), Option.bind_some, b1, m5, Option.bind_some, b2, m6, Option.bind_some, if_pos (by decide), Option.bind_some, m7, Option.bind_some, b3, b5, m8, b4, b6]
    exact nx
theorem IdeaRounds (a0 : List Int) (a1 : List Int) (h0 : a0.length ≤ maxLen) (h1 : ∀ x ∈ a0, In .u8 x) (h2 : a1.length ≤ maxLen) (h3 : ∀ x ∈ a1, In .u8 x) : ∃ k, scrimlaw7_IdeaRounds.f k a0 a1 = some true := by
  obtain ⟨l, rfl, hl⟩ := il_of h1
  obtain ⟨l', rfl, hl'⟩ := il_of h3
  obtain ⟨k, rfl⟩ : ∃ k : Nat, k = 999 + 1 := ⟨1000, rfl⟩
  refine ⟨995 + 5, ?_⟩
  obtain ⟨m, e1, hm1, hm2⟩ := bytes7_eq (n := 16) (by decide) hl (k := 995 + 5) (by omega)
  obtain ⟨b, e4, hb1, hb2⟩ := bytes7_eq (n := 8) (by decide) hl' (k := 995 + 5) (by omega)
  simp only [Int.cast_ofNat_Int] at e1 e4
  have e2 := keys7_eq hm2 hm1 (k := 995 + 5) (by omega)
  obtain ⟨B, e3⟩ := new7_eq hm2 hm1 (k := 995 + 5) (by omega)
  have hK := kA_sm hm2
  have hl52 : ((kA m 7).take 52).length = 52 := by rw [List.length_take, kA_length]; rfl
  have hi52 : ((il ((kA m 7).take 52)).length : Int) = 52 := by rw [il_length, hl52]; rfl
  unfold scrimlaw7_IdeaRounds.f
  rw [known7_eq (show 600 ≤ 995 + 5 by omega), Option.bind_some, if_neg (by decide), e1, Option.bind_some, e3, Option.bind_some, Option.bind_some, e2, Option.bind_some]
  simp only [hi52, Option.isSome_some, Option.bind_some, if_true, bne_self_eq_false, Bool.false_eq_true, if_false]
  rw [e4, Option.bind_some, ir_l0 hb2 hb1]
  exact ir_l1 hK hl52 (blk4_sm hb2) (fun k hk => block7_eq hK hl52 hb2 hb1 hk) 8 (r := 0) (by omega) (by omega)
end Go.Scr.S
