/- The plain law of SmallNine. -/
import Derived.Test.YtahfhogifkkoeaaFnSmallNine
import Derived.Test.YtahfhogifkkoeaaLibNum
import Derived.Test.YtahfhogifkkoeaaLibIl
import Derived.Test.YtahfhogifkkoeaaLibGLoad
import Derived.Test.YtahfhogifkkoeaaLibFill
import Derived.Test.YtahfhogifkkoeaaLibGIl
import Derived.Test.YtahfhogifkkoeaaLibGStore
import Derived.Test.YtahfhogifkkoeaaLibSmNum
import Derived.Test.YtahfhogifkkoeaaLibSmWords
import Derived.Test.YtahfhogifkkoeaaLibSmX
import Derived.Test.YtahfhogifkkoeaaLibSmStr
import Derived.Test.YtahfhogifkkoeaaLibSmK
import Derived.Test.YtahfhogifkkoeaaLibSmallBytes
set_option linter.unusedVariables false
set_option linter.unusedSimpArgs false
set_option linter.unnecessarySimpa false
namespace Go.Scr.S
theorem rbig_l0 : ∀ (k : Nat) (l : List Int) (v i : Int), scrimref1_Big.l0 k l v i = words_load.l0 k l v i
  | 0, _, _, _ => rfl
  | k + 1, l, v, i => by simp only [scrimref1_Big.l0, words_load.l0, rbig_l0 k]
theorem rbig_eq {l : List Nat} {k : Nat} (hl : ∀ x ∈ l, x < 256) (h8 : l.length ≤ 8) (hk : 8 < k) : scrimref1_Big.f k (il l) = some ((bigN l : Nat) : Int) := by
  unfold scrimref1_Big.f; rw [rbig_l0]; exact load_eq hl h8 hk
theorem rput_eq {v k : Nat} : scrimref1_PutBe32.f k (v : Int) = some (il (dig v 4)) := by
  unfold scrimref1_PutBe32.f
  rw [shr_nat, shr_nat, shr_nat, U8_nat, U8_nat, U8_nat, U8_nat, dig4]; rfl
theorem nine_l0 {S : List Int × Int} {m : List Nat} {T : List Int} (hm : ∀ x ∈ m, x < 256) (h : m.length = 16) {i k : Nat} (hi : i < 4) (hk : 8 < k) (V : List Int) :
    scrimlaw8_SmallNine.l0 (k + 1) S T (il m) V (i : Int) = scrimlaw8_SmallNine.l0 k S T (il m) (V.set i ((bigN ((m.take (4 * i + 4)).drop (4 * i)) : Nat) : Int)) ((i + 1 : Nat) : Int) := by
  have a1 : I64 (4 * (i : Int)) = ((4 * i : Nat) : Int) := I64_nat (n := 4 * i) (by omega)
  have a3 : I64 (((4 * i : Nat) : Int) + 4) = ((4 * i + 4 : Nat) : Int) := I64_nat (n := 4 * i + 4) (by omega)
  have a2 : I64 ((i : Int) + 1) = ((i + 1 : Nat) : Int) := I64_nat (n := i + 1) (by omega)
  have hl : ((m.take (4 * i + 4)).drop (4 * i)).length = 4 := by rw [List.length_drop, List.length_take]; omega
  have hb : ∀ x ∈ (m.take (4 * i + 4)).drop (4 * i), x < 256 := fun x hx => hm x (List.mem_of_mem_take (List.mem_of_mem_drop hx))
  have b := rbig_eq (k := k) hb (by omega) hk
  have lt := bigN_lt _ hb
  rw [hl] at lt
  have u : U32 ((bigN ((m.take (4 * i + 4)).drop (4 * i)) : Nat) : Int) = ((bigN ((m.take (4 * i + 4)).drop (4 * i)) : Nat) : Int) := by rw [U32_nat, Nat.mod_eq_of_lt (by omega)]
  rw [scrimlaw8_SmallNine.l0, if_pos (by rw [decide_eq_true_eq]; omega), a1, a3, if_pos (by rw [decide_eq_true_eq]; omega), if_pos (by rw [decide_eq_true_eq]; omega), if_pos (by rw [decide_eq_true_eq, il_length]; omega), Int.toNat_natCast, Int.toNat_natCast, il_take, il_drop, b, Option.bind_some, u, if_pos (by rw [decide_eq_true_eq]; omega), if_pos (by rw [decide_eq_true_eq]; omega), Int.toNat_natCast, a2]
theorem nine_two {S : List Int × Int} {K : List Nat} (h4 : K.length = 4) {T : List Int} {i k s : Nat} {p : Nat × Nat} (hi : i < 32) (hs : s < 4294967296) (hp : Wd p) :
    scrimlaw8_SmallNine.l1 (k + 2) S T (il K) [(p.1 : Int), (p.2 : Int)] (s : Int) ((2 * i : Nat) : Int) = scrimlaw8_SmallNine.l1 k S T (il K) [((fwS K s p).1 : Int), ((fwS K s p).2 : Int)] ((wa s gold : Nat) : Int) ((2 * (i + 1) : Nat) : Int) := by
  have t0 : Int.tmod ((2 * i : Nat) : Int) 2 = 0 := by show ((2 * i % 2 : Nat) : Int) = 0; omega
  have t1 : Int.tmod ((2 * i + 1 : Nat) : Int) 2 = 1 := by show (((2 * i + 1) % 2 : Nat) : Int) = 1; omega
  have a1 : I64 (((2 * i : Nat) : Int) + 1) = ((2 * i + 1 : Nat) : Int) := I64_nat (n := 2 * i + 1) (by omega)
  have a2 : I64 (((2 * i + 1 : Nat) : Int) + 1) = ((2 * (i + 1) : Nat) : Int) := I64_nat (n := 2 * i + 1 + 1) (by omega)
  have hg := wa_lt s gold
  have r1 : ∀ a b : Int, rd [a, b] (I64 (1 - 0)) = b := fun _ _ => rfl
  have r0 : ∀ a b : Int, rd [a, b] 0 = a := fun _ _ => rfl
  have q1 : ∀ a b : Int, rd [a, b] (I64 (1 - 1)) = a := fun _ _ => rfl
  have q0 : ∀ a b : Int, rd [a, b] 1 = b := fun _ _ => rfl
  have s0 : ∀ a b v : Int, [a, b].set (0 : Int).toNat v = [v, b] := fun _ _ _ => rfl
  have s1 : ∀ a b v : Int, [a, b].set (1 : Int).toNat v = [a, v] := fun _ _ _ => rfl
  have v1 : decide (band .u32 (s : Int) 3 < 4) = true := b3_4 s hs rfl
  have v2 : decide (band .u32 (shr ((wa s gold : Nat) : Int) 11) 3 < 4) = true := b11_4 _ hg rfl
  have e1 := stI hp.2 (wa_lt s (K.getD (s % 4) 0))
  have e2 := stI (x := wa p.1 (st p.2 (kA K s))) (wa_lt p.1 (st p.2 (kA K s))) (wa_lt (wa s gold) (K.getD ((wa s gold >>> 11) % 4) 0))
  have e3 : bxor .u32 (U32 ((bxor .u32 (shl .u32 (p.2 : Int) 4) (shr (p.2 : Int) 5)) + (p.2 : Int))) ((kA K s : Nat) : Int) = ((st p.2 (kA K s) : Nat) : Int) := e1
  have e4 : bxor .u32 (U32 ((bxor .u32 (shl .u32 ((wa p.1 (st p.2 (kA K s)) : Nat) : Int) 4) (shr ((wa p.1 (st p.2 (kA K s)) : Nat) : Int) 5)) + ((wa p.1 (st p.2 (kA K s)) : Nat) : Int))) ((kB K (wa s gold) : Nat) : Int) = ((st (wa p.1 (st p.2 (kA K s))) (kB K (wa s gold)) : Nat) : Int) := e2
  rw [scrimlaw8_SmallNine.l1, if_pos (by rw [decide_eq_true_eq]; omega), t0, if_pos (by decide), if_pos (by decide), if_neg (by decide), if_pos (by decide), if_pos (by decide), if_pos (b3_0 s hs), if_pos v1, if_pos (by decide), if_pos (by decide), if_pos (by decide), r1, r0, s0, U32_kA K hs, e3, U32_add, U32_gold, a1]
  rw [scrimlaw8_SmallNine.l1, if_pos (by rw [decide_eq_true_eq]; omega), t1, if_pos (by decide), if_pos (by decide), if_pos (by decide), if_pos (by decide), if_pos (by decide), if_pos (b11_0 _ hg), if_pos v2, if_pos (by decide), if_pos (by decide), if_neg (by decide), q1, q0, s1, U32_kB K hg, e4, U32_add, a2]
  rfl
theorem nine_l1 {S : List Int × Int} {K : List Nat} (h4 : K.length = 4) {T : List Int} (d : Nat) {i k s : Nat} {p : Nat × Nat} (hi : i + d = 32) (hs : s < 4294967296) (hp : Wd p) :
    ∃ s' : Nat, scrimlaw8_SmallNine.l1 (k + 2 * d) S T (il K) [(p.1 : Int), (p.2 : Int)] (s : Int) ((2 * i : Nat) : Int) = scrimlaw8_SmallNine.l1 k S T (il K) [((fw K d s p).1 : Int), ((fw K d s p).2 : Int)] (s' : Int) 64 := by
  induction d generalizing i s p with
  | zero =>
    have : i = 32 := by omega
    subst this
    exact ⟨s, rfl⟩
  | succ d ih =>
    obtain ⟨s', e⟩ := ih (i := i + 1) (s := wa s gold) (p := fwS K s p) (by omega) (wa_lt _ _) (fwS_wd K s p)
    refine ⟨s', ?_⟩
    rw [show k + 2 * (d + 1) = (k + 2 * d) + 2 by omega, nine_two h4 (by omega) hs hp]
    exact e
theorem chunks (m : List Nat) (h : m.length = 16) : ((((([0, 0, 0, 0] : List Int).set 0 ((bigN ((m.take (4 * 0 + 4)).drop (4 * 0)) : Nat) : Int)).set 1 ((bigN ((m.take (4 * 1 + 4)).drop (4 * 1)) : Nat) : Int)).set 2 ((bigN ((m.take (4 * 2 + 4)).drop (4 * 2)) : Nat) : Int)).set 3 ((bigN ((m.take (4 * 3 + 4)).drop (4 * 3)) : Nat) : Int)) = il (W false m) := by
  obtain ⟨x0, x1, x2, x3, m, rfl, g1⟩ := four (n := 3) h
  obtain ⟨y0, y1, y2, y3, m, rfl, g2⟩ := four (n := 2) g1
  obtain ⟨z0, z1, z2, z3, m, rfl, g3⟩ := four (n := 1) g2
  obtain ⟨w0, w1, w2, w3, m, rfl, g4⟩ := four (n := 0) g3
  have : m = [] := List.eq_nil_of_length_eq_zero (by omega)
  subst this
  rfl
theorem SmallNine (a0 : List Int) (a1 : List Int) (h0 : a0.length ≤ maxLen) (h1 : ∀ x ∈ a0, In .u8 x) (h2 : a1.length ≤ maxLen) (h3 : ∀ x ∈ a1, In .u8 x) : ∃ k, scrimlaw8_SmallNine.f k a0 a1 = some true := by
  obtain ⟨l0, rfl, hl0⟩ := il_of h1
  obtain ⟨l1, rfl, hl1⟩ := il_of h3
  obtain ⟨k, hk⟩ : ∃ k : Nat, k = 900 := ⟨900, rfl⟩
  refine ⟨k, ?_⟩
  obtain ⟨m, b1, hm, hmb⟩ := bytes8_eq (n := 16) (by decide) hl0 (k := k) (by omega)
  obtain ⟨n, b2, hn, hnb⟩ := bytes8_eq (n := 8) (by decide) hl1 (k := k) (by omega)
  have wl := W_length false 4 m hm
  have nw := new4 hm hmb (k := k) (by omega)
  unfold scrimlaw8_SmallNine.f
  simp only [Int.cast_ofNat_Int] at b1 b2
  rw [known8_eq (by omega), Option.bind_some, if_neg (by decide), b1, Option.bind_some, b2, Option.bind_some, nw, Option.bind_some]
  show scrimlaw8_SmallNine.l0 k (il (W false m), 4) (il n) (il m) (List.replicate 4 0) 0 = _
  subst hk
  have r : List.replicate 4 (0 : Int) = [0, 0, 0, 0] := rfl
  rw [r]
  have s0 := nine_l0 (S := (il (W false m), 4)) (T := il n) hmb hm (i := 0) (k := 899) (by omega) (by omega) [0, 0, 0, 0]
  refine Eq.trans s0 ?_
  refine Eq.trans (nine_l0 (S := (il (W false m), 4)) (T := il n) hmb hm (i := 1) (k := 898) (by omega) (by omega) _) ?_
  refine Eq.trans (nine_l0 (S := (il (W false m), 4)) (T := il n) hmb hm (i := 2) (k := 897) (by omega) (by omega) _) ?_
  refine Eq.trans (nine_l0 (S := (il (W false m), 4)) (T := il n) hmb hm (i := 3) (k := 896) (by omega) (by omega) _) ?_
  rw [chunks m hm]
  have nl : (il n).length = 8 := by rw [il_length, hn]
  obtain ⟨x0, x1, x2, x3, n', en, hn'⟩ := four (n := 1) (l := n) (by omega)
  obtain ⟨y0, y1, y2, y3, n2, en2, hn2⟩ := four (n := 0) hn'
  have : n2 = [] := List.eq_nil_of_length_eq_zero (by omega)
  subst this
  subst en2
  have c0 : ((il n).take (4 : Int).toNat).drop (0 : Int).toNat = il [x0, x1, x2, x3] := by rw [en]; rfl
  have c1 : ((il n).take (((il n).length : Int) : Int).toNat).drop (4 : Int).toNat = il [y0, y1, y2, y3] := by rw [en]; rfl
  have g0 := rbig_eq (l := [x0, x1, x2, x3]) (k := 895) (fun x hx => hnb x (by rw [en]; simp at hx ⊢; omega)) (by simp) (by omega)
  have g1 := rbig_eq (l := [y0, y1, y2, y3]) (k := 895) (fun x hx => hnb x (by rw [en]; simp at hx ⊢; omega)) (by simp) (by omega)
  have wd := B2_wd false hn hnb
  have w0 : (B2 false n).1 = bigN [x0, x1, x2, x3] := by rw [en]; rfl
  have w1 : (B2 false n).2 = bigN [y0, y1, y2, y3] := by rw [en]; rfl
  rw [← w0] at g0
  rw [← w1] at g1
  have u0 : U32 ((B2 false n).1 : Int) = ((B2 false n).1 : Int) := by rw [U32_nat, Nat.mod_eq_of_lt wd.1]
  have u1 : U32 ((B2 false n).2 : Int) = ((B2 false n).2 : Int) := by rw [U32_nat, Nat.mod_eq_of_lt wd.2]
  show scrimlaw8_SmallNine.l0 (895 + 1) _ _ _ _ 4 = _
  rw [scrimlaw8_SmallNine.l0, if_neg (by decide), if_pos (by decide), if_pos (by rw [nl]; decide), if_pos (by rw [nl]; decide), c0, g0, Option.bind_some, c1, g1, Option.bind_some, u0, u1]
  obtain ⟨s', e⟩ := nine_l1 (S := (il (W false m), 4)) wl (T := il n) 32 (i := 0) (k := 831) (s := 0) (p := B2 false n) (by omega) (by decide) wd
  refine Eq.trans e ?_
  have bl := block4 wl hn hnb false (k := 830) (by omega)
  have ho := fw_wd (W false m) 32 0 _ wd
  have q0 : ∀ a b : Int, rd [a, b] 0 = a := fun _ _ => rfl
  have q1 : ∀ a b : Int, rd [a, b] 1 = b := fun _ _ => rfl
  show scrimlaw8_SmallNine.l1 (830 + 1) _ _ _ _ _ _ = _
  rw [scrimlaw8_SmallNine.l1, if_neg (by decide), bl, Option.bind_some, q0, q1, rput_eq, Option.bind_some, rput_eq, Option.bind_some, if_pos (by rw [decide_eq_true_eq, strOf_size, strOf_size, il_length, il_length, dig_length, dig_length]; decide), strOf_app, il_app]
  exact congrArg some (beq_self_eq_true _)
end Go.Scr.S
