/- The plain law of TwofishRounds. -/
import Derived.Test.YtngagagokcnnaaaFnTwofishRounds
import Derived.Test.YtngagagokcnnaaaLibNum
import Derived.Test.YtngagagokcnnaaaLibGf
import Derived.Test.YtngagagokcnnaaaLibFieldMu0
import Derived.Test.YtngagagokcnnaaaLibIl
import Derived.Test.YtngagagokcnnaaaLibGLoad
import Derived.Test.YtngagagokcnnaaaLibFill
import Derived.Test.YtngagagokcnnaaaLibGIl
import Derived.Test.YtngagagokcnnaaaLibGStore
import Derived.Test.YtngagagokcnnaaaLibGXor
import Derived.Test.YtngagagokcnnaaaLibTwQ
import Derived.Test.YtngagagokcnnaaaLibTwH
import Derived.Test.YtngagagokcnnaaaLibTwM
import Derived.Test.YtngagagokcnnaaaLibTwF
import Derived.Test.YtngagagokcnnaaaLibGRest
import Derived.Test.YtngagagokcnnaaaLibGRol
import Derived.Test.YtngagagokcnnaaaLibSmNum
import Derived.Test.YtngagagokcnnaaaLibTwKP
import Derived.Test.YtngagagokcnnaaaLibTwB
import Derived.Test.YtngagagokcnnaaaLibGRRol
import Derived.Test.YtngagagokcnnaaaLibSmStr
import Derived.Test.YtngagagokcnnaaaLibSmStr2
import Derived.Test.YtngagagokcnnaaaLibTwW
import Derived.Test.YtngagagokcnnaaaLibTwofishBytes
import Derived.Test.YtngagagokcnnaaaLibTwKey
import Derived.Test.YtngagagokcnnaaaLibTwK
set_option linter.unusedVariables false
set_option linter.unusedSimpArgs false
set_option linter.unnecessarySimpa false
namespace Go.Scr.S
theorem rlit4' {k : Nat} (a b c d : Int) (hk : 20 ≤ k) : scrimref1_Little.f k [a, b, c, d] = words_load.f k [d, c, b, a] := by
  obtain ⟨j, rfl⟩ : ∃ j, k = j + 20 := ⟨k - 20, by omega⟩
  kernel_rfl
theorem rlit {x : List Nat} (hx : B4 x) {k : Nat} (hk : 20 ≤ k) : scrimref1_Little.f k (il x) = some ((bigN x.reverse : Nat) : Int) := by
  obtain ⟨a, b, c, d, rfl⟩ := hx.four
  have q := rlit4' (k := k) (a : Int) (b : Int) (c : Int) (d : Int) hk
  refine Eq.trans q ?_
  exact load_eq (l := [d, c, b, a]) (k := k) (fun v hv => hx.2 v (by simp at hv ⊢; omega)) (by simp) (by omega)
theorem rput {v k : Nat} : scrimref1_PutLe32.f k (v : Int) = some (il (wb v)) := by
  unfold scrimref1_PutLe32.f wb
  rw [dig4, shr_nat, shr_nat, shr_nat, U8_nat, U8_nat, U8_nat, U8_nat]; rfl
theorem tr_s0 {s : List Int × List Int} {K : List Nat} {S : List Int} {e : Int} {P : List Nat} (hK : ∀ v ∈ K, v < 4294967296) (hKl : K.length = 40) (hl : P.length = 16) (hb : ∀ v ∈ P, v < 256) {x : List Nat} {j k : Nat} (hj : j < 4) (hk : 20 ≤ k) :
    scrimlaw9_TwofishRounds.l0 (k + 1) s (il K, S, e) (il P) (il x) (j : Int) = scrimlaw9_TwofishRounds.l0 k s (il K, S, e) (il P) (il (x.set j (bpw P j ^^^ K.getD j 0))) ((j + 1 : Nat) : Int) := by
  have c0 : ∀ z : Nat, decide (0 ≤ (z : Int)) = true := fun z => by rw [decide_eq_true_eq]; omega
  have c1 : decide ((j : Int) < 4) = true := by rw [decide_eq_true_eq]; omega
  have y0 : I64 (4 * (j : Int)) = ((4 * j : Nat) : Int) := I64_nat (n := 4 * j) (by omega)
  have y1 : I64 (((4 * j : Nat) : Int) + 4) = ((4 * j + 4 : Nat) : Int) := I64_nat (n := 4 * j + 4) (by omega)
  have a2 : I64 ((j : Int) + 1) = ((j + 1 : Nat) : Int) := I64_nat (n := j + 1) (by omega)
  have e' : ((il P).take (((4 * j + 4 : Nat) : Int)).toNat).drop (((4 * j : Nat) : Int)).toNat = il ((P.drop (4 * j)).take 4) := by rw [Int.toNat_natCast, Int.toNat_natCast, dt']
  have u : U32 ((bigN ((P.drop (4 * j)).take 4).reverse : Nat) : Int) = ((bpw P j : Nat) : Int) := by
    rw [U32_nat]; show ((bpw P j % 4294967296 : Nat) : Int) = _; rw [Nat.mod_eq_of_lt (bpw_lt hl hb hj)]
  rw [scrimlaw9_TwofishRounds.l0, if_pos c1, y0, y1, if_pos (c0 _), if_pos (by rw [decide_eq_true_eq]; omega), if_pos (by rw [decide_eq_true_eq, il_length, hl]; omega), if_pos (c0 _), if_pos (by rw [decide_eq_true_eq, il_length, hKl]; omega), e', rlit (pb_ok hl hb hj) hk, Option.bind_some, if_pos (c0 _), if_pos c1, u, il_rd', bx32 (bpw_lt hl hb hj) (getW hK _), Int.toNat_natCast, il_set, a2]
theorem tr_l0 {s : List Int × List Int} {K : List Nat} {S : List Int} {e : Int} {P : List Nat} (hK : ∀ v ∈ K, v < 4294967296) (hKl : K.length = 40) (hl : P.length = 16) (hb : ∀ v ∈ P, v < 256) {k : Nat} (hk : 20 ≤ k) :
    scrimlaw9_TwofishRounds.l0 (k + 5) s (il K, S, e) (il P) (List.replicate 4 (0 : Int)) 0 = scrimlaw9_TwofishRounds.l1 k s (il K, S, e) (il P) (il (whN K 0 (bpws P))) 0 := by
  have q := fun x (j k : Nat) (hj : j < 4) (hk : 20 ≤ k) => tr_s0 (s := s) (S := S) (e := e) hK hKl hl hb (x := x) hj hk
  have e0 := q [0, 0, 0, 0] 0 (k + 4) (by omega) (by omega)
  have e1 := q [bpw P 0 ^^^ K.getD 0 0, 0, 0, 0] 1 (k + 3) (by omega) (by omega)
  have e2 := q [bpw P 0 ^^^ K.getD 0 0, bpw P 1 ^^^ K.getD 1 0, 0, 0] 2 (k + 2) (by omega) (by omega)
  have e3 := q [bpw P 0 ^^^ K.getD 0 0, bpw P 1 ^^^ K.getD 1 0, bpw P 2 ^^^ K.getD 2 0, 0] 3 (k + 1) (by omega) (by omega)
  refine (e0.trans (e1.trans (e2.trans e3))).trans ?_
  rw [scrimlaw9_TwofishRounds.l0, if_neg (by decide)]; rfl
theorem tr_l1 {s : List Int × List Int} {K S : List Nat} {e : Int} {P : List Nat} (hS : ∀ v ∈ S, v < 4294967296) (hKl : K.length = 40) (d : Nat) : ∀ {i k : Nat} {x : List Nat}, i + d = 16 → W4 x → 220 ≤ k →
    scrimlaw9_TwofishRounds.l1 (k + d + 1) s (il K, il S, e) (il P) (il x) (i : Int) = (twofish_Twofish_Block.f k s (il P) false).bind fun t => scrimlaw9_TwofishRounds.l2 k (il K, il S, e) t (il (rnds K S i d x)) (⟨#[]⟩ : ByteArray) 0 := by
  induction d with
  | zero =>
    intro i k x hi hx hk
    have : i = 16 := by omega
    subst this
    show scrimlaw9_TwofishRounds.l1 (k + 1) _ _ _ _ _ = _
    rw [scrimlaw9_TwofishRounds.l1, if_neg (by decide)]; rfl
  | succ d ih =>
    intro i k x hi hx hk
    have g : ∀ j : Nat, rd (il x) (j : Int) = ((x.getD j 0 : Nat) : Int) := il_rd' x
    have g0 : rd (il x) 0 = ((x.getD 0 0 : Nat) : Int) := g 0
    have g1 : rd (il x) 1 = ((x.getD 1 0 : Nat) : Int) := g 1
    have g2 : rd (il x) 2 = ((x.getD 2 0 : Nat) : Int) := g 2
    have g3 : rd (il x) 3 = ((x.getD 3 0 : Nat) : Int) := g 3
    have a2 : I64 ((i : Int) + 1) = ((i + 1 : Nat) : Int) := I64_nat (n := i + 1) (by omega)
    have c0 : ∀ z : Nat, decide (0 ≤ (z : Int)) = true := fun z => by rw [decide_eq_true_eq]; omega
    have y0 : I64 (2 * (i : Int)) = ((2 * i : Nat) : Int) := I64_nat (n := 2 * i) (by omega)
    have y1 : I64 (((2 * i : Nat) : Int) + 8) = ((2 * i + 8 : Nat) : Int) := I64_nat (n := 2 * i + 8) (by omega)
    have y2 : I64 (((2 * i : Nat) : Int) + 9) = ((2 * i + 9 : Nat) : Int) := I64_nat (n := 2 * i + 9) (by omega)
    have h0 := h_eq hS (hx.at 0) (k := k + d + 1) (by omega)
    have q0 : scrimref1_Rol32.f (k + d + 1) ((x.getD 1 0 : Nat) : Int) 8 = some ((rolN (x.getD 1 0) 8 : Nat) : Int) := rrol32_eq (k := k + d + 1) (hx.at 1) 8
    have h1 := h_eq hS (rolN_lt (hx.at 1) (s := 8)) (k := k + d + 1) (by omega)
    have l2 := x32 (hx.at 2) (wa_lt (sT S (x.getD 0 0) (x.getD 1 0)) (K.getD (2 * i + 8) 0))
    obtain ⟨y, ey⟩ : ∃ y, y = x.getD 2 0 ^^^ wa (sT S (x.getD 0 0) (x.getD 1 0)) (K.getD (2 * i + 8) 0) := ⟨_, rfl⟩
    rw [← ey] at l2
    have r0 : scrimref1_Rol32.f (k + d + 1) (y : Int) 31 = some ((rolN y 31 : Nat) : Int) := rrol32_eq (k := k + d + 1) l2 31
    have r1 : scrimref1_Rol32.f (k + d + 1) ((x.getD 3 0 : Nat) : Int) 1 = some ((rolN (x.getD 3 0) 1 : Nat) : Int) := rrol32_eq (k := k + d + 1) (hx.at 3) 1
    have eT : wa (wa (hN S (x.getD 0 0)) (hN S (rolN (x.getD 1 0) 8))) (K.getD (2 * i + 8) 0) = wa (sT S (x.getD 0 0) (x.getD 1 0)) (K.getD (2 * i + 8) 0) := rfl
    have eU : wa (wa (hN S (x.getD 0 0)) (wa (hN S (rolN (x.getD 1 0) 8)) (hN S (rolN (x.getD 1 0) 8)))) (K.getD (2 * i + 9) 0) = wa (sU S (x.getD 0 0) (x.getD 1 0)) (K.getD (2 * i + 9) 0) := rfl
    show scrimlaw9_TwofishRounds.l1 (k + d + 1 + 1) _ _ _ _ _ = _
    rw [scrimlaw9_TwofishRounds.l1, if_pos (by rw [decide_eq_true_eq]; omega), g0, g1, g2, g3, h0, Option.bind_some, q0, Option.bind_some, h1, Option.bind_some, y0, y1, y2, if_pos (c0 _), if_pos (by rw [decide_eq_true_eq, il_length, hKl]; omega), il_rd', il_rd', U32_add, U32_add, eT, bx32 (hx.at 2) (wa_lt _ _), ← ey, r0, Option.bind_some, if_pos (c0 _), if_pos (by rw [decide_eq_true_eq, il_length, hKl]; omega), r1, Option.bind_some, U32_two, U32_add, U32_add, eU, bx32 (rolN_lt (hx.at 3)) (wa_lt _ _), Option.bind_some, a2, ey]
    have e1 : rnds K S i (d + 1) x = rnds K S (i + 1) d (rnd K S i x) := rfl
    rw [e1]
    have e2 : il (rnd K S i x) = [((rolN (x.getD 2 0 ^^^ wa (sT S (x.getD 0 0) (x.getD 1 0)) (K.getD (2 * i + 8) 0)) 31 : Nat) : Int), ((rolN (x.getD 3 0) 1 ^^^ wa (sU S (x.getD 0 0) (x.getD 1 0)) (K.getD (2 * i + 9) 0) : Nat) : Int), ((x.getD 0 0 : Nat) : Int), ((x.getD 1 0 : Nat) : Int)] := rfl
    rw [← e2]
    exact ih (by omega) (rnd_ok K S i hx) hk
theorem tr_s2 {t : List Int × Int} {K : List Nat} {S : List Int} {e : Int} (hK : ∀ v ∈ K, v < 4294967296) (hKl : K.length = 40) {x acc : List Nat} (hx : W4 x) (ha : acc.length < 1000) {j k : Nat} (hj : j < 4) :
    scrimlaw9_TwofishRounds.l2 (k + 1) (il K, S, e) t (il x) (strOf (il acc)) (j : Int) = scrimlaw9_TwofishRounds.l2 k (il K, S, e) t (il x) (strOf (il (acc ++ wb (x.getD ((j + 2) % 4) 0 ^^^ K.getD (j + 4) 0)))) ((j + 1 : Nat) : Int) := by
  have c0 : ∀ z : Nat, decide (0 ≤ (z : Int)) = true := fun z => by rw [decide_eq_true_eq]; omega
  have c1 : decide ((j : Int) < 4) = true := by rw [decide_eq_true_eq]; omega
  have y0 : I64 ((j : Int) + 2) = ((j + 2 : Nat) : Int) := I64_nat (n := j + 2) (by omega)
  have y1 : I64 ((j : Int) + 4) = ((j + 4 : Nat) : Int) := I64_nat (n := j + 4) (by omega)
  have a2 : I64 ((j : Int) + 1) = ((j + 1 : Nat) : Int) := I64_nat (n := j + 1) (by omega)
  have tm : Int.tmod ((j + 2 : Nat) : Int) 4 = (((j + 2) % 4 : Nat) : Int) := (Int.ofNat_tmod (j + 2) 4).symm
  have sz : (strOf (il acc)).size + (strOf (il (wb (x.getD ((j + 2) % 4) 0 ^^^ K.getD (j + 4) 0)))).size ≤ 1000000000 := by
    rw [strOf_size, strOf_size, il_length, il_length, (wb_ok _).1]; omega
  rw [scrimlaw9_TwofishRounds.l2, if_pos c1, y0, y1, tm, if_pos (c0 _), if_pos (by rw [decide_eq_true_eq]; omega), if_pos (c0 _), if_pos (by rw [decide_eq_true_eq, il_length, hKl]; omega), il_rd', il_rd', bx32 (hx.at _) (getW hK _), rput, Option.bind_some, if_pos (by rw [decide_eq_true_eq]; exact sz), strOf_app, ← il_append, a2]
theorem tr_l2 {t : List Int × Int} {K : List Nat} {S : List Int} {e : Int} (hK : ∀ v ∈ K, v < 4294967296) (hKl : K.length = 40) {x : List Nat} (hx : W4 x) {k : Nat} :
    scrimlaw9_TwofishRounds.l2 (k + 5) (il K, S, e) t (il x) (⟨#[]⟩ : ByteArray) 0 = some ((strOf t.1).toList == (strOf (il (outN (whN K 4 (swp x))))).toList) := by
  have w : ∀ v, (wb v).length = 4 := fun v => (wb_ok v).1
  have q := fun acc (j k : Nat) (hj : j < 4) (ha : acc.length < 1000) => tr_s2 (t := t) (S := S) (e := e) hK hKl hx (acc := acc) (k := k) ha hj
  have e0 := q [] 0 (k + 4) (by omega) (by simp)
  have e1 := q ([] ++ wb (x.getD 2 0 ^^^ K.getD 4 0)) 1 (k + 3) (by omega) (by simp [w])
  have e2 := q ([] ++ wb (x.getD 2 0 ^^^ K.getD 4 0) ++ wb (x.getD 3 0 ^^^ K.getD 5 0)) 2 (k + 2) (by omega) (by simp [w])
  have e3 := q ([] ++ wb (x.getD 2 0 ^^^ K.getD 4 0) ++ wb (x.getD 3 0 ^^^ K.getD 5 0) ++ wb (x.getD 0 0 ^^^ K.getD 6 0)) 3 (k + 1) (by omega) (by simp [w])
  refine (Eq.trans ?_ (e0.trans (e1.trans (e2.trans e3)))).trans ?_
  · rfl
  rw [scrimlaw9_TwofishRounds.l2, if_neg (by decide)]; rfl
theorem TwofishRounds (a0 : List Int) (a1 : Int) (a2 : List Int) (h0 : a0.length ≤ maxLen) (h1 : ∀ x ∈ a0, In .u8 x) (h2 : In .i64 a1) (h3 : a2.length ≤ maxLen) (h4 : ∀ x ∈ a2, In .u8 x) : ∃ k, scrimlaw9_TwofishRounds.f k a0 a1 a2 = some true := by
  refine ⟨1000, ?_⟩
  obtain ⟨l, rfl, hl⟩ := il_of h1
  obtain ⟨b, rfl, hb⟩ := il_of h4
  obtain ⟨m, n, em, hn, hml, hmb⟩ := key9_eq a1 hl (k := 1000) (by omega)
  obtain ⟨P, eP, hP, hPb⟩ := bytes9_eq (n := 16) (by decide) hb (k := 1000) (by omega)
  obtain ⟨l1, l2, l3⟩ := esd_len n m hml
  obtain ⟨b1, b2, b3⟩ := esd_lt n m hml hmb
  have ke := keys_eq hml hn hmb (k := 1000) (by omega)
  have hK := ks_lt (ev m) (od m) 20 0
  have hKl : (ks (ev m) (od m) 0 20).length = 40 := ks_length _ _ _ _
  have hS : ∀ v ∈ (sd m).reverse, v < 4294967296 := fun v hv => b3 v (by simpa using hv)
  have hSl : 2 ≤ (sd m).reverse.length := by rw [List.length_reverse]; omega
  generalize ks (ev m) (od m) 0 20 = K at ke hK hKl
  generalize (sd m).reverse = S at ke hS hSl
  have ne : twofish_New.f 1000 (il m) = some (some (il K, il S), 0) := by
    unfold twofish_New.f
    rw [ke, Option.bind_some, if_neg (by simp)]
  have eP' : scrimlaw9_Bytes.f 1000 16 (il b) = some (il P) := eP
  have o0 := whN_ok hK 0 (bpws_ok hP hPb)
  have o1 := rnds_ok K S 16 0 _ o0
  have f0 := tr_l0 (s := (il K, il S)) (S := il S) (e := 0) hK hKl hP hPb (k := 995) (by omega)
  have f1 := tr_l1 (s := (il K, il S)) (e := 0) (P := P) hS hKl 16 (i := 0) (k := 978) (by omega) o0 (by omega)
  have f2 := tr_l2 (t := (il (fwd K S P), 0)) (S := il S) (e := 0) hK hKl o1 (k := 973)
  have fb := fwd_eq hK hKl hS hP hPb (k := 978) (by omega)
  unfold scrimlaw9_TwofishRounds.f
  rw [known9_eq (by omega), Option.bind_some, if_neg (by decide), em, Option.bind_some, ne, Option.bind_some, Option.bind_some, ke, Option.bind_some, if_neg (by simp), if_neg (by simp), if_pos (by simp)]
  show (if (((il K).length : Int) != 40) = true then _ else _) = _
  rw [if_neg (by rw [il_length, hKl]; decide), if_neg (by rw [decide_eq_true_eq, il_length]; omega), eP', Option.bind_some]
  refine f0.trans (f1.trans ?_)
  rw [fb, Option.bind_some]
  refine f2.trans ?_
  show some ((strOf (il (fwd K S P))).toList == (strOf (il (fwd K S P))).toList) = some true
  rw [beq_self_eq_true]
end Go.Scr.S
