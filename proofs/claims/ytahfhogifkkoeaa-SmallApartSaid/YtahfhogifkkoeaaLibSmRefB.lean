/- The plain law of SmRefB. -/
import Derived.Test.YtahfhogifkkoeaaFnSmallApart
import Derived.Test.YtahfhogifkkoeaaLibNum
import Derived.Test.YtahfhogifkkoeaaLibIl
import Derived.Test.YtahfhogifkkoeaaLibGRest
import Derived.Test.YtahfhogifkkoeaaLibGRol
import Derived.Test.YtahfhogifkkoeaaLibGRRol
import Derived.Test.YtahfhogifkkoeaaLibSmNum
import Derived.Test.YtahfhogifkkoeaaLibSmRol
import Derived.Test.YtahfhogifkkoeaaLibSmG
import Derived.Test.YtahfhogifkkoeaaLibSmGR
import Derived.Test.YtahfhogifkkoeaaLibGLoad
import Derived.Test.YtahfhogifkkoeaaLibFill
import Derived.Test.YtahfhogifkkoeaaLibGIl
import Derived.Test.YtahfhogifkkoeaaLibGStore
import Derived.Test.YtahfhogifkkoeaaLibSmWords
import Derived.Test.YtahfhogifkkoeaaLibSmX
import Derived.Test.YtahfhogifkkoeaaLibSmM
import Derived.Test.YtahfhogifkkoeaaLibSmR5
import Derived.Test.YtahfhogifkkoeaaLibSmRefN
set_option linter.unusedVariables false
set_option linter.unusedSimpArgs false
set_option linter.unnecessarySimpa false
namespace Go.Scr.S
theorem rput_eq {v k : Nat} : scrimref1_PutBe32.f k (v : Int) = some (il (dig v 4)) := by
  unfold scrimref1_PutBe32.f
  rw [shr_nat, shr_nat, shr_nat, U8_nat, U8_nat, U8_nat, U8_nat, dig4]; rfl
theorem rputl_eq {v k : Nat} : scrimref1_PutLe32.f k (v : Int) = some (il (digR v)) := by
  unfold scrimref1_PutLe32.f digR
  rw [shr_nat, shr_nat, shr_nat, U8_nat, U8_nat, U8_nat, U8_nat, dig4]; rfl
theorem lays_eq {K : List Nat} (h4 : K.length = 4) (tag : Int) {x s t k : Nat} (hx : x < 4294967296) : scrimref8_Small_lays.f k (tag, il K) (x : Int) (s : Int) (t : Int) = some ((st x (wa s (K.getD (t % 4) 0)) : Nat) : Int) := by
  have lK : ((il K).length : Int) = 4 := by rw [il_length, h4]; rfl
  have t4 : Int.tmod (t : Int) 4 = ((t % 4 : Nat) : Int) := rfl
  unfold scrimref8_Small_lays.f
  rw [Option.bind_some, t4, lK, if_pos (by rw [decide_eq_true_eq]; omega), if_pos (by rw [decide_eq_true_eq]; omega), il_rd', U32_add, stI hx (wa_lt _ _)]
theorem rx_l0 {K : List Nat} (h4 : K.length = 4) (tag : Int) (d : Nat) {k i s : Nat} {p : Nat × Nat} (hk : d < k) (hi : i + d = 32) (hp : Wd p) :
    scrimref8_Small_xtea.l0 k (tag, il K) (p.1 : Int) (p.2 : Int) (s : Int) (i : Int) = some (pI (fw K d s p)) := by
  induction d generalizing k i s p with
  | zero =>
    obtain ⟨k, rfl⟩ : ∃ j, k = j + 1 := ⟨k - 1, by omega⟩
    rw [scrimref8_Small_xtea.l0, if_neg (by rw [decide_eq_true_eq]; omega)]; rfl
  | succ d ih =>
    obtain ⟨k, rfl⟩ : ∃ j, k = j + 1 := ⟨k - 1, by omega⟩
    have a2 : I64 ((i : Int) + 1) = ((i + 1 : Nat) : Int) := I64_nat (n := i + 1) (by omega)
    rw [scrimref8_Small_xtea.l0, if_pos (by rw [decide_eq_true_eq]; omega), lays_eq h4 tag hp.2, Option.bind_some, U32_add, U32_gold, shr_nat, lays_eq h4 tag (wa_lt _ _), Option.bind_some, U32_add, a2]
    exact ih (p := fwS K s p) (by omega) (by omega) (fwS_wd K s p)
theorem rx_l2 {K : List Nat} (h4 : K.length = 4) (tag : Int) (d : Nat) {k i s : Nat} {p : Nat × Nat} (hk : d < k) (hi : i + d = 32) (hp : Wd p) :
    scrimref8_Small_xtea.l2 k (tag, il K) (p.1 : Int) (p.2 : Int) (s : Int) (i : Int) = some (pI (bk K d s p)) := by
  induction d generalizing k i s p with
  | zero =>
    obtain ⟨k, rfl⟩ : ∃ j, k = j + 1 := ⟨k - 1, by omega⟩
    rw [scrimref8_Small_xtea.l2, if_neg (by rw [decide_eq_true_eq]; omega)]; rfl
  | succ d ih =>
    obtain ⟨k, rfl⟩ : ∃ j, k = j + 1 := ⟨k - 1, by omega⟩
    have a2 : I64 ((i : Int) + 1) = ((i + 1 : Nat) : Int) := I64_nat (n := i + 1) (by omega)
    have l1 : st p.1 (wa s (K.getD ((s >>> 11) % 4) 0)) < 4294967296 := st_lt (wa_lt _ _)
    have l2 : st (ws p.2 (st p.1 (wa s (K.getD ((s >>> 11) % 4) 0)))) (wa (ws s gold) (K.getD (ws s gold % 4) 0)) < 4294967296 := st_lt (wa_lt _ _)
    rw [scrimref8_Small_xtea.l2, if_pos (by rw [decide_eq_true_eq]; omega), shr_nat, lays_eq h4 tag hp.1, Option.bind_some, U32_sub l1, U32_ngold, lays_eq h4 tag (ws_lt _ _), Option.bind_some, U32_sub l2, a2]
    exact ih (p := bkS K s p) (by omega) (by omega) (bkS_wd K s p)
theorem rx_l1 {K : List Nat} (h4 : K.length = 4) (tag : Int) {p : Nat × Nat} (hp : Wd p) (d : Nat) {k i s : Nat} (hk : d + 40 < k) (hi : i + d = 32) (hs : s = i * gold % 4294967296) :
    scrimref8_Small_xtea.l1 k (tag, il K) (p.1 : Int) (p.2 : Int) (s : Int) (i : Int) = some (pI (bk K 32 3337565984 p)) := by
  induction d generalizing k i s with
  | zero =>
    obtain ⟨k, rfl⟩ : ∃ j, k = j + 1 := ⟨k - 1, by omega⟩
    have : i = 32 := by omega
    subst this
    have e : s = 3337565984 := by rw [hs]; unfold gold; omega
    rw [scrimref8_Small_xtea.l1, if_neg (by rw [decide_eq_true_eq]; omega), e]
    exact rx_l2 h4 tag 32 (i := 0) (by omega) (by omega) hp
  | succ d ih =>
    obtain ⟨k, rfl⟩ : ∃ j, k = j + 1 := ⟨k - 1, by omega⟩
    have a2 : I64 ((i : Int) + 1) = ((i + 1 : Nat) : Int) := I64_nat (n := i + 1) (by omega)
    rw [scrimref8_Small_xtea.l1, if_pos (by rw [decide_eq_true_eq]; omega), U32_gold, a2]
    exact ih (by omega) (by omega) (by rw [hs]; unfold wa gold; omega)
theorem rxtea_eq {K : List Nat} (h4 : K.length = 4) (tag : Int) (dir : Bool) {k : Nat} {p : Nat × Nat} (hp : Wd p) (hk : 100 ≤ k) : scrimref8_Small_xtea.f k (tag, il K) (p.1 : Int) (p.2 : Int) dir = some (pI (xt K dir p)) := by
  unfold scrimref8_Small_xtea.f
  cases dir with
  | false => rw [if_pos (by decide)]; exact rx_l0 h4 tag 32 (i := 0) (s := 0) (by omega) (by omega) hp
  | true => rw [if_neg (by decide)]; exact rx_l1 h4 tag hp 32 (i := 0) (s := 0) (by omega) (by omega) (by decide)
theorem rm_l0 {K : List Nat} (h8 : K.length = 8) (tag : Int) (dir : Bool) (d : Nat) {k i : Nat} {p : Nat × Nat} (hk : d + 20 < k) (hi : i + d = 32) (hp : Wd p) :
    scrimref8_Small_magma.l0 k (tag, il K) dir (p.1 : Int) (p.2 : Int) (i : Int) = some (((mgI (sched K dir) i d p).2 : Int), ((mgI (sched K dir) i d p).1 : Int)) := by
  induction d generalizing k i p with
  | zero =>
    obtain ⟨k, rfl⟩ : ∃ j, k = j + 1 := ⟨k - 1, by omega⟩
    rw [scrimref8_Small_magma.l0, if_neg (by rw [decide_eq_true_eq]; omega)]; rfl
  | succ d ih =>
    obtain ⟨k, rfl⟩ : ∃ j, k = j + 1 := ⟨k - 1, by omega⟩
    have a2 : I64 ((i : Int) + 1) = ((i + 1 : Nat) : Int) := I64_nat (n := i + 1) (by omega)
    have next := ih (k := k) (i := i + 1) (p := (p.2, p.1 ^^^ gN (wa p.2 ((sched K dir).getD i 0)))) (by omega) (by omega) (mg_wd (L := K) hp _)
    have e : mgI (sched K dir) i (d + 1) p = mgI (sched K dir) (i + 1) d (p.2, p.1 ^^^ gN (wa p.2 ((sched K dir).getD i 0))) := rfl
    rw [← e, sched_at h8 dir (by omega)] at next
    have lK : ((il K).length : Int) = 8 := by rw [il_length, h8]; rfl
    have c0 : decide ((i : Int) < 32) = true := by rw [decide_eq_true_eq]; omega
    have i31 : I64 (31 - (i : Int)) = ((31 - i : Nat) : Int) := by rw [I64_id (by omega) (by omega)]; omega
    have i32 : I64 (31 - ((31 - i : Nat) : Int)) = (i : Int) := by rw [I64_id (by omega) (by omega)]; omega
    have tm : ∀ z : Nat, Int.tmod (z : Int) 8 = ((z % 8 : Nat) : Int) := fun z => rfl
    have z0 : ∀ z : Nat, decide (0 ≤ (z : Int)) = true := fun z => by rw [decide_eq_true_eq]; omega
    have z8 : ∀ z : Nat, decide (((z % 8 : Nat) : Int) < 8) = true := fun z => by rw [decide_eq_true_eq]; omega
    have bx := fun v => bx32 hp.1 (gN_lt v)
    cases dir with
    | true =>
      rw [if_pos rfl] at next
      by_cases h24 : 24 ≤ 31 - i
      · rw [if_pos h24, show 7 - (31 - i) % 8 = i by omega] at next
        rw [scrimref8_Small_magma.l0, if_pos c0, if_pos rfl, i31, if_pos (by rw [decide_eq_true_eq]; omega), i32, if_pos (z0 _), lK, if_pos (by rw [decide_eq_true_eq]; omega), il_rd', rG_eq (by omega), Option.bind_some, bx, a2]
        exact next
      · rw [if_neg h24] at next
        rw [scrimref8_Small_magma.l0, if_pos c0, if_pos rfl, i31, if_neg (by rw [decide_eq_true_eq]; omega), tm, if_pos (z0 _), lK, if_pos (z8 _), il_rd', rG_eq (by omega), Option.bind_some, bx, a2]
        exact next
    | false =>
      rw [if_neg (by decide)] at next
      by_cases h24 : 24 ≤ i
      · rw [if_pos h24, show 7 - i % 8 = 31 - i by omega] at next
        rw [scrimref8_Small_magma.l0, if_pos c0, if_neg (by decide), if_pos (by rw [decide_eq_true_eq]; omega), i31, if_pos (z0 _), lK, if_pos (by rw [decide_eq_true_eq]; omega), il_rd', rG_eq (by omega), Option.bind_some, bx, a2]
        exact next
      · rw [if_neg h24] at next
        rw [scrimref8_Small_magma.l0, if_pos c0, if_neg (by decide), if_neg (by rw [decide_eq_true_eq]; omega), tm, if_pos (z0 _), lK, if_pos (z8 _), il_rd', rG_eq (by omega), Option.bind_some, bx, a2]
        exact next
theorem rrolM {a z k : Nat} (ha : a < 4294967296) : scrimref1_Rol32.f k (a : Int) (I64 (32 - ((z % 32 : Nat) : Int))) = some ((rolN a ((32 - z % 32) % 32) : Nat) : Int) := by
  have e : I64 (32 - ((z % 32 : Nat) : Int)) = 32 - ((z % 32 : Nat) : Int) := I64_id (by omega) (by omega)
  have e2 : ((32 - ((z % 32 : Nat) : Int)) % 32).toNat = (32 - z % 32) % 32 := by omega
  rw [e, rrol32_eq ha, e2]
theorem rr_l0 {S : List Nat} (h : S.length = 26) (tag : Int) (d : Nat) {k i : Nat} {p : Nat × Nat} (hk : d < k) (hi : i + d = 13) (hp : Wd p) :
    scrimref8_Small_rc5.l0 k (tag, il S) (p.1 : Int) (p.2 : Int) (i : Int) = some (pI (e5 S d i p)) := by
  induction d generalizing k i p with
  | zero =>
    obtain ⟨k, rfl⟩ : ∃ j, k = j + 1 := ⟨k - 1, by omega⟩
    rw [scrimref8_Small_rc5.l0, if_neg (by rw [decide_eq_true_eq]; omega)]; rfl
  | succ d ih =>
    obtain ⟨k, rfl⟩ : ∃ j, k = j + 1 := ⟨k - 1, by omega⟩
    have lS : ((il S).length : Int) = 26 := by rw [il_length, h]; rfl
    have a0 : I64 (2 * (i : Int)) = ((2 * i : Nat) : Int) := I64_nat (n := 2 * i) (by omega)
    have a1 : I64 (((2 * i : Nat) : Int) + 1) = ((2 * i + 1 : Nat) : Int) := I64_nat (n := 2 * i + 1) (by omega)
    have a2 : I64 ((i : Int) + 1) = ((i + 1 : Nat) : Int) := I64_nat (n := i + 1) (by omega)
    have c0 : ∀ z : Nat, decide (0 ≤ (z : Int)) = true := fun z => by rw [decide_eq_true_eq]; omega
    have c1 : decide (((2 * i : Nat) : Int) < 26) = true := by rw [decide_eq_true_eq]; omega
    have c2 : decide (((2 * i + 1 : Nat) : Int) < 26) = true := by rw [decide_eq_true_eq]; omega
    rw [scrimref8_Small_rc5.l0, lS, if_pos (by rw [decide_eq_true_eq]; omega), a0, if_pos (c0 _), if_pos c1, bx32 hp.1 hp.2, tm32, rrolP (x32 hp.1 hp.2), Option.bind_some, a1, if_pos (c0 _), if_pos c2, il_rd', il_rd', U32_add, bx32 hp.2 (wa_lt _ _), tm32, rrolP (x32 hp.2 (wa_lt _ _)), Option.bind_some, U32_add, Option.bind_some, a2]
    exact ih (p := eS S i p) (by omega) (by omega) (eS_wd S i p)
theorem rr_l1 {S : List Nat} (h : S.length = 26) (hS : ∀ x ∈ S, x < 4294967296) (tag : Int) (i : Nat) {k : Nat} {p : Nat × Nat} (hk : i < k) (hi : i < 13) (hp : Wd p) :
    scrimref8_Small_rc5.l1 k (tag, il S) (p.1 : Int) (p.2 : Int) (i : Int) = some (pI (ws (d5 S i p).1 (S.getD 0 0), ws (d5 S i p).2 (S.getD 1 0))) := by
  have lS : ((il S).length : Int) = 26 := by rw [il_length, h]; rfl
  have g := fun j => getW hS j
  induction i generalizing k p with
  | zero =>
    obtain ⟨k, rfl⟩ : ∃ j, k = j + 1 := ⟨k - 1, by omega⟩
    have r0 : rd (il S) 0 = ((S.getD 0 0 : Nat) : Int) := il_rd' S 0
    have r1 : rd (il S) 1 = ((S.getD 1 0 : Nat) : Int) := il_rd' S 1
    rw [scrimref8_Small_rc5.l1, if_neg (by decide), lS, if_pos (by decide), if_pos (by decide), r0, r1, U32_sub (g 0), U32_sub (g 1)]; rfl
  | succ i ih =>
    obtain ⟨k, rfl⟩ : ∃ j, k = j + 1 := ⟨k - 1, by omega⟩
    have a0 : I64 (2 * ((i + 1 : Nat) : Int)) = ((2 * (i + 1) : Nat) : Int) := I64_nat (n := 2 * (i + 1)) (by omega)
    have a1 : I64 (((2 * (i + 1) : Nat) : Int) + 1) = ((2 * (i + 1) + 1 : Nat) : Int) := I64_nat (n := 2 * (i + 1) + 1) (by omega)
    have a2 : I64 (((i + 1 : Nat) : Int) - 1) = (i : Int) := by rw [I64_id (by omega) (by omega)]; omega
    have c0 : ∀ z : Nat, decide (0 ≤ (z : Int)) = true := fun z => by rw [decide_eq_true_eq]; omega
    have c1 : decide (((2 * (i + 1) : Nat) : Int) < 26) = true := by rw [decide_eq_true_eq]; omega
    have c2 : decide (((2 * (i + 1) + 1 : Nat) : Int) < 26) = true := by rw [decide_eq_true_eq]; omega
    have c3 : decide (((i + 1 : Nat) : Int) ≥ 1) = true := by rw [decide_eq_true_eq]; omega
    have hb := dB_lt S (i + 1) hp
    have eb : bxor .u32 ((rolN (ws p.2 (S.getD (2 * (i + 1) + 1) 0)) ((32 - p.1 % 32) % 32) : Nat) : Int) (p.1 : Int) = ((dB S (i + 1) p : Nat) : Int) := bx32 (rolN_lt (ws_lt _ _)) hp.1
    rw [scrimref8_Small_rc5.l1, lS, if_pos c3, a0, a1, if_pos (c0 _), if_pos c2, il_rd', U32_sub (g _), Option.bind_some, tm32, rrolM (ws_lt _ _), Option.bind_some, if_pos (c0 _), if_pos c1, eb, tm32, Option.bind_some, il_rd', U32_sub (g _), rrolM (ws_lt _ _), Option.bind_some, bx32 (rolN_lt (ws_lt _ _)) hb, a2]
    exact ih (p := dS S (i + 1) p) (by omega) (by omega) (dS_wd S _ hp)
theorem rrc5_eq {S : List Nat} (h : S.length = 26) (hS : ∀ x ∈ S, x < 4294967296) (tag : Int) (dir : Bool) {k : Nat} {p : Nat × Nat} (hp : Wd p) (hk : 40 ≤ k) : scrimref8_Small_rc5.f k (tag, il S) (p.1 : Int) (p.2 : Int) dir = some (pI (r5 S dir p)) := by
  have lS : ((il S).length : Int) = 26 := by rw [il_length, h]; rfl
  have r0 : rd (il S) 0 = ((S.getD 0 0 : Nat) : Int) := il_rd' S 0
  have r1 : rd (il S) 1 = ((S.getD 1 0 : Nat) : Int) := il_rd' S 1
  unfold scrimref8_Small_rc5.f
  cases dir with
  | false =>
    rw [if_pos (by decide), lS, if_pos (by decide), if_pos (by decide), r0, r1, U32_add, U32_add]
    exact rr_l0 h tag 12 (i := 1) (p := (wa p.1 (S.getD 0 0), wa p.2 (S.getD 1 0))) (by omega) (by omega) ⟨wa_lt _ _, wa_lt _ _⟩
  | true =>
    rw [if_neg (by decide)]
    exact rr_l1 h hS tag 12 (by omega) (by omega) hp
theorem rblock4 {K : List Nat} (h4 : K.length = 4) {m : List Nat} (h : m.length = 8) (hm : ∀ x ∈ m, x < 256) (dir : Bool) {k : Nat} (hk : 200 ≤ k) :
    scrimref8_Small_Block.f k (4, il K) (il m) dir = some (il (outB (xt K dir (B2 false m))), 0) := by
  have l := rbigs (n := 2) (k := k) (by omega) (by decide) hm (by omega)
  have wl : (il (W false m)).length = 2 := by rw [il_length, W_length false 2 m h]
  have hp := B2_wd false h hm
  have x := rxtea_eq h4 4 dir (k := k) hp (by omega)
  have r0 : rd (il (W false m)) 0 = ((B2 false m).1 : Int) := il_rd' _ 0
  have r1 : rd (il (W false m)) 1 = ((B2 false m).2 : Int) := il_rd' _ 1
  unfold scrimref8_Small_Block.f
  rw [if_neg (by rw [il_length, h]; decide), show ((4 : Int) == 8) = false from by decide, show ((4 : Int) == 4) = true from by decide, if_neg (by decide), l, Option.bind_some, if_pos (by rw [wl]; decide), if_pos (by rw [wl]; decide), if_pos rfl, r0, r1, x, Option.bind_some]
  show (scrimref1_PutBe32.f k (((xt K dir (B2 false m)).1 : Nat) : Int)).bind _ = _
  rw [rput_eq, Option.bind_some]
  show (scrimref1_PutBe32.f k (((xt K dir (B2 false m)).2 : Nat) : Int)).bind _ = _
  rw [rput_eq, Option.bind_some, if_pos (by rw [decide_eq_true_eq, il_length, il_length, dig_length, dig_length]; decide), il_app]; rfl
theorem rblock5 {K : List Nat} (h8 : K.length = 8) {m : List Nat} (h : m.length = 8) (hm : ∀ x ∈ m, x < 256) (dir : Bool) {k : Nat} (hk : 200 ≤ k) :
    scrimref8_Small_Block.f k (5, il K) (il m) dir = some (il (outB (mag K dir (B2 false m))), 0) := by
  have l := rbigs (n := 2) (k := k) (by omega) (by decide) hm (by omega)
  have wl : (il (W false m)).length = 2 := by rw [il_length, W_length false 2 m h]
  have hp := B2_wd false h hm
  have x : scrimref8_Small_magma.f k (5, il K) ((B2 false m).1 : Int) ((B2 false m).2 : Int) dir = some (pI (mag K dir (B2 false m))) := rm_l0 h8 5 dir 32 (i := 0) (by omega) (by omega) hp
  have r0 : rd (il (W false m)) 0 = ((B2 false m).1 : Int) := il_rd' _ 0
  have r1 : rd (il (W false m)) 1 = ((B2 false m).2 : Int) := il_rd' _ 1
  unfold scrimref8_Small_Block.f
  rw [if_neg (by rw [il_length, h]; decide), show ((5 : Int) == 8) = false from by decide, show ((5 : Int) == 4) = false from by decide, if_neg (by decide), l, Option.bind_some, if_pos (by rw [wl]; decide), if_pos (by rw [wl]; decide), if_neg (by decide), r0, r1, x, Option.bind_some]
  show (scrimref1_PutBe32.f k (((mag K dir (B2 false m)).1 : Nat) : Int)).bind _ = _
  rw [rput_eq, Option.bind_some]
  show (scrimref1_PutBe32.f k (((mag K dir (B2 false m)).2 : Nat) : Int)).bind _ = _
  rw [rput_eq, Option.bind_some, if_pos (by rw [decide_eq_true_eq, il_length, il_length, dig_length, dig_length]; decide), il_app]; rfl
theorem digR_length (v : Nat) : (digR v).length = 4 := by unfold digR; rw [List.length_reverse, dig_length]
theorem rblock8 {S : List Nat} (h26 : S.length = 26) (hS : ∀ x ∈ S, x < 4294967296) {m : List Nat} (h : m.length = 8) (hm : ∀ x ∈ m, x < 256) (dir : Bool) {k : Nat} (hk : 200 ≤ k) :
    scrimref8_Small_Block.f k (8, il S) (il m) dir = some (il (outL (r5 S dir (B2 true m))), 0) := by
  have l := rlits (n := 2) (k := k) (by omega) (by decide) hm (by omega)
  have wl : (il (W true m)).length = 2 := by rw [il_length, W_length true 2 m h]
  have hp := B2_wd true h hm
  have x := rrc5_eq h26 hS 8 dir (k := k) hp (by omega)
  have r0 : rd (il (W true m)) 0 = ((B2 true m).1 : Int) := il_rd' _ 0
  have r1 : rd (il (W true m)) 1 = ((B2 true m).2 : Int) := il_rd' _ 1
  unfold scrimref8_Small_Block.f
  rw [if_neg (by rw [il_length, h]; decide), show ((8 : Int) == 8) = true from by decide, if_pos rfl, l, Option.bind_some, if_pos (by rw [wl]; decide), if_pos (by rw [wl]; decide), r0, r1, x, Option.bind_some]
  show (scrimref1_PutLe32.f k (((r5 S dir (B2 true m)).1 : Nat) : Int)).bind _ = _
  rw [rputl_eq, Option.bind_some]
  show (scrimref1_PutLe32.f k (((r5 S dir (B2 true m)).2 : Nat) : Int)).bind _ = _
  rw [rputl_eq, Option.bind_some, if_pos (by rw [decide_eq_true_eq, il_length, il_length, digR_length, digR_length]; decide), il_app]; rfl
end Go.Scr.S
