/- The plain law of SmX. -/
import Derived.Test.YtahfhogifkkoeaaFnSmallOwn
import Derived.Test.YtahfhogifkkoeaaLibNum
import Derived.Test.YtahfhogifkkoeaaLibIl
import Derived.Test.YtahfhogifkkoeaaLibGLoad
import Derived.Test.YtahfhogifkkoeaaLibFill
import Derived.Test.YtahfhogifkkoeaaLibGIl
import Derived.Test.YtahfhogifkkoeaaLibGStore
import Derived.Test.YtahfhogifkkoeaaLibSmNum
import Derived.Test.YtahfhogifkkoeaaLibSmWords
set_option linter.unusedVariables false
set_option linter.unusedSimpArgs false
set_option linter.unnecessarySimpa false
namespace Go.Scr.S
/-- XTEA: a half round's stir, a round there, a round back. -/
def st (x s : Nat) : Nat := ((x <<< 4 % 4294967296 ^^^ x >>> 5) + x) % 4294967296 ^^^ s
theorem st_lt {x s : Nat} (hs : s < 4294967296) : st x s < 4294967296 := x32 (Nat.mod_lt _ (by decide)) hs
def kA (K : List Nat) (s : Nat) : Nat := wa s (K.getD (s % 4) 0)
def kB (K : List Nat) (s : Nat) : Nat := wa s (K.getD ((s >>> 11) % 4) 0)
def gold : Nat := 2654435769
def fwS (K : List Nat) (s : Nat) (p : Nat × Nat) : Nat × Nat := (wa p.1 (st p.2 (kA K s)), wa p.2 (st (wa p.1 (st p.2 (kA K s))) (kB K (wa s gold))))
def bkS (K : List Nat) (s : Nat) (p : Nat × Nat) : Nat × Nat := (ws p.1 (st (ws p.2 (st p.1 (kB K s))) (kA K (ws s gold))), ws p.2 (st p.1 (kB K s)))
def fw (K : List Nat) : Nat → Nat → Nat × Nat → Nat × Nat
  | 0, _, p => p
  | n + 1, s, p => fw K n (wa s gold) (fwS K s p)
def bk (K : List Nat) : Nat → Nat → Nat × Nat → Nat × Nat
  | 0, _, p => p
  | n + 1, s, p => bk K n (ws s gold) (bkS K s p)
def pI (p : Nat × Nat) : Int × Int := ((p.1 : Int), (p.2 : Int))
def Wd (p : Nat × Nat) : Prop := p.1 < 4294967296 ∧ p.2 < 4294967296
theorem fwS_wd (K : List Nat) (s : Nat) (p : Nat × Nat) : Wd (fwS K s p) := ⟨wa_lt _ _, wa_lt _ _⟩
theorem bkS_wd (K : List Nat) (s : Nat) (p : Nat × Nat) : Wd (bkS K s p) := ⟨ws_lt _ _, ws_lt _ _⟩
theorem fw_wd (K : List Nat) : ∀ n s p, Wd p → Wd (fw K n s p)
  | 0, _, _, h => h
  | n + 1, s, p, _ => fw_wd K n _ _ (fwS_wd K s p)
theorem bk_wd (K : List Nat) : ∀ n s p, Wd p → Wd (bk K n s p)
  | 0, _, _, h => h
  | n + 1, s, p, _ => bk_wd K n _ _ (bkS_wd K s p)
theorem stI {x s : Nat} (hx : x < 4294967296) (hs : s < 4294967296) : bxor .u32 (U32 ((bxor .u32 (shl .u32 (x : Int) 4) (shr (x : Int) 5)) + (x : Int))) (s : Int) = ((st x s : Nat) : Int) := by
  have h5 : x >>> 5 < 4294967296 := Nat.lt_of_le_of_lt (Nat.shiftRight_le _ _) hx
  rw [shl32, shr_nat, bx32 (Nat.mod_lt _ (by decide)) h5, ← Int.natCast_add, U32_nat, bx32 (Nat.mod_lt _ (by decide)) hs]; rfl
theorem stir_eq {x s k : Nat} (hx : x < 4294967296) (hs : s < 4294967296) : small_stir.f k (x : Int) (s : Int) = some ((st x s : Nat) : Int) := by
  unfold small_stir.f; rw [stI hx hs]
theorem U32_kA (K : List Nat) {s : Nat} (hs : s < 4294967296) : U32 ((s : Int) + rd (il K) (band .u32 (s : Int) 3)) = ((kA K s : Nat) : Int) := by
  rw [ba3 hs, il_rd', U32_add]; rfl
theorem U32_kB (K : List Nat) {s : Nat} (hs : s < 4294967296) : U32 ((s : Int) + rd (il K) (band .u32 (shr (s : Int) 11) 3)) = ((kB K s : Nat) : Int) := by
  rw [shr_nat, ba3 (Nat.lt_of_le_of_lt (Nat.shiftRight_le _ _) hs), il_rd', U32_add]; rfl
theorem b3_0 (s : Nat) (hs : s < 4294967296) : decide (0 ≤ band .u32 (s : Int) 3) = true := by rw [ba3 hs, decide_eq_true_eq]; omega
theorem b3_4 (s : Nat) (hs : s < 4294967296) {n : Nat} (h : n = 4) : decide (band .u32 (s : Int) 3 < (n : Int)) = true := by rw [ba3 hs, decide_eq_true_eq]; omega
theorem U32_gold (s : Nat) : U32 ((s : Int) + 2654435769) = ((wa s gold : Nat) : Int) := U32_add s gold
theorem U32_ngold (s : Nat) : U32 ((s : Int) - 2654435769) = ((ws s gold : Nat) : Int) := U32_sub (x := s) (y := gold) (by decide)
theorem b11_0 (s : Nat) (hs : s < 4294967296) : decide (0 ≤ band .u32 (shr (s : Int) 11) 3) = true := by rw [shr_nat]; exact b3_0 _ (Nat.lt_of_le_of_lt (Nat.shiftRight_le _ _) hs)
theorem b11_4 (s : Nat) (hs : s < 4294967296) {n : Nat} (h : n = 4) : decide (band .u32 (shr (s : Int) 11) 3 < (n : Int)) = true := by rw [shr_nat]; exact b3_4 _ (Nat.lt_of_le_of_lt (Nat.shiftRight_le _ _) hs) h
theorem sx_l1 {K : List Nat} (h4 : K.length = 4) (tag : Int) (d : Nat) {k i s : Nat} {p : Nat × Nat} (hk : d < k) (hi : i + d = 32) (hs : s < 4294967296) (hp : Wd p) :
    small_Small_xtea.l1 k (il K, tag) false (p.1 : Int) (p.2 : Int) (s : Int) (i : Int) = some (pI (fw K d s p)) := by
  induction d generalizing k i s p with
  | zero =>
    obtain ⟨k, rfl⟩ : ∃ j, k = j + 1 := ⟨k - 1, by omega⟩
    have : i = 32 := by omega
    subst this
    rw [small_Small_xtea.l1, if_pos (by decide)]; rfl
  | succ d ih =>
    obtain ⟨k, rfl⟩ : ∃ j, k = j + 1 := ⟨k - 1, by omega⟩
    have a2 : I64 ((i : Int) + 1) = ((i + 1 : Nat) : Int) := I64_nat (n := i + 1) (by omega)
    have hl : (il K).length = 4 := by rw [il_length, h4]
    have hg := wa_lt s gold
    have q1 := stir_eq (k := k) hp.2 (wa_lt s (K.getD (s % 4) 0))
    have q2 := stir_eq (k := k) (wa_lt p.1 (st p.2 (kA K s))) (wa_lt (wa s gold) (K.getD ((wa s gold >>> 11) % 4) 0))
    have q3 : small_stir.f k (p.2 : Int) ((kA K s : Nat) : Int) = some ((st p.2 (kA K s) : Nat) : Int) := q1
    have q4 : small_stir.f k ((wa p.1 (st p.2 (kA K s)) : Nat) : Int) ((kB K (wa s gold) : Nat) : Int) = some ((st (wa p.1 (st p.2 (kA K s))) (kB K (wa s gold)) : Nat) : Int) := q2
    rw [small_Small_xtea.l1, if_neg (by rw [beq_iff_eq]; omega), if_neg (by decide), if_pos (b3_0 s hs), if_pos (b3_4 s hs hl), U32_kA K hs, q3, Option.bind_some, U32_gold, Option.bind_some, if_pos (b11_0 _ hg), if_pos (b11_4 _ hg hl), U32_kB K hg, Option.bind_some, U32_add, q4, Option.bind_some, U32_add, a2]
    exact ih (p := fwS K s p) (by omega) (by omega) hg (fwS_wd K s p)
theorem sx_l0 {K : List Nat} (h4 : K.length = 4) (tag : Int) (d : Nat) {k i s : Nat} {p : Nat × Nat} (hk : d < k) (hi : i + d = 32) (hs : s < 4294967296) (hp : Wd p) :
    small_Small_xtea.l0 k (il K, tag) true (p.1 : Int) (p.2 : Int) (s : Int) (i : Int) = some (pI (bk K d s p)) := by
  induction d generalizing k i s p with
  | zero =>
    obtain ⟨k, rfl⟩ : ∃ j, k = j + 1 := ⟨k - 1, by omega⟩
    have : i = 32 := by omega
    subst this
    rw [small_Small_xtea.l0, if_pos (by decide)]; rfl
  | succ d ih =>
    obtain ⟨k, rfl⟩ : ∃ j, k = j + 1 := ⟨k - 1, by omega⟩
    have a2 : I64 ((i : Int) + 1) = ((i + 1 : Nat) : Int) := I64_nat (n := i + 1) (by omega)
    have hl : (il K).length = 4 := by rw [il_length, h4]
    have hg := ws_lt s gold
    have q1 := stir_eq (k := k) hp.1 (wa_lt s (K.getD ((s >>> 11) % 4) 0))
    have q2 := stir_eq (k := k) (ws_lt p.2 (st p.1 (kB K s))) (wa_lt (ws s gold) (K.getD (ws s gold % 4) 0))
    have q3 : small_stir.f k (p.1 : Int) ((kB K s : Nat) : Int) = some ((st p.1 (kB K s) : Nat) : Int) := q1
    have q4 : small_stir.f k ((ws p.2 (st p.1 (kB K s)) : Nat) : Int) ((kA K (ws s gold) : Nat) : Int) = some ((st (ws p.2 (st p.1 (kB K s))) (kA K (ws s gold)) : Nat) : Int) := q2
    have l1 : st p.1 (kB K s) < 4294967296 := st_lt (wa_lt _ _)
    have l2 : st (ws p.2 (st p.1 (kB K s))) (kA K (ws s gold)) < 4294967296 := st_lt (wa_lt _ _)
    rw [small_Small_xtea.l0, if_neg (by rw [beq_iff_eq]; omega), if_pos rfl, if_pos (b11_0 s hs), if_pos (b11_4 s hs hl), U32_kB K hs, Option.bind_some, q3, Option.bind_some, U32_ngold, if_pos (b3_0 _ hg), if_pos (b3_4 _ hg hl), U32_kA K hg, Option.bind_some, U32_sub l1, q4, Option.bind_some, U32_sub l2, a2]
    exact ih (p := bkS K s p) (by omega) (by omega) hg (bkS_wd K s p)
def xt (K : List Nat) (dir : Bool) (p : Nat × Nat) : Nat × Nat := if dir then bk K 32 3337565984 p else fw K 32 0 p
theorem xt_wd (K : List Nat) (dir : Bool) {p : Nat × Nat} (hp : Wd p) : Wd (xt K dir p) := by
  cases dir
  · exact fw_wd K 32 0 p hp
  · exact bk_wd K 32 _ p hp
theorem xtea_eq {K : List Nat} (h4 : K.length = 4) (tag : Int) (dir : Bool) {k : Nat} {p : Nat × Nat} (hp : Wd p) (hk : 40 ≤ k) : small_Small_xtea.f k (il K, tag) (p.1 : Int) (p.2 : Int) dir = some (pI (xt K dir p)) := by
  unfold small_Small_xtea.f
  cases dir with
  | false => rw [if_neg (by decide)]; exact sx_l1 h4 tag 32 (i := 0) (s := 0) (by omega) (by omega) (by decide) hp
  | true => rw [if_pos rfl]; exact sx_l0 h4 tag 32 (i := 0) (s := 3337565984) (by omega) (by omega) (by decide) hp
/-- A block's two words. -/
def B2 (b : Bool) (l : List Nat) : Nat × Nat := ((W b l).getD 0 0, (W b l).getD 1 0)
theorem B2_wd (b : Bool) {l : List Nat} (h : l.length = 8) (hl : ∀ x ∈ l, x < 256) : Wd (B2 b l) := ⟨getW (W_lt b 2 l h hl) 0, getW (W_lt b 2 l h hl) 1⟩
def outB (p : Nat × Nat) : List Nat := dig p.1 4 ++ dig p.2 4
theorem block4 {K : List Nat} (h4 : K.length = 4) {m : List Nat} (h : m.length = 8) (hm : ∀ x ∈ m, x < 256) (dir : Bool) {k : Nat} (hk : 120 ≤ k) :
    small_Small_Block.f k (il K, 4) (il m) dir = some (il (outB (xt K dir (B2 false m))), 0) := by
  have l := loaded_eq false (n := 2) (k := k) (by omega) hm (by decide) hk
  have wl : (il (W false m)).length = 2 := by rw [il_length, W_length false 2 m h]
  have hp := B2_wd false h hm
  have x := xtea_eq h4 4 dir (k := k) hp (by omega)
  have r0 : rd (il (W false m)) 0 = ((B2 false m).1 : Int) := il_rd' _ 0
  have r1 : rd (il (W false m)) 1 = ((B2 false m).2 : Int) := il_rd' _ 1
  have ho := xt_wd K dir hp
  have s := storedB (k := k) ho.1 ho.2 (by omega)
  unfold small_Small_Block.f
  rw [if_neg (by rw [il_length, h]; decide), show ((4 : Int) == 8) = false from by decide, l, Option.bind_some, if_pos (by rw [wl]; decide), if_pos (by rw [wl]; decide), if_pos (show (((il K, (4 : Int)).2 == 4) : Bool) = true from rfl), r0, r1, x, Option.bind_some]
  show (small_stored.f k (((xt K dir (B2 false m)).1 : Nat) : Int) (((xt K dir (B2 false m)).2 : Nat) : Int) false).bind _ = _
  rw [s, Option.bind_some]; rfl
end Go.Scr.S
