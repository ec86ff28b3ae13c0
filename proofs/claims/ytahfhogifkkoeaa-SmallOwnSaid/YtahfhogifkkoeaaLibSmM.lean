/- The plain law of SmM. -/
import Derived.Test.YtahfhogifkkoeaaFnSmallOwn
import Derived.Test.YtahfhogifkkoeaaLibNum
import Derived.Test.YtahfhogifkkoeaaLibIl
import Derived.Test.YtahfhogifkkoeaaLibGRest
import Derived.Test.YtahfhogifkkoeaaLibGRol
import Derived.Test.YtahfhogifkkoeaaLibSmNum
import Derived.Test.YtahfhogifkkoeaaLibSmRol
import Derived.Test.YtahfhogifkkoeaaLibSmG
import Derived.Test.YtahfhogifkkoeaaLibGLoad
import Derived.Test.YtahfhogifkkoeaaLibFill
import Derived.Test.YtahfhogifkkoeaaLibGIl
import Derived.Test.YtahfhogifkkoeaaLibGStore
import Derived.Test.YtahfhogifkkoeaaLibSmWords
import Derived.Test.YtahfhogifkkoeaaLibSmX
set_option linter.unusedVariables false
set_option linter.unusedSimpArgs false
set_option linter.unnecessarySimpa false
namespace Go.Scr.S
/-- Magma's rounds, with keys from the i'th on. -/
def mgI (L : List Nat) : Nat → Nat → Nat × Nat → Nat × Nat
  | _, 0, p => p
  | i, d + 1, p => mgI L (i + 1) d (p.2, p.1 ^^^ gN (wa p.2 (L.getD i 0)))
theorem mg_wd {L : List Nat} {p : Nat × Nat} (hp : Wd p) (v : Nat) : Wd (p.2, p.1 ^^^ gN (wa p.2 v)) := ⟨hp.2, x32 hp.1 (gN_lt _)⟩
theorem mgI_wd (L : List Nat) : ∀ (d i : Nat) (p : Nat × Nat), Wd p → Wd (mgI L i d p)
  | 0, _, _, h => h
  | d + 1, i, _, h => mgI_wd L d (i + 1) _ (mg_wd (L := L) h _)
def sched (K : List Nat) (dir : Bool) : List Nat := if dir then (K ++ K ++ K ++ K.reverse).reverse else K ++ K ++ K ++ K.reverse
theorem eight {K : List Nat} (h : K.length = 8) : ∃ a b c d e f g i, K = [a, b, c, d, e, f, g, i] := by
  obtain ⟨a, b, c, d, r, rfl, h1⟩ := four (n := 1) h
  obtain ⟨e, f, g, i, r, rfl, h2⟩ := four (n := 0) h1
  have : r = [] := List.eq_nil_of_length_eq_zero (by omega)
  subst this
  exact ⟨a, b, c, d, e, f, g, i, rfl⟩
theorem sched_at {K : List Nat} (h : K.length = 8) (dir : Bool) {i : Nat} (hi : i < 32) : (sched K dir).getD i 0 = K.getD (if dir then (if 24 ≤ 31 - i then 7 - (31 - i) % 8 else (31 - i) % 8) else (if 24 ≤ i then 7 - i % 8 else i % 8)) 0 := by
  obtain ⟨a, b, c, d, e, f, g, j, rfl⟩ := eight h
  have : i = 0 ∨ i = 1 ∨ i = 2 ∨ i = 3 ∨ i = 4 ∨ i = 5 ∨ i = 6 ∨ i = 7 ∨ i = 8 ∨ i = 9 ∨ i = 10 ∨ i = 11 ∨ i = 12 ∨ i = 13 ∨ i = 14 ∨ i = 15 ∨ i = 16 ∨ i = 17 ∨ i = 18 ∨ i = 19 ∨ i = 20 ∨ i = 21 ∨ i = 22 ∨ i = 23 ∨ i = 24 ∨ i = 25 ∨ i = 26 ∨ i = 27 ∨ i = 28 ∨ i = 29 ∨ i = 30 ∨ i = 31 := by omega
  cases dir <;> (rcases this with rfl | rfl | rfl | rfl | rfl | rfl | rfl | rfl | rfl | rfl | rfl | rfl | rfl | rfl | rfl | rfl | rfl | rfl | rfl | rfl | rfl | rfl | rfl | rfl | rfl | rfl | rfl | rfl | rfl | rfl | rfl | rfl <;> rfl)
theorem clone8 {k : Nat} (hk : 60 ≤ k) (a b c d e f g i : Int) : slices_Clone_uint32_uint32.f k [a, b, c, d, e, f, g, i] = some [a, b, c, d, e, f, g, i] := by
  obtain ⟨j, rfl⟩ : ∃ j, k = j + 60 := ⟨k - 60, by omega⟩
  kernel_rfl
theorem rev8 {k : Nat} (hk : 60 ≤ k) (a b c d e f g i : Int) : slices_Reverse_uint32_uint32.f k [a, b, c, d, e, f, g, i] = some [i, g, f, e, d, c, b, a] := by
  obtain ⟨j, rfl⟩ : ∃ j, k = j + 60 := ⟨k - 60, by omega⟩
  kernel_rfl
theorem con8 {k : Nat} (hk : 60 ≤ k) (a b c d e f g i : Int) : slices_Concat_uint32_uint32.f k [[a, b, c, d, e, f, g, i], [a, b, c, d, e, f, g, i], [a, b, c, d, e, f, g, i], [i, g, f, e, d, c, b, a]] = some [a, b, c, d, e, f, g, i, a, b, c, d, e, f, g, i, a, b, c, d, e, f, g, i, i, g, f, e, d, c, b, a] := by
  obtain ⟨j, rfl⟩ : ∃ j, k = j + 60 := ⟨k - 60, by omega⟩
  kernel_rfl
theorem rev32 {k : Nat} (hk : 60 ≤ k) (a b c d e f g i : Int) : slices_Reverse_uint32_uint32.f k [a, b, c, d, e, f, g, i, a, b, c, d, e, f, g, i, a, b, c, d, e, f, g, i, i, g, f, e, d, c, b, a] = some [a, b, c, d, e, f, g, i, i, g, f, e, d, c, b, a, i, g, f, e, d, c, b, a, i, g, f, e, d, c, b, a] := by
  obtain ⟨j, rfl⟩ : ∃ j, k = j + 60 := ⟨k - 60, by omega⟩
  kernel_rfl
theorem sm_l0 {L M : List Nat} (h1 : L.length = 32) (h2 : M.length = 32) (d : Nat) {k i : Nat} {p : Nat × Nat} (hk : d + 20 < k) (hi : i + d = 32) (hp : Wd p) :
    small_Small_magma.l0 k (il L) (il M) (p.1 : Int) (p.2 : Int) (i : Int) = some (((mgI M i d p).2 : Int), ((mgI M i d p).1 : Int)) := by
  induction d generalizing k i p with
  | zero =>
    obtain ⟨k, rfl⟩ : ∃ j, k = j + 1 := ⟨k - 1, by omega⟩
    have : i = 32 := by omega
    subst this
    rw [small_Small_magma.l0, if_neg (by rw [il_length, h1]; decide)]; rfl
  | succ d ih =>
    obtain ⟨k, rfl⟩ : ∃ j, k = j + 1 := ⟨k - 1, by omega⟩
    have a2 : I64 ((i : Int) + 1) = ((i + 1 : Nat) : Int) := I64_nat (n := i + 1) (by omega)
    have c1 : decide ((i : Int) < ((il L).length : Int)) = true := by rw [decide_eq_true_eq, il_length, h1]; omega
    rw [small_Small_magma.l0, if_pos c1, if_pos (by rw [decide_eq_true_eq]; omega), if_pos c1, il_rd', sG_eq (by omega), Option.bind_some, bx32 hp.1 (gN_lt _), a2]
    exact ih (p := (p.2, p.1 ^^^ gN (wa p.2 (M.getD i 0)))) (by omega) (by omega) (mg_wd (L := M) hp _)
theorem sm_l1 {L : List Nat} (h1 : L.length = 32) (d : Nat) {k i : Nat} {p : Nat × Nat} (hk : d + 20 < k) (hi : i + d = 32) (hp : Wd p) :
    small_Small_magma.l1 k (il L) (p.1 : Int) (p.2 : Int) (i : Int) = some (((mgI L i d p).2 : Int), ((mgI L i d p).1 : Int)) := by
  induction d generalizing k i p with
  | zero =>
    obtain ⟨k, rfl⟩ : ∃ j, k = j + 1 := ⟨k - 1, by omega⟩
    have : i = 32 := by omega
    subst this
    rw [small_Small_magma.l1, if_neg (by rw [il_length, h1]; decide)]; rfl
  | succ d ih =>
    obtain ⟨k, rfl⟩ : ∃ j, k = j + 1 := ⟨k - 1, by omega⟩
    have a2 : I64 ((i : Int) + 1) = ((i + 1 : Nat) : Int) := I64_nat (n := i + 1) (by omega)
    have c1 : decide ((i : Int) < ((il L).length : Int)) = true := by rw [decide_eq_true_eq, il_length, h1]; omega
    rw [small_Small_magma.l1, if_pos c1, if_pos (by rw [decide_eq_true_eq]; omega), if_pos c1, il_rd', sG_eq (by omega), Option.bind_some, bx32 hp.1 (gN_lt _), a2]
    exact ih (p := (p.2, p.1 ^^^ gN (wa p.2 (L.getD i 0)))) (by omega) (by omega) (mg_wd (L := L) hp _)
def mag (K : List Nat) (dir : Bool) (p : Nat × Nat) : Nat × Nat := ((mgI (sched K dir) 0 32 p).2, (mgI (sched K dir) 0 32 p).1)
theorem mag_wd (K : List Nat) (dir : Bool) {p : Nat × Nat} (hp : Wd p) : Wd (mag K dir p) := ⟨(mgI_wd _ 32 0 p hp).2, (mgI_wd _ 32 0 p hp).1⟩
theorem magma_eq {K : List Nat} (h8 : K.length = 8) (tag : Int) (dir : Bool) {k : Nat} {p : Nat × Nat} (hp : Wd p) (hk : 80 ≤ k) : small_Small_magma.f k (il K, tag) (p.1 : Int) (p.2 : Int) dir = some (pI (mag K dir p)) := by
  obtain ⟨a, b, c, d, e, f, g, i, rfl⟩ := eight h8
  unfold small_Small_magma.f
  have q1 := clone8 (k := k) (by omega) (a : Int) (b : Int) (c : Int) (d : Int) (e : Int) (f : Int) (g : Int) (i : Int)
  have q2 := rev8 (k := k) (by omega) (a : Int) (b : Int) (c : Int) (d : Int) (e : Int) (f : Int) (g : Int) (i : Int)
  have q3 := con8 (k := k) (by omega) (a : Int) (b : Int) (c : Int) (d : Int) (e : Int) (f : Int) (g : Int) (i : Int)
  have q4 := rev32 (k := k) (by omega) (a : Int) (b : Int) (c : Int) (d : Int) (e : Int) (f : Int) (g : Int) (i : Int)
  have e0 : (il [a, b, c, d, e, f, g, i], tag).1 = [(a : Int), (b : Int), (c : Int), (d : Int), (e : Int), (f : Int), (g : Int), (i : Int)] := rfl
  rw [e0, q1, Option.bind_some, q2, Option.bind_some, q3, Option.bind_some]
  cases dir with
  | false =>
    rw [if_neg (by decide)]
    exact sm_l1 (L := sched [a, b, c, d, e, f, g, i] false) rfl 32 (i := 0) (by omega) (by omega) hp
  | true =>
    rw [if_pos rfl, q4, Option.bind_some]
    exact sm_l0 (L := sched [a, b, c, d, e, f, g, i] false) (M := sched [a, b, c, d, e, f, g, i] true) rfl rfl 32 (i := 0) (by omega) (by omega) hp
theorem block5 {K : List Nat} (h8 : K.length = 8) {m : List Nat} (h : m.length = 8) (hm : ∀ x ∈ m, x < 256) (dir : Bool) {k : Nat} (hk : 120 ≤ k) :
    small_Small_Block.f k (il K, 5) (il m) dir = some (il (outB (mag K dir (B2 false m))), 0) := by
  have l := loaded_eq false (n := 2) (k := k) (by omega) hm (by decide) hk
  have wl : (il (W false m)).length = 2 := by rw [il_length, W_length false 2 m h]
  have hp := B2_wd false h hm
  have x := magma_eq h8 5 dir (k := k) hp (by omega)
  have r0 : rd (il (W false m)) 0 = ((B2 false m).1 : Int) := il_rd' _ 0
  have r1 : rd (il (W false m)) 1 = ((B2 false m).2 : Int) := il_rd' _ 1
  have ho := mag_wd K dir hp
  have s := storedB (k := k) ho.1 ho.2 (by omega)
  unfold small_Small_Block.f
  rw [if_neg (by rw [il_length, h]; decide), show ((5 : Int) == 8) = false from by decide, l, Option.bind_some, if_pos (by rw [wl]; decide), if_pos (by rw [wl]; decide), if_neg (show ¬ (((il K, (5 : Int)).2 == 4) : Bool) = true from by show ¬ (((5 : Int) == 4) : Bool) = true; decide), if_pos (show (((il K, (5 : Int)).2 == 5) : Bool) = true from rfl), r0, r1, x, Option.bind_some]
  show (small_stored.f k (((mag K dir (B2 false m)).1 : Nat) : Int) (((mag K dir (B2 false m)).2 : Nat) : Int) false).bind _ = _
  rw [s, Option.bind_some]; rfl
end Go.Scr.S
