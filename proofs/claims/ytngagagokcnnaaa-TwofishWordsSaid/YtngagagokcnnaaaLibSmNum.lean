/- The plain law of SmNum. -/
import Derived.Test.YtngagagokcnnaaaXDeep3
import Derived.Test.YtngagagokcnnaaaLibNum
import Derived.Test.YtngagagokcnnaaaLibIl
set_option linter.unusedVariables false
set_option linter.unusedSimpArgs false
set_option linter.unnecessarySimpa false
namespace Go.Scr.S
/-- Words: sums, differences. -/
def wa (x y : Nat) : Nat := (x + y) % 4294967296
def ws (x y : Nat) : Nat := (x + (4294967296 - y)) % 4294967296
theorem U32_emod (z : Int) : U32 z = z % 4294967296 := by simp [U32, IntKind.wrap, IntKind.bits, IntKind.signed]
theorem U32_add (x y : Nat) : U32 ((x : Int) + (y : Int)) = ((wa x y : Nat) : Int) := by rw [← Int.natCast_add, U32_nat]; rfl
theorem U32_sub {x y : Nat} (hy : y < 4294967296) : U32 ((x : Int) - (y : Int)) = ((ws x y : Nat) : Int) := by
  rw [U32_emod]; unfold ws; omega
theorem wa_lt (x y : Nat) : wa x y < 4294967296 := Nat.mod_lt _ (by decide)
theorem ws_lt (x y : Nat) : ws x y < 4294967296 := Nat.mod_lt _ (by decide)
theorem ws_wa {x y : Nat} (hx : x < 4294967296) (hy : y < 4294967296) : ws (wa x y) y = x := by unfold ws wa; omega
theorem wa_ws {x y : Nat} (hx : x < 4294967296) (hy : y < 4294967296) : wa (ws x y) y = x := by unfold ws wa; omega
theorem wa_comm (x y : Nat) : wa x y = wa y x := by unfold wa; rw [Nat.add_comm]
theorem wa_inj {x y k : Nat} (hx : x < 4294967296) (hy : y < 4294967296) (hk : k < 4294967296) : wa x k = wa y k ↔ x = y :=
  ⟨fun h => by rw [← ws_wa hx hk, h, ws_wa hy hk], fun h => by rw [h]⟩
theorem x32 {x y : Nat} (hx : x < 4294967296) (hy : y < 4294967296) : x ^^^ y < 4294967296 := Nat.xor_lt_two_pow (n := 32) hx hy
theorem ba32 {a b : Nat} (ha : a < 4294967296) (hb : b < 4294967296) : band .u32 (a : Int) (b : Int) = ((a &&& b : Nat) : Int) := by
  rw [ba_of (by simpa [IntKind.bits] using ha) (by simpa [IntKind.bits] using hb)]
  exact (U32_nat _).trans (by rw [Nat.mod_eq_of_lt (Nat.lt_of_le_of_lt Nat.and_le_left ha)])
theorem and3 (x : Nat) : x &&& 3 = x % 4 := Nat.and_two_pow_sub_one_eq_mod x 2
theorem and15 (x : Nat) : x &&& 15 = x % 16 := Nat.and_two_pow_sub_one_eq_mod x 4
theorem ba3 {a : Nat} (ha : a < 4294967296) : band .u32 (a : Int) 3 = ((a % 4 : Nat) : Int) := by
  have := ba32 (b := 3) ha (by decide)
  rw [and3] at this; exact this
theorem ba15 {a : Nat} (ha : a < 4294967296) : band .u32 (a : Int) 15 = ((a % 16 : Nat) : Int) := by
  have := ba32 (b := 15) ha (by decide)
  rw [and15] at this; exact this
theorem getW {l : List Nat} (hl : ∀ x ∈ l, x < 4294967296) (i : Nat) : l.getD i 0 < 4294967296 := by
  rw [List.getD_eq_getElem?_getD]
  cases e : l[i]? with
  | none => decide
  | some x => exact hl x (List.mem_of_getElem? e)
theorem beq_nat (a b : Nat) : (((a : Int) == (b : Int)) : Bool) = decide (a = b) := by
  by_cases h : a = b
  · subst h; simp
  · rw [decide_eq_false h, beq_eq_false_iff_ne]; omega
theorem il_take (a : List Nat) (n : Nat) : (il a).take n = il (a.take n) := by simp [il, List.map_take]
theorem il_drop (a : List Nat) (n : Nat) : (il a).drop n = il (a.drop n) := by simp [il, List.map_drop]
theorem il_append (a b : List Nat) : il (a ++ b) = il a ++ il b := by simp [il]
end Go.Scr.S
