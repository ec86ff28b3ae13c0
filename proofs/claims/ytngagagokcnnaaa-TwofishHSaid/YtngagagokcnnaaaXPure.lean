/- The words of the plain functions. -/
import Derived.Test.YtngagagokcnnaaaXArr
/- The words of the plain functions that the generator prints. -/
namespace Go.Scr
def U8 (x : Int) : Int := IntKind.wrap .u8 x
def U32 (x : Int) : Int := IntKind.wrap .u32 x
def U64 (x : Int) : Int := IntKind.wrap .u64 x
def I64 (x : Int) : Int := IntKind.wrap .i64 x
def I32 (x : Int) : Int := IntKind.wrap .i32 x
def band (k : IntKind) (x y : Int) : Int := k.wrap (BitVec.ofInt k.bits x &&& BitVec.ofInt k.bits y).toNat
def bor (k : IntKind) (x y : Int) : Int := k.wrap (BitVec.ofInt k.bits x ||| BitVec.ofInt k.bits y).toNat
def bxor (k : IntKind) (x y : Int) : Int := k.wrap (BitVec.ofInt k.bits x ^^^ BitVec.ofInt k.bits y).toNat
def bandn (k : IntKind) (x y : Int) : Int := k.wrap (BitVec.ofInt k.bits x &&& ~~~(BitVec.ofInt k.bits y)).toNat
/-- The test at hand is decided. -/
theorem of_true {α : Type} {b : Bool} {x y : Option α} {r : α} (h : (if b = true then x else y) = some r) (hb : b = true) : x = some r := (if_pos hb).symm.trans h
theorem of_false {α : Type} {b : Bool} {x y : Option α} {r : α} (h : (if b = true then x else y) = some r) (hb : b = false) : y = some r := (if_neg (by rw [hb]; exact Bool.false_ne_true)).symm.trans h
theorem two (b : Bool) : b = true ∨ b = false := by cases b <;> simp
end Go.Scr
