/- The words of the plain functions. -/
import Derived.Test.YtdemmfohkhpklaaGreatDoorXArr
/- The words of the plain functions that the generator prints. -/
namespace Go.Scr
def U8 (x : Int) : Int := IntKind.wrap .u8 x
def U32 (x : Int) : Int := IntKind.wrap .u32 x
def U64 (x : Int) : Int := IntKind.wrap .u64 x
def I64 (x : Int) : Int := IntKind.wrap .i64 x
def band (k : IntKind) (x y : Int) : Int := k.wrap (BitVec.ofInt k.bits x &&& BitVec.ofInt k.bits y).toNat
def bor (k : IntKind) (x y : Int) : Int := k.wrap (BitVec.ofInt k.bits x ||| BitVec.ofInt k.bits y).toNat
def bxor (k : IntKind) (x y : Int) : Int := k.wrap (BitVec.ofInt k.bits x ^^^ BitVec.ofInt k.bits y).toNat
theorem two (b : Bool) : b = true ∨ b = false := by cases b <;> simp
end Go.Scr
