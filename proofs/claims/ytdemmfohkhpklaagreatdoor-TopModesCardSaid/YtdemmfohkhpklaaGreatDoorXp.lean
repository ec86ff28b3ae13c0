/- The words of the plain functions. -/
import Derived.Test.YtdemmfohkhpklaaGreatDoorXb
set_option linter.unusedVariables false
namespace Go.Scr.S
abbrev Kq:List Int:=[1,2,4,8,16,32,64,128]
abbrev gd (c:Prop) [Decidable c] {α:Type} (x:Option α):Option α:=if decide c=true then x else none
abbrev gb (c:Bool) {α:Type} (x:Option α):Option α:=if c=true then x else none
abbrev rr (xs:List (List Int)) (i:Int):List Int:=xs.getD i.toNat []
def oB {α:Type} (b:Bool) (x y:α):α:=match b with
 | true=>x
 | false=>y
def oC {α β:Type} (x:Option α) (a:β) (f:α→β):β:=match x with
 | none=>a
 | some x=>f x
abbrev tz (xs:List ByteArray) (i:Int):ByteArray:=xs.getD i.toNat ByteArray.empty
end Go.Scr.S
