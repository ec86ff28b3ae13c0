/- What a machine's step does; rows. -/
import Derived.Calls
import Derived.Scope
import Derived.OrdersHeld
import Derived.Below
import Derived.KernelRfl
import Derived.OwnWalk
import Derived.Maps.AppendAt
import Derived.Laws.MakeOwn
import Derived.Laws.BytesString
import Derived.Laws.Rows
import Derived.Laws.Tables
import Derived.ChangeKeysEq
import Derived.Laws.StructEq
import Derived.OpenShut
import Derived.ChangeArms
set_option linter.unnecessarySimpa false
set_option linter.unusedVariables false
set_option linter.unusedSimpArgs false
namespace Go.Scr
open Go.RowKit (Below)
variable {D:List Deferred}
abbrev HX:=List (Nat×Value)
def lk:HX→Nat→Option Value
 | [],_=>none
 | (s,v)::r,t=>bif Nat.beq s t then some v else lk r t
def ev (L:HX):Operand→Value
 | .tmp t=>match lk L t with | some v=>v | none=>undef
 | .const v=>v
 | .global g=> .pointer (some ⟨g,0,none⟩)
 | .func f=> .func (.func f) #[] #[]
def Er:Op→Bool
 | .select .. =>false
 | _=>true
def qr (P:Program) (R:Ending→World→Prop) (f:FuncId) (k:List Item) (a:Act) (w:World):Prop:=
 ∀(b:Frame) (cs:List Frame),b.fn=f→b.kind= .normal→ ∃e w' fr,R e w'∧Comes P (lone (b.at a k) cs w) (lone fr cs w') e∧fr.fn=f∧fr.leaving P w' e
section
variable {P:Program} {R:Ending→World→Prop} {f:FuncId} {k k':List Item} {a a':Act} {w w':World}
theorem qr.step (h: ∀(b:Frame) (cs:List Frame),step P (lone (b.at a k) cs w)= .next (lone (b.at a' k') cs w')) (r:qr P R f k' a' w'):qr P R f k a w:=by
 intro b cs hb hk
 obtain ⟨e,w2,fr,h1,h2,h3⟩:=r b cs hb hk
 exact ⟨e,w2,fr,h1,Comes.of_steps (.one (h b cs)) h2,h3⟩
theorem wm {fn:Func} {c:Code} {args:Array Value} (hf:P.funcs[f]? =some fn) (hb:fn.body=some c)
 (h:qr P R f [.code c] {tmps:=args++Array.replicate (fn.ntmps-args.size) undef,defers:=[]} w):Calls P f args w R:=by
 intro cs
 let b:Frame:= {(default:Frame) with fn:=f,kind:= .normal}
 have henter:Frame.enter P f args .normal=b.at {tmps:=args++Array.replicate (fn.ntmps-args.size) undef,defers:=[]} [.code c]:=by
  simp [Frame.enter,Frame.at,hf,hb,b]
 rw [henter]
 exact h b cs rfl rfl
theorem qr.of_wp {c:Code} (h:c.wp P (fun e a' w'=>e= .normal∧qr P R f k a' w') a w):qr P R f (.code c::k) a w:=by
 intro b cs hb hk
 obtain ⟨e,a',w',⟨rfl,hr⟩,harr⟩:=h b k cs
 obtain ⟨e2,w2,fr,h1,h2,h3⟩:=hr b cs hb hk
 exact ⟨e2,w2,fr,h1,Comes.of_steps harr h2,h3⟩
theorem qr.ends {fn:Func} {v:Value} (hf:P.funcs[f]? =some fn) (hk:k=[]∨ ∃r,k= .code .ret::r) (hd:a.defers=[]) (hr:(results fn a.tmps).run P w= .ok v w) (hR:R (.returned v) w):qr P R f k a w:=by
 intro b cs hb hkd
 rcases hk with rfl | ⟨r,rfl⟩
 ·exact ⟨.returned v,w,_,hR,Steps.one step_end,hb,rfl,hd,hkd,fn,by rw [show ({b.at a [] with mode:= .returning}:Frame).fn=f from hb];exact hf,hr⟩
 ·exact ⟨.returned v,w,_,hR,Steps.one step_ret,hb,rfl,hd,hkd,fn,by rw [show ({b.at a (.code .ret::r) with mode:= .returning}:Frame).fn=f from hb];exact hf,hr⟩
end
section
variable {P:Program} {R:Ending→World→Prop} {f:FuncId} {k k':List Item} {n:Nat} {L L':HX} {w w':World} {a:Act}
def LE (L:HX):List Nat→Option HX
 | []=>some []
 | t::r=>match lk L t with
  | some v=>match LE L r with
   | some M=>some ((t,v)::M)
   | none=>none
  | none=>none
end
def at_:Code→List Nat→List Item→List Item
 | c,[],k=> .code c::k
 | .seq x y,0::p,k=>at_ x p (.code y::k)
 | .seq _ y,_::p,k=>at_ y p k
 | .cond _ x _,0::p,k=>at_ x p k
 | .cond _ _ y,_::p,k=>at_ y p k
 | .block id c,_::p,k=>at_ c p (.inBlock id::k)
 | .loop c,_::p,k=>at_ c p (.inLoop c::k)
 | .scope c,_::p,k=>at_ c p (.inScope c::k)
 | _,_,k=>k
def zy (fn:Func):Code:=match fn.body with | some c=>c | none=> .skip
def pl (fn:Func) (p:List Nat):List Item:=at_ (zy fn) p []
section
variable {P:Program} {R:Ending→World→Prop} {f:FuncId} {fn:Func} {k:List Item} {n:Nat} {L:HX} {w:World}
end
end Go.Scr
namespace Go.Scr
open Go.RowKit (Below)
def blk:Value→Option Nat
 | .slice (some a) _ _=>some a.block
 | .pointer (some a)=>some a.block
 | _=>none
structure RJ where
 v:Value
 ty:TypeId
 sz:Nat
 cs:List Value
def pick (H:List RJ):List Nat→Option (List RJ)
 | []=>some []
 | i::r=>match H[i]? with
  | some e=>match pick H r with
   | some M=>some (e::M)
   | none=>none
  | none=>none
def oI:List Nat→Bool
 | []=>true
 | i::r=>bif r.any (fun j=>Nat.beq i j) then false else oI r
def Rd (W:World):Value→List Value→Prop
 | .slice A n c,cs=>cs.length=n∧n≤c∧ ∀i u,cs[i]? =some u→ ∃ad,A=some ad∧W.cell? (ad.add i)=some u
 | _,_=>False
def nums (k:IntKind) (xs:List Int):List Value:=xs.map (.int k)
def ly (xs:List Bool):List Value:=xs.map .bool
def rd (xs:List Int) (i:Int):Int:=xs.getD i.toNat 0
def To (xs:List Bool) (i:Int):Bool:=xs.getD i.toNat false
end Go.Scr
namespace Go.Scr
open Go.RowKit (Below)
variable {D:List Deferred}
def pU (n:Nat):Option Nat→Bool
 | some d=>Nat.blt d n
 | none=>true
theorem uf {n:Nat} {d:Option Nat} (h:pU n d=true): ∀t,d=some t→t<n:=by
 intro t e;subst e;simpa [pU,Nat.blt_eq] using h
section
variable {P:Program} {R:Ending→World→Prop} {f:FuncId} {k k2:List Item} {n:Nat} {L:HX} {w w':World} {o:Oper}
def NZ (S:Value→World→Prop):Ending→World→Prop:=fun e w'=> ∃v,e= .returned v∧S v w'
theorem xX {t e:TypeId} {info:TypeInfo} {ad:Addr} {m c:Nat} {kd:IntKind} {i:Int} (hu:P.underlying t=some (.slice e)) (hi:P.info? e=some info) (hs:info.size=1) (h0:0≤i) (h1:i<m):
 (Instr.indexAt t (.slice (some ad) m c) (.int kd i)).run P w= .ok (.pointer (some (ad.add i.toNat))) w:=by
 simp [Instr.indexAt,asIntOf,underlying,sizeOf,typeInfo,program,bind,Sem.bind,pure,Sem.run,hu,hi,hs,h0,h1]
theorem gp {s:Sem Value} {v:Value} (h:s.run P w= .ok v w'):(do pure (Next.value (←s)):Sem Next).run P w= .ok (.value v) w':=by
 rw [Sem.run_bind,h];rfl
theorem Dm {s:Sem Unit} (h:s.run P w= .ok () w'):(do s;pure Next.skip:Sem Next).run P w= .ok .skip w':=by
 rw [Sem.run_bind,h];rfl
def lf (P:Program) (t:TypeId):Bool:=
 match P.underlying t with
 | some (.struct _)=>false
 | some (.array _ _)=>false
 | some _=>true
 | none=>false
theorem sB {t:TypeId} (h:lf P t=true):(isAgg t).run P w= .ok false w:=by
 unfold lf at h
 cases hu:P.underlying t with
 | none=>rw [hu] at h;cases h
 | some d=>
  rw [hu] at h
  simp only [isAgg,underlying,program,bind,Sem.bind,pure,Sem.run,hu]
  cases d<;>first | rfl | cases h
theorem wn {t:TypeId} {p:Addr} {u:Value} (h:lf P t=true) (hc:w.cell? p=some u):(loadVar t p).run P w= .ok u w:=by
 unfold loadVar
 rw [Sem.run_bind,sB h]
 simp [Result.andThen,load,Sem.run,hc]
def pV:Value→Bool
 | .agg _=>false
 | .tuple _=>false
 | _=>true
theorem kG {v:Value} (h:pV v=true):v.cells= #[v]:=by cases v<;>first | rfl | cases h
def shl (k:IntKind) (x:Int) (n:Nat):Int:=k.wrap (x*2^n)
def shr (x:Int) (n:Nat):Int:=x.fdiv (2^n)
def lG (k:IntKind) (x y:Int):Int:=shl k x (min y.toNat k.bits)
def mM (k:IntKind) (x y:Int):Int:=shr x (min y.toNat k.bits)
end
end Go.Scr
namespace Go.Scr
open Go.RowKit (Below)
variable {D:List Deferred}
def xV (ops:Array Oper) (dn:List Nat):Array Bool:=dn.foldl (fun l i=>l.setIfInBounds i true) (Array.replicate ops.size false)
theorem Es (ops:Array Oper) (dn:List Nat) (i:Nat):xV ops (dn++[i])=(xV ops dn).setIfInBounds i true:=by simp [xV,List.foldl_append]
section
variable {P:Program} {R:Ending→World→Prop} {f:FuncId} {k k2:List Item} {n:Nat} {ops:Array Oper} {S S':World→Prop} {L L':HX} {w w':World} {fuel:Nat} {dn:List Nat}
def one (ops:Array Oper) (i:Nat):List Item:=[.inRegion ops [i]]
def R8 (p:Nat→Prop):List Nat→Prop
 | []=>True
 | i::r=>p i∧R8 p r
end
def o7:List Nat→Nat
 | []=>0
 | i::r=>Nat.lor (Nat.shiftLeft 1 i) (o7 r)
theorem nD (j:Nat): ∀dn:List Nat,(o7 dn).testBit j=decide (j∈dn)
 | []=>by simp [o7]
 | i::r=>by
  show ((1 <<< i) ||| o7 r).testBit j=_
  rw [Nat.testBit_or,nD j r,Nat.one_shiftLeft,Nat.testBit_two_pow]
  by_cases h:i=j
  ·subst h;simp
  ·have:¬ j=i:=fun e=>h e.symm
   simp [h,this]
def j8:List Edge→Nat
 | []=>0
 | e::r=>bif Region.binds .any e then Nat.lor (Nat.shiftLeft 1 e.on) (j8 r) else j8 r
theorem qR (m:Nat): ∀l:List Edge,Nat.beq (Nat.land (j8 l) m) (j8 l)=l.all fun e=> !Region.binds .any e ||m.testBit e.on
 | []=>by simp [j8]
 | e::r=>by
  have ih:=qR m r
  rw [List.all_cons,←ih,j8]
  cases hb:Region.binds .any e with
  | false=>simp
  | true=>
   simp only [cond_true,Bool.not_true,Bool.false_or]
   have key:(((1 <<< e.on) ||| j8 r) &&& m=((1 <<< e.on) ||| j8 r))↔(m.testBit e.on=true∧j8 r &&& m=j8 r):=by
    constructor
    ·intro h
     have hb: ∀j,((((1 <<< e.on) ||| j8 r) &&& m).testBit j)=(((1 <<< e.on) ||| j8 r).testBit j):=fun j=>by rw [h]
     refine ⟨?_,Nat.eq_of_testBit_eq fun j=> ?_⟩
     ·have:=hb e.on
      rw [Nat.testBit_and,Nat.testBit_or,Nat.one_shiftLeft,Nat.testBit_two_pow_self,Bool.true_or,Bool.true_and] at this
      exact this
     ·have:=hb j
      rw [Nat.testBit_and,Nat.testBit_or] at this
      rw [Nat.testBit_and]
      cases h1:(j8 r).testBit j with
      | false=>rfl
      | true=>rw [h1,Bool.or_true,Bool.true_and] at this;rw [this];rfl
    ·rintro ⟨h1,h2⟩
     refine Nat.eq_of_testBit_eq fun j=> ?_
     have hb:(j8 r &&& m).testBit j=(j8 r).testBit j:=by rw [h2]
     rw [Nat.testBit_and] at hb
     rw [Nat.testBit_and,Nat.testBit_or,Nat.one_shiftLeft,Nat.testBit_two_pow]
     by_cases hj:e.on=j
     ·subst hj;simp [h1]
     ·simp only [hj,decide_false,Bool.false_or];exact hb
   have bq: ∀a b:Nat,Nat.beq a b=decide (a=b):=fun a b=>by
    by_cases h:a=b
    ·subst h;simp
    ·rw [decide_eq_false h];exact Bool.eq_false_iff.2 fun e=>h (Nat.eq_of_beq_eq_true e)
   show Nat.beq (((1 <<< e.on) ||| j8 r) &&& m) ((1 <<< e.on) ||| j8 r)=(m.testBit e.on&&Nat.beq (j8 r &&& m) (j8 r))
   rw [bq,bq]
   cases hm:m.testBit e.on with
   | false=>rw [decide_eq_false (fun h=>by have:=(key.1 h).1;rw [hm] at this;cases this)];rfl
   | true=>
    rw [Bool.true_and,decide_eq_decide,key]
    exact ⟨fun h=>h.2,fun h=>⟨hm,h⟩⟩
theorem rk (ops:Array Oper) (dn:List Nat) (j:Nat) (b:Bool):(xV ops dn).getD j b=if j<ops.size then decide (j∈dn) else b:=by
 have H: ∀(dn:List Nat) (l:Array Bool),(dn.foldl (fun l i=>l.setIfInBounds i true) l).size=l.size∧ ∀j b,(dn.foldl (fun l i=>l.setIfInBounds i true) l).getD j b=if j<l.size then (l.getD j false ||decide (j∈dn)) else b:=by
  intro dn
  induction dn with
  | nil=>
   intro l
   refine ⟨rfl,fun j b=> ?_⟩
   by_cases h:j<l.size
   ·rw [if_pos h];simp [Array.getD,h]
   ·rw [if_neg h];simp [Array.getD,h]
  | cons i r ih=>
   intro l
   obtain ⟨h1,h2⟩:=ih (l.setIfInBounds i true)
   refine ⟨by rw [List.foldl_cons,h1,Array.size_setIfInBounds],fun j b=> ?_⟩
   rw [List.foldl_cons,h2,Array.size_setIfInBounds]
   by_cases h:j<l.size
   ·rw [if_pos h,if_pos h]
    by_cases e:i=j
    ·subst e;simp [Array.getD,h]
    ·have e':¬ j=i:=fun x=>e x.symm
     have:(l.setIfInBounds i true).getD j false=l.getD j false:=by
      simp [Array.getD,h,Array.getElem_setIfInBounds,e]
     rw [this];simp [e']
   ·rw [if_neg h,if_neg h]
 have:=(H dn (Array.replicate ops.size false)).2 j b
 unfold xV
 rw [this,Array.size_replicate]
 by_cases h:j<ops.size
 ·rw [if_pos h,if_pos h];simp [Array.getD,h]
 ·rw [if_neg h,if_neg h]
section
variable {ops:Array Oper} {cert:List Nat} {fr:Nat} {dn:List Nat}
end
end Go.Scr
namespace Go.Scr
open Go.RowKit (Below)
variable {D:List Deferred}
section
variable {P:Program} {R:Ending→World→Prop} {f:FuncId} {k k2:List Item} {n:Nat} {ops:Array Oper} {S:World→Prop} {L L':HX} {w w0 W w':World} {fuel:Nat} {dn:List Nat} {H:List RJ}
def nh (xs:List Int):ByteArray:=xs.foldl (fun r n=>r.push (UInt8.ofNat n.toNat)) ByteArray.empty
def mn (x y:Int):Int:=if y<x then y else x
def mx (x y:Int):Int:=if x<y then y else x
theorem Rd.nil (W:World) (kd:IntKind):Rd W (.slice none 0 0) (nums kd []):=⟨rfl,Nat.le_refl _,fun i u hi=>by simp [nums] at hi⟩
end
end Go.Scr
namespace Go.Scr
open Go.RowKit (Below)
variable {D:List Deferred}
section
variable {P:Program} {R:Ending→World→Prop} {f:FuncId} {k k2:List Item} {n:Nat} {ops:Array Oper} {S:World→Prop} {L L':HX} {w w0 W w':World} {fuel:Nat} {dn:List Nat} {H:List RJ}
def sb (s:ByteArray) (i:Int):Int:=((s.data.getD i.toNat 0).toNat:Int)
theorem nV (d:Nat) {e:TypeId} (he:P.underlying e=some .bool) (xs ys:List Bool): ∀(is:List Nat),(∀i∈is,i<xs.length∧i<ys.length)→
 (Op.eqItems (d+1) e 1 (ly xs).toArray (ly ys).toArray is).run P w= .ok (is.all fun i=>xs.getD i false==ys.getD i false) w
 | [],_=>by simp [Op.eqItems]
 | i::is,hi=>by
  have hx:=(hi i List.mem_cons_self).1
  have hy:=(hi i List.mem_cons_self).2
  have hagg:(isAgg e).run P w= .ok false w:=by
   unfold isAgg
   rw [Sem.run_bind,run_underlying he w];rfl
  have p: ∀zs:List Bool,i<zs.length→(part e (ly zs).toArray (i*1)).run P w= .ok (.bool (zs.getD i false)) w:=by
   intro zs hz
   unfold part
   rw [Sem.run_bind,hagg]
   simp [ly,hz,List.getD_eq_getElem?_getD]
  have q:(Op.equalIn (d+1) e (.bool (xs.getD i false)) (.bool (ys.getD i false))).run P w= .ok (xs.getD i false==ys.getD i false) w:=by
   simp [Op.equalIn,Sem.run_bind,run_underlying he w]
  simp only [Op.eqItems,Sem.run_bind,p xs hx,p ys hy,q,Result.andThen_ok,List.all_cons]
  cases hb:xs.getD i false==ys.getD i false
  ·simp
  ·simp only [Bool.not_true,Bool.false_eq_true,if_false,Bool.true_and]
   exact nV d he xs ys is (fun j hj=>hi j (List.mem_cons_of_mem _ hj))
theorem wo {xs ys:List Bool} {N:Nat} (hx:xs.length=N) (hy:ys.length=N):((List.range N).all fun i=>xs.getD i false==ys.getD i false)=(xs==ys):=by
 rw [Bool.eq_iff_iff]
 simp only [List.all_eq_true,List.mem_range,beq_iff_eq]
 constructor
 ·intro h
  refine List.ext_getElem (by omega) fun i h1 h2=> ?_
  have:=h i (by omega)
  simpa [List.getD_eq_getElem?_getD,h1,h2] using this
 ·intro h;subst h;intro i _;rfl
def Rg (w:World) (b:Nat) (cs:List Value):Prop:= ∀i u,cs[i]? =some u→w.cell? ⟨b,i,none⟩=some u
end
end Go.Scr
namespace Go.Scr
def U8 (x:Int):Int:=IntKind.wrap .u8 x
def fv (x:Int):Int:=IntKind.wrap .u32 x
def kX (x:Int):Int:=IntKind.wrap .u64 x
def ak (x:Int):Int:=IntKind.wrap .i64 x
def iT (k:IntKind) (x y:Int):Int:=k.wrap (BitVec.ofInt k.bits x &&& BitVec.ofInt k.bits y).toNat
def rm (k:IntKind) (x y:Int):Int:=k.wrap (BitVec.ofInt k.bits x ||| BitVec.ofInt k.bits y).toNat
def aK (k:IntKind) (x y:Int):Int:=k.wrap (BitVec.ofInt k.bits x ^^^ BitVec.ofInt k.bits y).toNat
end Go.Scr
namespace Go.Scr
open Go.RowKit (Below)
def In:IntKind→Int→Prop
 | .u8,x=>0≤x∧x<256
 | .u16,x=>0≤x∧x<65536
 | .u32,x=>0≤x∧x<4294967296
 | .u64,x=>0≤x∧x<18446744073709551616
 | .i8,x=> -128≤x∧x<128
 | .i16,x=> -32768≤x∧x<32768
 | .i32,x=> -2147483648≤x∧x<2147483648
 | .i64,x=> -9223372036854775808≤x∧x<9223372036854775808
theorem In_of_wf {k:IntKind} {x:Int} (h:(Lit.int k x).wf=true):In k x:=by
 cases k<;>simp only [Lit.wf,Bool.and_eq_true,decide_eq_true_eq] at h<;>simp only [In]<;>(have h1:=h.1;have h2:=h.2;simp [IntKind.min,IntKind.max,IntKind.signed,IntKind.bits] at h1 h2;omega)
def IsRow (k:IntKind) (w:World) (a:Option Addr) (len cap:Nat) (zs:List Int):Prop:=
 (a=none∧len=0∧cap=0∧zs=[])∨
 ∃x,a=some x∧len≤cap∧cap≤maxLen∧zs.length=cap∧(∀i,i<zs.length→w.cell? (x.add i)=some (.int k (zs.getD i 0)))∧ ∀n∈zs,(Lit.int k n).wf=true
theorem IsRow.rd {k:IntKind} {w:World} {a:Option Addr} {len cap:Nat} {zs:List Int} (h:IsRow k w a len cap zs):
 Rd w (.slice a len cap) (nums k (zs.take len))∧(∀x∈zs.take len,In k x)∧(zs.take len).length≤maxLen:=by
 rcases h with ⟨rfl,rfl,rfl,rfl⟩ | ⟨x,rfl,h1,h2,h3,h4,h5⟩
 ·exact ⟨Rd.nil w k,by simp,by simp [maxLen]⟩
 ·refine ⟨⟨by simp [nums];omega,h1,fun i u hi=>⟨x,rfl,?_⟩⟩,fun n hn=>In_of_wf (h5 n (List.mem_of_mem_take hn)),by simp;omega⟩
  unfold nums at hi
  rw [List.getElem?_map] at hi
  obtain ⟨n,hn,rfl⟩:=Option.map_eq_some_iff.1 hi
  have hz:zs[i]? =some n:=by
   rw [List.getElem?_take] at hn
   split at hn
   ·exact hn
   ·cases hn
  obtain ⟨hlt,_⟩:=List.getElem?_eq_some_iff.1 hz
  rw [h4 i hlt]
  simp [hz]
theorem rg_of_trod {P:Program} {w:World} {H:Type} {enc:TypeId×Value→H} {base:Nat} {spare:Nat→Bool} {held:Bool} {fuel n:Nat} {t e:TypeId} {k:IntKind} {cs:List Value} {ns:List Int} {ps:List MemPlace}
 (ht:P.underlying t=some (.array n e)) (he:P.underlying e=some (.int k)) (hc:P.cellsOf e=1) (h:DataW.trod enc P w base spare held fuel t cs=some (.agg (ns.map fun z=> .lit (.int k z)),ps)) {i:Nat} {u:Value} (hu:(nums k ns)[i]? =some u):cs[i]? =some u:=by
 obtain ⟨xs,m,rfl,hx,hl,hn,hel⟩:=DataW.trod_array ht h
 injection hx with hx1 hx2
 injection hx1 with hx1
 unfold nums at hu
 rw [List.getElem?_map] at hu
 obtain ⟨z,hz,rfl⟩:=Option.map_eq_some_iff.1 hu
 have hlen:ns.length=xs.length:=by simpa using congrArg List.length hx1
 obtain ⟨hi,hz'⟩:=List.getElem?_eq_some_iff.1 hz
 have hi':i<xs.length:=by omega
 have h1:=hel i (by omega)
 rw [List.getElem?_eq_getElem hi'] at h1
 obtain ⟨y,e1,e2,_⟩:=DataW.trod_int he h1
 have e3:(DataW.lit (.int k z):DataW H)= .lit (.int k y):=by
  have:=congrArg (fun l=>l[i]?) hx1
  simp only [List.getElem?_map,hz,List.getElem?_eq_getElem hi',e2,Option.map_some] at this
  exact Option.some.inj this
 injection e3 with e3
 injection e3 with _ e3
 subst e3
 rw [hc,Nat.mul_one] at e1
 have e4:((cs.drop i).take 1)[0]? =some (.int k z):=by rw [e1];rfl
 rw [List.getElem?_take,if_pos (by decide),List.getElem?_drop] at e4
 simpa using e4
end Go.Scr
