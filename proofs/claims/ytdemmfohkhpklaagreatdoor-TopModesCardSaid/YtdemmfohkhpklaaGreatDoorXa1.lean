/- The abstract machine and what it says of the memory. -/
import Derived.Test.YtdemmfohkhpklaaGreatDoorXa0
set_option linter.unusedVariables false
set_option linter.unusedSimpArgs false
set_option linter.unnecessarySimpa false
namespace Go.Scr.A
variable {P:Program} {Gl:AE} {o:Oper} {E:AE} {H:List HE}
def wu (c l:Nat) (A:Option Addr):Option Addr:=if c=l then A else A.map (·.add l)
def Ig (L:Nat) (lo hi:Option Nat):AV→Option AV
 | .c (.slice none 0 0)=>some (.c (.slice none 0 0))
 | .row x f=>match lo,hi with
  | none,none=>some (.row x f)
  | some l,none=>some (.row (x.drop l) f)
  | none,some h=>some (.row (x.take h) false)
  | some l,some h=>some (.row (x.cut l h) false)
 | .own id none f=>match lo,hi with
  | none,none=>some (.own id none f)
  | some l,none=>some (.own id (some (l,L)) f)
  | none,some h=>some (.own id (some (0,h)) false)
  | some l,some h=>some (.own id (some (l,h)) false)
 | .own id (some (l0,h0)) f=>match lo,hi with
  | none,none=>some (.own id (some (l0,h0)) f)
  | some l,none=>some (.own id (some (l0+l,h0)) f)
  | none,some h=>bif f then none else some (.own id (some (l0,l0+h)) false)
  | some l,some h=>bif f then none else some (.own id (some (l0+l,l0+h)) false)
 | _=>none
section
variable {T:TS} {Y:eQ} {X:eQ} {W:World} {β:Be} {u:Value} {v w:AV} {n L:Nat} {rd:List HE}
def nz (lo:Option Nat):Nat:=lo.getD 0
theorem uj {x:Ct} {f:Bool} {A:Option Addr} {n c l h:Nat} {x':Ct} {f':Bool} (hv:VR X W β (.row x f) (.slice A n c)) (hlh:l≤h) (hh:h≤n) (hx: ∀cs,CR X W β x cs→cs.length=n→CR X W β x' ((cs.take h).drop l)) (hf:f'=true→f=true∧h=n):
 VR X W β (.row x' f') (.slice (wu c l A) (h-l) (c-l)):=by
 obtain ⟨A',n',c',cs,h1,h2,h3,h4,h5,h6⟩:=hv
 injection h1 with e1 e2 e3;subst e1;subst e2;subst e3
 refine ⟨_,h-l,c-l,(cs.take h).drop l,rfl,hx cs h2 h3,by simp;omega,by omega,fun hf'=> ?_,?_⟩
 ·obtain ⟨q1,q2⟩:=hf hf'
  have:=h5 q1;omega
 ·intro j v hj
  have hlt:=(List.getElem?_eq_some_iff.1 hj).1
  simp at hlt
  unfold wu;rw [if_neg (by omega)]
  rw [List.getElem?_drop,List.getElem?_take] at hj
  split at hj
  ·obtain ⟨a,k1,k2,k3⟩:=h6 _ _ hj
   refine ⟨a.add l,by rw [k1];rfl,?_,?_⟩
   ·have:(a.add l).add j=a.add (l+j)∨(a.add l).add j=a.add (l+j):=by
     obtain ⟨g,of,sp⟩:=a
     unfold Addr.add
     by_cases h1:l=0<;>by_cases h2:j=0<;>simp [h1,h2,Nat.add_assoc]<;>omega
    rw [this.elim id id];exact k2
   ·have:(a.add l).block=a.block:=by unfold Addr.add;split<;>rfl
    rw [this];exact k3
  ·cases hj
theorem AI {A:Option Addr} {c:Nat} {lo hi:Option Nat} (hv:VR X W β v (.slice A n c)) (hL:L=n) (hnc:n≤c) (h:Ig L lo hi v=some w) (hlh:nz lo≤hi.getD n) (hh:hi.getD n≤n):
 VR X W β w (.slice (wu c (nz lo) A) (hi.getD n-nz lo) (c-nz lo)):=by
 subst hL
 have nn: ∀(A:Option Addr),wu c 0 A=A:=fun A=>by
  unfold wu
  split
  ·rfl
  ·cases A<;>simp [Addr.add]
 unfold Ig at h
 split at h
 ·injection h with h;subst h
  injection hv with e1 e2 e3
  subst e1;subst e2;subst e3
  have h1:nz lo=0:=by omega
  rw [h1]
  have h2:hi.getD 0=0:=by omega
  rw [h2];rfl
 ·rename_i x f
  split at h
  ·injection h with h;subst h
   simp only [nz,Option.getD_none,Nat.sub_zero,nn];exact hv
  ·rename_i l
   injection h with h;subst h
   simp only [nz,Option.getD_none,Option.getD_some] at hlh ⊢
   refine uj hv hlh (Nat.le_refl _) (fun cs h1 h2=> ?_) (fun hf=>⟨hf,rfl⟩)
   rw [←h2,List.take_length];exact h1.drop
  ·rename_i k
   injection h with h;subst h
   simp only [nz,Option.getD_none,Option.getD_some] at hlh hh ⊢
   refine uj hv hlh hh (fun cs h1 h2=> ?_) (fun hf=>by cases hf)
   rw [List.drop_zero];exact h1.take
  ·rename_i l k
   injection h with h;subst h
   simp only [nz,Option.getD_some] at hlh hh ⊢
   exact uj hv hlh hh (fun cs h1 h2=>h1.cut _ _) (fun hf=>by cases hf)
 ·rename_i id f
  have hv':=hv
  obtain ⟨A',c',bi,h1,h2,h3,h4,h5⟩:=hv
  injection h1 with e1 e2 e3;subst e1;subst e2;subst e3
  have adr: ∀l,0<c-l→wu c l A=bi.b.map fun g=>(⟨g,bi.o+l,none⟩:Addr):=fun l hl=>by
   unfold wu;rw [if_neg (by omega),h5 (by omega)]
   cases bi.b with
   | none=>rfl
   | some g=>simp [jI]
  split at h
  ·injection h with h;subst h
   simp only [nz,Option.getD_none,Nat.sub_zero,nn];exact hv'
  ·rename_i l
   injection h with h;subst h
   simp only [nz,Option.getD_none,Option.getD_some] at hlh ⊢
   exact ⟨_,_,bi,rfl,h2,hlh,Nat.le_refl _,by omega,fun hf=>by have:=h4 hf;omega,fun q2=>by omega,adr l⟩
  ·rename_i k
   injection h with h;subst h
   simp only [nz,Option.getD_none,Option.getD_some] at hlh hh ⊢
   exact ⟨_,_,bi,rfl,h2,hlh,hh,by omega,fun hf=>by (cases hf),fun q2=>by omega,adr 0⟩
  ·rename_i l k
   injection h with h;subst h
   simp only [nz,Option.getD_some] at hlh hh ⊢
   exact ⟨_,_,bi,rfl,h2,hlh,hh,by omega,fun hf=>by (cases hf),fun q2=>by omega,adr l⟩
 ·rename_i id l0 h0 f
  have hv':=hv
  obtain ⟨A',c',bi,h1,h2,h3,h4,h5,h6,h7,h8⟩:=hv
  injection h1 with e1 e2 e3;subst e1;subst e3
  have adr: ∀l,0<c-l→wu c l A=bi.b.map fun g=>(⟨g,bi.o+(l0+l),none⟩:Addr):=fun l hl=>by
   unfold wu;rw [if_neg (by omega),h8 (by omega)]
   cases bi.b with
   | none=>rfl
   | some g=>simp [jI,Nat.add_assoc]
  split at h
  ·injection h with h;subst h
   simp only [nz,Option.getD_none,Nat.sub_zero,nn];exact hv'
  ·rename_i l
   injection h with h;subst h
   simp only [nz,Option.getD_none,Option.getD_some] at hlh ⊢
   exact ⟨_,_,bi,by rw [show L-l=h0-(l0+l) by omega],h2,by omega,h4,by omega,fun hf=>by have:=h6 hf;omega,fun q2=>by have:=h7 q2;omega,adr l⟩
  ·rename_i k
   cases f with
   | true=>cases h
   | false=>
    injection h with h;subst h
    simp only [nz,Option.getD_none,Option.getD_some] at hlh hh ⊢
    exact ⟨_,_,bi,by rw [show k-0=l0+k-l0 by omega],h2,by omega,by omega,by omega,fun hf=>by (cases hf),fun q2=>by have:=h7 rfl;omega,adr 0⟩
  ·rename_i l k
   cases f with
   | true=>cases h
   | false=>
    injection h with h;subst h
    simp only [nz,Option.getD_some] at hlh hh ⊢
    exact ⟨_,_,bi,by rw [show k-l=l0+k-(l0+l) by omega],h2,by omega,by omega,by omega,fun hf=>by (cases hf),fun q2=>by have:=h7 rfl;omega,adr l⟩
 ·cases h
end
def Bd:Option Value→Option Int→Prop
 | none,none=>True
 | some v,some i=>(∃k,v= .int k i)∧0≤i
 | _,_=>False
theorem Ih {P:Program} {W:World} {t e:TypeId} {info:TypeInfo} {A:Option Addr} {n c:Nat} {lo hi:Option Value} {l h:Option Int} (hu:P.underlying t=some (.slice e)) (hi':P.info? e=some info) (hs:info.size=1)
 (hl:Bd lo l) (hh:Bd hi h)
 (l0:Nat) (el:nz (l.map Int.toNat)=l0) (h1:l0≤(h.map Int.toNat).getD n) (h2:(h.map Int.toNat).getD n≤n) (hc:n≤c):
 (Instr.sliceAt t (.slice A n c) lo hi none).run P W= .ok (.slice (wu c l0 A) ((h.map Int.toNat).getD n-l0) (c-l0)) W:=by
 cases lo with
 | none=>
  cases l with
  | some _=>exact hl.elim
  | none=>
   have el:l0=0:=el.symm
   subst el
   cases hi with
   | none=>
    cases h with
    | some _=>exact hh.elim
    | none=>simp [Instr.sliceAt,Instr.slice,Instr.sliceBounds,underlying,sizeOf,typeInfo,program,bind,Sem.bind,pure,Sem.run,hu,hi',hs,wu]<;>first | rfl | (split<;>simp_all)
   | some v=>
    cases h with
    | none=>exact hh.elim
    | some j=>
     obtain ⟨⟨k,rfl⟩,hj⟩:=hh
     have:j≤(c:Int):=by simp at h2;omega
     simp [Instr.sliceAt,Instr.slice,Instr.sliceBounds,Instr.sliceBound,asIntOf,underlying,sizeOf,typeInfo,program,bind,Sem.bind,pure,Sem.run,hu,hi',hs,hj,this,wu]<;>first | rfl | (split<;>simp_all)
 | some v=>
  cases l with
  | none=>exact hl.elim
  | some i=>
   obtain ⟨⟨k,rfl⟩,hi0⟩:=hl
   have el:l0=i.toNat:=el.symm
   subst el
   cases hi with
   | none=>
    cases h with
    | some _=>exact hh.elim
    | none=>
     have:i≤(n:Int):=by omega
     simp [Instr.sliceAt,Instr.slice,Instr.sliceBounds,Instr.sliceBound,asIntOf,underlying,sizeOf,typeInfo,program,bind,Sem.bind,pure,Sem.run,hu,hi',hs,hi0,this,wu]<;>first | rfl | (split<;>simp_all)
   | some v=>
    cases h with
    | none=>exact hh.elim
    | some j=>
     obtain ⟨⟨k',rfl⟩,hj⟩:=hh
     have q1:j≤(c:Int):=by simp at h2;omega
     have q2:i≤max j 0:=by simp at h1;omega
     simp [Instr.sliceAt,Instr.slice,Instr.sliceBounds,Instr.sliceBound,asIntOf,underlying,sizeOf,typeInfo,program,bind,Sem.bind,pure,Sem.run,hu,hi',hs,hi0,hj,q1,q2,wu]<;>first | rfl | (split<;>simp_all)
theorem EA {P:Program} {W:World} {t e:TypeId} {info:TypeInfo} {a:Addr} {n:Nat} {lo hi:Option Value} {l h:Option Int} (hu:P.underlying t=some (.array n e)) (hi':P.info? e=some info) (hs:info.size=1)
 (hl:Bd lo l) (hh:Bd hi h)
 (l0:Nat) (el:nz (l.map Int.toNat)=l0) (h1:l0≤(h.map Int.toNat).getD n) (h2:(h.map Int.toNat).getD n≤n):
 (Instr.sliceAt t (.pointer (some a)) lo hi none).run P W= .ok (.slice (wu n l0 (some a)) ((h.map Int.toNat).getD n-l0) (n-l0)) W:=by
 have fin: ∀l:Nat,(some (if n=l then a else a.add (l*1)):Option Addr)=if n=l then some a else (some a).map (·.add l):=fun l=>by split<;>simp
 cases lo with
 | none=>
  cases l with
  | some _=>exact hl.elim
  | none=>
   have el:l0=0:=el.symm
   subst el
   cases hi with
   | none=>
    cases h with
    | some _=>exact hh.elim
    | none=>simp [Instr.sliceAt,Instr.sureAddr,Instr.sliceBounds,underlying,sizeOf,typeInfo,program,bind,Sem.bind,pure,Sem.run,hu,hi',hs,wu]<;>first | rfl | (split<;>simp_all)
   | some v=>
    cases h with
    | none=>exact hh.elim
    | some j=>
     obtain ⟨⟨k,rfl⟩,hj⟩:=hh
     have:j≤(n:Int):=by simp at h2;omega
     simp [Instr.sliceAt,Instr.sureAddr,Instr.sliceBounds,Instr.sliceBound,asIntOf,underlying,sizeOf,typeInfo,program,bind,Sem.bind,pure,Sem.run,hu,hi',hs,hj,this,wu]<;>first | rfl | (split<;>simp_all)
 | some v=>
  cases l with
  | none=>exact hl.elim
  | some i=>
   obtain ⟨⟨k,rfl⟩,hi0⟩:=hl
   have el:l0=i.toNat:=el.symm
   subst el
   cases hi with
   | none=>
    cases h with
    | some _=>exact hh.elim
    | none=>
     have:i≤(n:Int):=by omega
     simp [Instr.sliceAt,Instr.sureAddr,Instr.sliceBounds,Instr.sliceBound,asIntOf,underlying,sizeOf,typeInfo,program,bind,Sem.bind,pure,Sem.run,hu,hi',hs,hi0,this,wu]<;>first | rfl | (split<;>simp_all)
   | some v=>
    cases h with
    | none=>exact hh.elim
    | some j=>
     obtain ⟨⟨k',rfl⟩,hj⟩:=hh
     have q1:j≤(n:Int):=by simp at h2;omega
     have q2:i≤max j 0:=by simp at h1;omega
     simp [Instr.sliceAt,Instr.sureAddr,Instr.sliceBounds,Instr.sliceBound,asIntOf,underlying,sizeOf,typeInfo,program,bind,Sem.bind,pure,Sem.run,hu,hi',hs,hi0,hj,q1,q2,wu]<;>first | rfl | (split<;>simp_all)
def HY (Gl E:AE):Option Operand→Option (Option Int)
 | none=>some none
 | some x=>match sC Gl E x with
  | some i=>some (some i)
  | none=>none
def xC:Option Operand→Bool
 | some x=>Dt x
 | none=>true
theorem pZ {X:eQ} {W:World} {β:Be} {a:Act} (hE:ER X W β E a) (hG:tt X W Gl) {x:Option Operand} {l:Option Int} (h:HY Gl E x=some l) (h0: ∀i,l=some i→0≤i):
 Bd (x.map a.eval) l:=by
 cases x with
 | none=>injection h with h;subst h;trivial
 | some x=>
  unfold HY at h
  simp only at h
  split at h
  ·rename_i i hi
   injection h with h;subst h
   exact ⟨mV hE hG hi,h0 i rfl⟩
  ·cases h
def Kl (c:Bool) (b:Bool) (k:Ao):Ao:=bif c then (match b with | true=>k | false=> .bad) else .nd b k
theorem wv {c b:Bool} {k:Ao} (h:b=true→k.yd P Gl o E):(Kl c b k).yd P Gl o E:=by
 unfold Kl
 cases c with
 | true=>
  cases b with
  | true=>exact h rfl
  | false=>trivial
 | false=>exact h
def qx (xl xh:Option Operand) (l h:Option Int) (n:Nat) (k:Ao):Ao:=match l,h with
 | none,none=>k
 | some i,none=>Kl (xC xl) (decide (0≤i)) (.nd (decide (i≤(n:Int))) k)
 | none,some j=>Kl (xC xh) (decide (0≤j)) (.nd (decide (j≤(n:Int))) k)
 | some i,some j=>Kl (xC xl) (decide (0≤i)) (Kl (xC xl&&xC xh) (decide (i≤j)) (.nd (decide (j≤(n:Int))) k))
theorem uk {xl xh:Option Operand} {l h:Option Int} {n:Nat} {k:Ao} (hk:(∀i,l=some i→0≤i)→(∀i,h=some i→0≤i)→nz (l.map Int.toNat)≤(h.map Int.toNat).getD n→(h.map Int.toNat).getD n≤n→k.yd P Gl o E):(qx xl xh l h n k).yd P Gl o E:=by
 unfold qx
 split
 ·exact hk (fun i h=>by cases h) (fun i h=>by cases h) (by simp [nz]) (by simp)
 ·refine wv fun h0=>fun h1=> ?_
  have h0:=of_decide_eq_true h0
  have h1:=of_decide_eq_true h1
  exact hk (fun i h=>by cases h;exact h0) (fun i h=>by cases h) (by simp [nz];omega) (by simp)
 ·refine wv fun h0=>fun h1=> ?_
  have h0:=of_decide_eq_true h0
  have h1:=of_decide_eq_true h1
  exact hk (fun i h=>by cases h) (fun i h=>by cases h;exact h0) (by simp [nz]) (by simp;omega)
 ·refine wv fun h0=>wv fun h1=>fun h2=> ?_
  have h0:=of_decide_eq_true h0
  have h1:=of_decide_eq_true h1
  have h2:=of_decide_eq_true h2
  exact hk (fun i h=>by cases h;exact h0) (fun i h=>by cases h;omega) (by simp [nz];omega) (by simp;omega)
def ye:Option Operand→Bool
 | some (.const (.int _ i))=>decide (i=0)
 | _=>false
def EB:Option Operand→Operand→Option Int
 | some (.const (.int _ i)),.const (.int _ j)=>bif decide (i=j)&&decide (0≤i) then some i else none
 | _,_=>none
theorem zD {hi:Option Operand} {m:Operand} {j:Int} (h:EB hi m=some j):0≤j∧ ∃k k',hi=some (.const (.int k j))∧m= .const (.int k' j):=by
 unfold EB at h
 split at h
 ·rename_i k i k' j'
  cases hq:decide (i=j')&&decide (0≤i) with
  | false=>rw [hq] at h;cases h
  | true=>
   rw [hq] at h
   injection h with h;subst h
   rw [Bool.and_eq_true] at hq
   have h1:=of_decide_eq_true hq.1
   subst h1
   exact ⟨of_decide_eq_true hq.2,k,k',rfl,rfl⟩
 ·cases h
def EC (P:Program) (Gl E:AE) (H:List HE) (t:TypeId) (x:Operand) (lo hi mx:Option Operand):Ao:=
 match pR Gl E x,HY Gl E lo,HY Gl E hi with
 | some v,some l,some h=>match P.underlying t with
  | some (.slice e)=>match P.info? e with
   | some info=>bif Nat.beq info.size 1 then (match mx with
    | none=>match oh H v with
     | some (n,rd)=>match Ig n (l.map Int.toNat) (h.map Int.toNat) v with
      | some w=>qx lo hi l h n (.v w rd [] [])
      | none=> .bad
     | none=> .bad
    | some m=>bif ye hi&&(ye (some m)&&lo.isNone) then (match oh H v with
     | some (n,rd)=> .v (.row .nil true) rd [] []
     | none=> .bad) else (match EB hi m,lo,v with
      | some j,none,.row x f=> .nd (decide (j≤(x.len:Int))) (.v (.row (x.take j.toNat) true) [] [] [])
      | _,_,_=> .bad)) else .bad
   | none=> .bad
  | some (.array len e)=>match P.info? e with
   | some info=>bif Nat.beq info.size 1&&mx.isNone then (match v with
    | .ptr id none ext=>match fd H id with
     | some en=>bif Nat.beq en.w len&& !(Nat.beq len 0) then (match Ig len (l.map Int.toNat) (h.map Int.toNat) (.own id none true) with
      | some w=>qx lo hi l h len (.v w [en] [] [])
      | none=> .bad) else .bad
     | none=> .bad
    | _=> .bad) else .bad
   | none=> .bad
  | _=> .bad
 | _,_,_=> .bad
theorem Ii {t:TypeId} {x:Operand} {lo hi mx:Option Operand} (ho:o.op= .slice t x lo hi mx):(EC P Gl E H t x lo hi mx).yd P Gl o E:=by
 unfold EC
 split
 ·rename_i v l h hv hl hh
  split
  ·rename_i e hu
   split
   ·rename_i info hinf
    cases hs:Nat.beq info.size 1 with
    | false=>trivial
    | true=>
     have hs:=Nat.eq_of_beq_eq_true hs
     simp only [cond_true]
     split
     ·split
      ·rename_i n rd hr
       split
       ·rename_i w hw
        refine uk fun q1 q2 q3 q4=>Yd.of fun Y W β a hH hE hG=> ?_
        have ha:=d7 hE hG hv
        obtain ⟨A,c,e1,e2⟩:=sD hr hH (fun e he=>he) ha
        rw [e1] at ha
        refine ⟨_,?_,AI ha rfl e2 hw q3 q4⟩
        simp only [execOp,ho,e1,Option.map_none]
        exact gp (Ih hu hinf hs (pZ hE hG hl q1) (pZ hE hG hh q2) _ rfl q3 q4 e2)
       ·trivial
      ·trivial
     ·rename_i m
      cases hz:ye hi&&(ye (some m)&&lo.isNone) with
      | false=>
       simp only [cond_false]
       split
       ·rename_i j x f hj
        obtain ⟨h0,k,k',e1,e2⟩:=zD hj
        subst e1;subst e2
        intro hle
        have hle:=of_decide_eq_true hle
        refine Yd.of fun Y W β a hH hE hG=> ?_
        obtain ⟨A,n,c,cs,q1,q2,q3,q4,q5,q6⟩:=d7 hE hG hv
        have q7:=CR.len q2
        refine ⟨.slice A j.toNat j.toNat,?_,A,j.toNat,j.toNat,cs.take j.toNat,rfl,q2.take,by rw [List.length_take];omega,Nat.le_refl _,fun _=>rfl,fun i w hw=>q6 i w (by rw [List.getElem?_take] at hw;split at hw;exact hw;cases hw)⟩
        simp only [execOp,ho,q1]
        refine gp ?_
        have q8:j≤(c:Int):=by omega
        have q9:max j 0=j:=by omega
        simp [Instr.sliceAt,Instr.slice,Instr.sliceBounds,Instr.sliceBound,Act.eval,asIntOf,underlying,sizeOf,typeInfo,program,bind,Sem.bind,pure,Sem.run,hu,hinf,hs,h0,q8,q9]
        exact fun _=>by cases A<;>simp [Addr.add]
       ·trivial
      | true=>
       simp only [Bool.and_eq_true] at hz
       obtain ⟨z1,z2,z3⟩:=hz
       simp only [cond_true]
       split
       ·rename_i n rd hr
        refine Yd.of fun Y W β a hH hE hG=> ?_
        obtain ⟨A,c,e1,e2⟩:=sD hr hH (fun e he=>he) (d7 hE hG hv)
        unfold ye at z1 z2
        split at z1
        ·split at z2
         ·rename_i k1 i1 hm
          injection hm with hm;subst hm
          have z1:=of_decide_eq_true z1
          have z2:=of_decide_eq_true z2
          subst z1;subst z2
          cases lo with
          | some _=>cases z3
          | none=>
           refine ⟨.slice A 0 0,?_,A,0,0,[],rfl,rfl,rfl,Nat.le_refl _,fun _=>rfl,fun j v h=>by cases h⟩
           simp only [execOp,ho,e1]
           refine gp ?_
           simp [Instr.sliceAt,Instr.slice,Instr.sliceBounds,Instr.sliceBound,Act.eval,asIntOf,underlying,sizeOf,typeInfo,program,bind,Sem.bind,pure,Sem.run,hu,hinf,hs]
         ·cases z2
        ·cases z1
       ·trivial
   ·trivial
  ·rename_i len e hu
   split
   ·rename_i info hinf
    cases hs:Nat.beq info.size 1&&mx.isNone with
    | false=>trivial
    | true=>
     simp only [Bool.and_eq_true] at hs
     obtain ⟨hs,hm⟩:=hs
     have hs:=Nat.eq_of_beq_eq_true hs
     cases mx with
     | some _=>cases hm
     | none=>
      simp only [cond_true]
      split
      ·rename_i id ext
       split
       ·rename_i en hen
        cases hb:Nat.beq en.w len&& !(Nat.beq len 0) with
        | false=>trivial
        | true=>
         simp only [Bool.and_eq_true,Bool.not_eq_true'] at hb
         have hb1:=Nat.eq_of_beq_eq_true hb.1
         have hb2:len≠0:=fun e=>by rw [e] at hb;cases hb.2
         simp only [cond_true]
         split
         ·rename_i w hw
          refine uk fun q1 q2 q3 q4=>Yd.of fun Y W β a hH hE hG=> ?_
          obtain ⟨g,bi,k1,k2,k3,k4⟩:=d7 hE hG hv
          obtain ⟨bi',cs,j1,j2,j3,j4,j5,jw,j6⟩:=hH.ok en (by simp)
          rw [(gn hen).2,k2] at j1
          injection j1 with j1;subst j1
          obtain ⟨w1,w2⟩:=jw.resolve_left (by rw [hb1];exact hb2)
          rw [hb1] at w1 w2
          have hv':VR (eI Y β (TL [en])) W β (.own id none true) (.slice (some ⟨g,bi.o,none⟩) len len):=⟨_,_,bi,by rw [w1],k2,w2.symm,fun _=>w1.symm,fun _=>by rw [k3];rfl⟩
          refine ⟨_,?_,AI hv' rfl (Nat.le_refl _) hw q3 q4⟩
          simp only [execOp,ho,k1,Option.map_none]
          exact gp (EA hu hinf hs (pZ hE hG hl q1) (pZ hE hG hh q2) _ rfl q3 q4)
         ·trivial
       ·trivial
      ·trivial
   ·trivial
  ·trivial
 ·trivial
end Go.Scr.A
namespace Go.Scr.A
variable {P:Program} {Gl:AE} {o:Oper} {E:AE} {H:List HE}
def sY (Gl E:AE) (x:Operand):Ao:=tu (pR Gl E x)
theorem yf {x:Operand} (ho:o.op= .move x∨o.op= .assign x):(sY Gl E x).yd P Gl o E:=by
 unfold sY tu
 split
 ·rename_i v hv
  refine Yd.of fun Y W β a hH hE hG=>⟨_,?_,d7 hE hG hv⟩
  rcases ho with ho | ho<;>simp [execOp,ho]
 ·trivial
def AJ (Gl E:AE) (c x y:Operand):Ao:=match pR Gl E c with
 | some (.t true)=>sY Gl E x
 | some (.t false)=>sY Gl E y
 | some (.c (.bool b))=>match c with
  | .tmp t=> .ts t b
  | _=> .bad
 | _=> .bad
theorem ED {c x y:Operand} (ho:o.op= .pick c x y):(AJ Gl E c x y).yd P Gl o E:=by
 unfold AJ
 split
 ·rename_i hc
  unfold sY tu
  split
  ·rename_i v hv
   refine Yd.of fun Y W β a hH hE hG=>⟨_,?_,d7 hE hG hv⟩
   have:=d7 hE hG hc
   simp only [VR] at this
   simp [execOp,ho,this,asBool]
  ·trivial
 ·rename_i hc
  unfold sY tu
  split
  ·rename_i v hv
   refine Yd.of fun Y W β a hH hE hG=>⟨_,?_,d7 hE hG hv⟩
   have:=d7 hE hG hc
   simp only [VR] at this
   simp [execOp,ho,this,asBool]
  ·trivial
 ·rename_i hc;split
  ·exact hc
  ·trivial
 ·trivial
def rq (Gl E:AE) (x:Operand) (i:Nat):Ao:=match pR Gl E x with
 | some (.tup c)=>bif Nat.blt i c.len then tu (c.cell i) else .bad
 | _=> .bad
theorem yg {x:Operand} {i:Nat} (ho:o.op= .extract x i):(rq Gl E x i).yd P Gl o E:=by
 unfold rq
 split
 ·rename_i c hc
  cases hb:Nat.blt i c.len with
  | false=>trivial
  | true=>
   have hlt:i<c.len:=Nat.le_of_ble_eq_true hb
   simp only [cond_true,tu]
   split
   ·rename_i v hv
    refine Yd.of fun Y W β a hH hE hG=> ?_
    obtain ⟨cs,h1,h2⟩:=d7 hE hG hc
    obtain ⟨u,h3,h4⟩:=h2.cell (by rw [h2.len];exact hlt) hv
    refine ⟨u,?_,h4⟩
    simp [execOp,ho,h1,Instr.extract,h3]
   ·trivial
 ·trivial
def Ij (Gl E:AE) (x:Operand):Ao:=match pR Gl E x with
 | some (.ptr id off ext)=> .v (.ptr id off ext) [] [] []
 | some (.obj c off ext)=> .v (.obj c off ext) [] [] []
 | some (.fn f c)=> .v (.fn f c) [] [] []
 | some (.fs f c)=> .v (.fs f c) [] [] []
 | _=> .bad
theorem Ik {x:Operand} (ho:o.op= .nilCheck x):(Ij Gl E x).yd P Gl o E:=by
 unfold Ij
 split
 ·rename_i hv
  refine Yd.of fun Y W β a hH hE hG=> ?_
  have hv:=d7 hE hG hv
  have hv':=hv
  obtain ⟨g,bi,h1,_⟩:=hv
  exact ⟨a.eval x,by simp [execOp,ho,h1],hv'⟩
 ·rename_i hv
  refine Yd.of fun Y W β a hH hE hG=> ?_
  have hv:=d7 hE hG hv
  have hv':=hv
  obtain ⟨g,o',cs,h1,_⟩:=hv
  exact ⟨a.eval x,by simp [execOp,ho,h1],hv'⟩
 ·rename_i hv
  refine Yd.of fun Y W β a hH hE hG=> ?_
  have hv:=d7 hE hG hv
  have hv':=hv
  obtain ⟨cs,h1,_⟩:=hv
  exact ⟨a.eval x,by simp [execOp,ho,h1],hv'⟩
 ·rename_i hv
  refine Yd.of fun Y W β a hH hE hG=> ?_
  have hv:=d7 hE hG hv
  have hv':=hv
  obtain ⟨cs,h1,_⟩:=hv
  exact ⟨a.eval x,by simp [execOp,ho,h1],hv'⟩
 ·trivial
def sE (Gl E:AE) (l:Bool) (x y:Operand):Ao:=match pR Gl E x,pR Gl E y with
 | some (.c (.int k a)),some (.c (.int _ b))=> .nd (decide (0≤b)) (.v (.c (.int k (if l then lG k a b else mM k a b))) [] [] [])
 | _,_=> .bad
theorem vp {l:Bool} {t t2:TypeId} {x y:Operand} (ho:o.op= .binOp (if l then .shl else .shr) t x y t2):(sE Gl E l x y).yd P Gl o E:=by
 unfold sE
 split
 ·rename_i k a k' b hx hy
  refine fun h0=>Yd.of fun Y W β ac hH hE hG=> ?_
  have h0:¬ b<0:=by have:=of_decide_eq_true h0;omega
  have e1:=d7 hE hG hx
  have e2:=d7 hE hG hy
  simp only [VR] at e1 e2
  refine ⟨_,?_,rfl⟩
  cases l<;>simp only [execOp,ho,e1,e2,if_true,if_false,Bool.false_eq_true]<;>refine gp ?_<;>simp [eqGuard,binOp,Op.shift,h0,bind,Sem.bind,pure,Sem.run,mM,shr,lG,shl]
 ·trivial
def Dx (Gl E:AE) (q:Bool) (x y:Operand):Ao:=match pR Gl E x,pR Gl E y with
 | some (.c (.int k a)),some (.c (.int k' b))=>bif kB k k' then .nd (!decide (b=0)) (.v (.c (.int k (if q then k.wrap (a.tdiv b) else a.tmod b))) [] [] []) else .bad
 | _,_=> .bad
theorem AK {q:Bool} {t t2:TypeId} {x y:Operand} (ho:o.op= .binOp (if q then .quo else .rem) t x y t2):(Dx Gl E q x y).yd P Gl o E:=by
 unfold Dx
 split
 ·rename_i k a k' b hx hy
  cases hk:kB k k' with
  | false=>trivial
  | true=>
   have:=pW hk;subst this
   refine fun h0=>Yd.of fun Y W β ac hH hE hG=> ?_
   have h0:¬ b=0:=by simpa using h0
   have e1:=d7 hE hG hx
   have e2:=d7 hE hG hy
   simp only [VR] at e1 e2
   refine ⟨_,?_,rfl⟩
   cases q<;>simp only [execOp,ho,e1,e2,if_true,if_false,Bool.false_eq_true]<;>refine gp ?_<;>simp [eqGuard,binOp,Op.intDiv,h0,bind,Sem.bind,pure,Sem.run]
 ·trivial
def EE:AV→Bool
 | .ptr .. =>true
 | .obj .. =>true
 | _=>false
def zE:AV→Bool
 | .c (.pointer none)=>true
 | _=>false
def zF (P:Program) (t:TypeId):Bool:=match P.underlying t with | some (.pointer _)=>true | _=>false
def EF (P:Program) (t:TypeId):Bool:=match P.underlying t with | some (.slice _)=>true | _=>false
def zG:AV→Bool
 | .c (.slice none 0 0)=>true
 | _=>false
def EG:AV→Option Nat
 | .row x _=>some x.len
 | _=>none
def Il:AV→Option (List Bool×Nat)
 | .agg (.B xs) n=>some (xs,n)
 | _=>none
theorem vq {v:AV} {xs:List Bool} {n:Nat} (h:Il v=some (xs,n)):v= .agg (.B xs) n:=by
 unfold Il at h
 split at h
 ·injection h with h;injection h with h1 h2;subst h1;subst h2;rfl
 ·cases h
def Im (P:Program) (t:TypeId) (n m:Nat):Bool:=match P.underlying t with
 | some (.array len e)=>match P.underlying e with
  | some .bool=>match P.info? e with
   | some _=>Nat.beq (P.cellsOf e) 1&&(!(P.eqGuardType P.depth t)&&(Nat.beq n len&&Nat.beq m len))
   | none=>false
  | _=>false
 | _=>false
theorem Dy {P:Program} {t:TypeId} {n m:Nat} (h:Im P t n m=true): ∃len e i,P.underlying t=some (.array len e)∧P.underlying e=some .bool∧P.info? e=some i∧P.cellsOf e=1∧P.eqGuardType P.depth t=false∧n=len∧m=len:=by
 unfold Im at h
 split at h
 ·rename_i len e hu
  split at h
  ·rename_i he
   split at h
   ·rename_i i hi
    simp only [Bool.and_eq_true,Bool.not_eq_true'] at h
    obtain ⟨h1,h2,h3,h4⟩:=h
    exact ⟨len,e,i,hu,he,hi,Nat.eq_of_beq_eq_true h1,h2,Nat.eq_of_beq_eq_true h3,Nat.eq_of_beq_eq_true h4⟩
   ·cases h
  ·cases h
 ·cases h
def NV (P:Program) (Gl E:AE) (neq:Bool) (t:TypeId) (x y:Operand) (o:Oper):Ao:=match pR Gl E x,pR Gl E y with
 | some v,some w=>bif EE v&&(zE w&&zF P t) then .v (.c (.bool neq)) [] [] [] else match EG v with
  | some n=>bif zG w&&EF P t then .nq n neq else .bad
  | none=>match Il v,Il w with
   | some (xs,n),some (ys,m)=>bif !neq&&Im P t n m then .v (.c (.bool (xs==ys))) [] [] [] else .bad
   | _,_=>nE P Gl E o
 | _,_=> .bad
theorem LH {P:Program} {W:World} {t el:TypeId} {A:Option Addr} {n c:Nat} (hu:P.underlying t=some (.slice el)):(Op.equal t (.slice A n c) (.slice none 0 0)).run P W= .ok A.isNone W:=by
 unfold Op.equal
 rw [show Op.maxDepth=(Op.maxDepth-1)+1 from rfl,Op.equalIn]
 cases A<;>simp [run_underlying hu]
theorem EH {X:eQ} {W:World} {β:Be} {v:AV} {u:Value} (h:EE v=true) (hv:VR X W β v u): ∃a,u= .pointer (some a):=by
 cases v<;>first | (cases h;done) | (obtain ⟨g,bi,h1,_⟩:=hv;exact ⟨_,h1⟩) | (obtain ⟨g,o,cs,h1,_⟩:=hv;exact ⟨_,h1⟩)
theorem N5 {P:Program} {W:World} {t el:TypeId} {a:Addr} (hu:P.underlying t=some (.pointer el)):(Op.equal t (.pointer (some a)) (.pointer none)).run P W= .ok false W:=by
 unfold Op.equal
 rw [show Op.maxDepth=(Op.maxDepth-1)+1 from rfl,Op.equalIn]
 simp [run_underlying hu]
theorem EI {neq:Bool} {t t2:TypeId} {x y:Operand} (ho:o.op= .binOp (if neq then .neq else .eql) t x y t2):(NV P Gl E neq t x y o).yd P Gl o E:=by
 unfold NV
 split
 ·rename_i v w hx hy
  cases hb:EE v&&(zE w&&zF P t) with
  | false=>
   simp only [cond_false]
   split
   ·rename_i n hn
    cases hc:zG w&&EF P t with
    | false=>trivial
    | true=>
     simp only [Bool.and_eq_true] at hc
     obtain ⟨h1,h2⟩:=hc
     intro X W β a hE hG
     have e1:=d7 hE hG hx
     have e2:=d7 hE hG hy
     unfold EG at hn
     split at hn
     ·rename_i x f
      injection hn with hn;subst hn
      unfold zG at h1
      split at h1
      ·simp only [VR] at e2
       unfold EF at h2
       split at h2
       ·rename_i el hu
        obtain ⟨A,m,c,cs,q1,q2,q3,q4,q5,q6⟩:=e1
        refine ⟨if neq then !A.isNone else A.isNone,?_,fun hb=> ?_⟩
        ·cases neq<;>simp only [execOp,ho,q1,e2,if_true,if_false,Bool.false_eq_true]<;>refine gp ?_<;>simp [eqGuard,binOp,LH hu]
        ·cases A with
         | some a=>cases neq<;>simp at hb
         | none=>
          cases cs with
          | nil=>exact (CR.len q2).symm
          | cons v r=>obtain ⟨a,h,_⟩:=q6 0 v rfl;cases h
       ·cases h2
      ·cases h1
     ·cases hn
   ·split
    ·rename_i xs n ys m hv hw
     cases hc: !neq&&Im P t n m with
     | false=>trivial
     | true=>
      simp only [Bool.and_eq_true,Bool.not_eq_true'] at hc
      obtain ⟨h1,h2⟩:=hc
      subst h1
      refine Yd.of fun Y W β a hH hE hG=> ?_
      have e1:=d7 hE hG hx
      have e2:=d7 hE hG hy
      rw [vq hv] at e1
      rw [vq hw] at e2
      obtain ⟨cs,f1,f2,f3⟩:=e1
      obtain ⟨ds,g1,g2,g3⟩:=e2
      cases f2;cases g2
      refine ⟨_,?_,rfl⟩
      simp only [execOp,ho,f1,g1,if_false,Bool.false_eq_true]
      refine gp ?_
      obtain ⟨len,el,inf,q1,q2,q3,q4,q5,q6,q7⟩:=Dy h2
      have f3:xs.length=n:=by simpa [ly] using f3
      have g3:ys.length=m:=by simpa [ly] using g3
      rw [Sem.run_bind,run_eqGuard_agg W .eql t x y (ly xs).toArray (ly ys).toArray q5,Result.andThen_ok,run_eql_struct,run_equalIn_array W 9999 (ly xs).toArray (ly ys).toArray q1 q3,q4,
       nV 9998 q2 xs ys (List.range len) (fun j hj=>by have:=List.mem_range.1 hj;omega),wo (by omega) (by omega)]
      rfl
    ·exact rn
  | true=>
   simp only [Bool.and_eq_true] at hb
   obtain ⟨h1,h2,h3⟩:=hb
   refine Yd.of fun Y W β ac hH hE hG=> ?_
   obtain ⟨a,e1⟩:=EH h1 (d7 hE hG hx)
   have e2:=d7 hE hG hy
   unfold zE at h2
   split at h2
   ·simp only [VR] at e2
    unfold zF at h3
    split at h3
    ·rename_i el hu
     refine ⟨_,?_,rfl⟩
     cases neq<;>simp only [execOp,ho,e1,e2,if_true,if_false,Bool.false_eq_true]<;>refine gp ?_<;>simp [eqGuard,binOp,N5 hu]
    ·cases h3
   ·cases h2
 ·trivial
def ww (P:Program) (Gl E:AE) (t:TypeId) (x:Operand) (n:Nat):Ao:=match pR Gl E x,P.underlying t with
 | some (.agg c _),some (.struct fs)=>match fs[n]? with
  | some f=>bif lf P f.type&&Nat.blt f.offset c.len then tu (c.cell f.offset) else .bad
  | none=> .bad
 | _,_=> .bad
theorem Dz {t:TypeId} {x:Operand} {n:Nat} (ho:o.op= .field t x n):(ww P Gl E t x n).yd P Gl o E:=by
 unfold ww
 split
 ·rename_i c m fs hx hu
  split
  ·rename_i f hf
   cases hb:lf P f.type&&Nat.blt f.offset c.len with
   | false=>trivial
   | true=>
    simp only [Bool.and_eq_true] at hb
    have hlt:f.offset<c.len:=Nat.le_of_ble_eq_true hb.2
    simp only [cond_true,tu]
    split
    ·rename_i v hv
     refine Yd.of fun Y W β a hH hE hG=> ?_
     obtain ⟨cs,h1,h2,_⟩:=d7 hE hG hx
     obtain ⟨u,h3,h4⟩:=h2.cell (by rw [h2.len];exact hlt) hv
     refine ⟨u,?_,h4⟩
     have ha:=sB (w:=W) hb.1
     simp [execOp,ho,h1,Instr.field,run_underlying hu,hf,asAgg,part,ha,h3]
    ·trivial
  ·trivial
 ·trivial
def wy (P:Program) (Gl E:AE) (t:TypeId) (x ix:Operand):Ao:=match pR Gl E x,sC Gl E ix,P.underlying t with
 | some (.agg c m),some i,some (.array len e)=>match P.info? e with
  | some info=>bif lf P e&&(Nat.beq info.size 1&&Nat.beq m len) then (match c.cell i.toNat with
   | some v=>wr ix (decide (0≤i)) (wr ix (decide (i<(len:Int))) (.v v [] [] []))
   | none=> .bad) else bif !lf P e&&((P.underlying e).isSome&&Nat.beq m (len*info.size)) then
    wr ix (decide (0≤i)) (wr ix (decide (i<(len:Int))) (.v (.agg (c.cut (i.toNat*info.size) (i.toNat*info.size+info.size)) info.size) [] [] [])) else .bad
  | none=> .bad
 | some (.c (.string s)),some i,some .string=>wr ix (decide (0≤i)) (.nd (decide (i<(s.size:Int))) (.v (.c (.int .u8 (sb s i))) [] [] []))
 | _,_,_=> .bad
theorem DA {t:TypeId} {x ix:Operand} (ho:o.op= .index t x ix):(wy P Gl E t x ix).yd P Gl o E:=by
 unfold wy
 split
 ·rename_i c m i len e hx hi hu
  split
  ·rename_i info hinf
   cases hb:lf P e&&(Nat.beq info.size 1&&Nat.beq m len) with
   | false=>
    simp only [cond_false]
    cases hc: !lf P e&&((P.underlying e).isSome&&Nat.beq m (len*info.size)) with
    | false=>trivial
    | true=>
     simp only [Bool.and_eq_true,Bool.not_eq_true'] at hc
     obtain ⟨b1,b2,b3⟩:=hc
     have b3:=Nat.eq_of_beq_eq_true b3
     refine pY fun h0=>pY fun h1=>Yd.of fun Y W β a hH hE hG=> ?_
     have h0:=of_decide_eq_true h0
     have h1:=of_decide_eq_true h1
     obtain ⟨cs,e1,e2,e3⟩:=d7 hE hG hx
     obtain ⟨k,e4⟩:=mV hE hG hi
     have hle:i.toNat*info.size+info.size≤cs.length:=by
      have:(i.toNat+1)*info.size≤len*info.size:=Nat.mul_le_mul_right _ (by omega)
      rw [Nat.add_mul,Nat.one_mul] at this;omega
     refine ⟨.agg ((cs.take (i.toNat*info.size+info.size)).drop (i.toNat*info.size)).toArray,?_,_,rfl,e2.cut _ _,by simp;omega⟩
     have ha:=N3 (W:=W) b1 hinf b2
     simp [execOp,ho,e1,e4,Instr.index,asIntOf,run_underlying hu,h0,h1,sizeOf,typeInfo,hinf,part,ha]
     try rw [List.drop_take]
     try simp
   | true=>
    simp only [Bool.and_eq_true] at hb
    obtain ⟨b1,b2,b3⟩:=hb
    have b2:=Nat.eq_of_beq_eq_true b2
    have b3:=Nat.eq_of_beq_eq_true b3
    simp only [cond_true]
    split
    ·rename_i v hv
     refine pY fun h0=>pY fun h1=>Yd.of fun Y W β a hH hE hG=> ?_
     have h0:=of_decide_eq_true h0
     have h1:=of_decide_eq_true h1
     obtain ⟨cs,e1,e2,e3⟩:=d7 hE hG hx
     obtain ⟨k,e4⟩:=mV hE hG hi
     obtain ⟨u,e5,e6⟩:=e2.cell (i:=i.toNat) (by omega) hv
     refine ⟨u,?_,e6⟩
     have ha:=sB (w:=W) b1
     simp [execOp,ho,e1,e4,Instr.index,asIntOf,run_underlying hu,h0,h1,sizeOf,typeInfo,hinf,b2,part,ha,e5]
    ·trivial
  ·trivial
 ·rename_i s i hx hi hu
  refine pY fun h0=>fun h1=>Yd.of fun Y W β a hH hE hG=> ?_
  have h0:=of_decide_eq_true h0
  have h1:=of_decide_eq_true h1
  have e1:=d7 hE hG hx
  simp only [VR] at e1
  obtain ⟨k,e4⟩:=mV hE hG hi
  refine ⟨_,?_,rfl⟩
  have hlt:i.toNat<s.size:=by omega
  have hg:s[i.toNat]? =some s[i.toNat]:=by simp [hlt]
  have hb:s[i.toNat]=s.data.getD i.toNat 0:=by
   simp [Array.getD,ByteArray.getElem_eq_getElem_data,show i.toNat<s.data.size from hlt]
   intro hle;omega
  simp only [execOp,ho,e1,e4]
  refine gp ?_
  simp [Instr.index,asIntOf,run_underlying hu,h0,hg,sb,hb]
 ·trivial
def Io (P:Program) (Gl E:AE) (H:List HE) (s d:TypeId) (x:Operand) (o:Oper):Ao:=match pR Gl E x with
 | some (.c _)=>nE P Gl E o
 | some v=>match sX H v,P.underlying s,P.underlying d with
  | some (.N .u8 xs,_,rd),some (.slice e),some .string=>match P.underlying e with
   | some (.int .u8)=> .v (.c (.string (nh xs))) rd [] []
   | _=> .bad
  | some (.nil,_,rd),some (.slice e),some .string=>match P.underlying e with
   | some (.int .u8)=> .v (.c (.string (nh []))) rd [] []
   | _=> .bad
  | _,_,_=> .bad
 | none=> .bad
theorem AL {P:Program} {W:World} {s d e:TypeId} {A:Option Addr} {c:Nat} {xs:List Int} (hs:P.underlying s=some (.slice e)) (he:P.underlying e=some (.int .u8)) (hd:P.underlying d=some .string)
 (r3: ∀(j:Nat) (v:Value),(nums .u8 xs)[j]? =some v→ ∃a,A=some a∧W.cell? (a.add j)=some v):(convert s d (.slice A (nums .u8 xs).length c)).run P W= .ok (.string (nh xs)) W:=by
 rw [run_convert_bytes_string W s d e A _ c hs he hd]
 cases A with
 | none=>
  have:xs=[]:=by
   cases xs with
   | nil=>rfl
   | cons u r=>obtain ⟨ad,h3,_⟩:=r3 0 (.int .u8 u) rfl;cases h3
  subst this
  rfl
 | some a=>
  rw [run_bytesToString W a _ c xs ?_]
  ·rfl
  ·exact run_loadCells_list (P:=P) (w:=W) a (nums .u8 xs) (fun j v hj=>by
    obtain ⟨ad,h3,h4⟩:=r3 j v hj
    injection h3 with h3;subst h3;exact h4)
theorem Ip {s d:TypeId} {x:Operand} (ho:o.op= .convert s d x):(Io P Gl E H s d x o).yd P Gl o E:=by
 unfold Io
 split
 ·exact rn
 ·rename_i v _ hv
  split
  ·rename_i xs f rd e hr hs hd
   split
   ·rename_i he
    refine Yd.of fun Y W β a hH hE hG=> ?_
    obtain ⟨A,c,cs,e1,e2,_,_,e5⟩:=pX hr hH (fun e he=>he) (d7 hE hG hv)
    cases e2
    refine ⟨_,?_,rfl⟩
    simp only [execOp,ho,e1]
    exact gp (AL hs he hd e5)
   ·trivial
  ·rename_i f rd e hr hs hd
   split
   ·rename_i he
    refine Yd.of fun Y W β a hH hE hG=> ?_
    obtain ⟨A,c,cs,e1,e2,_,_,e5⟩:=pX hr hH (fun e he=>he) (d7 hE hG hv)
    cases e2
    refine ⟨_,?_,rfl⟩
    simp only [execOp,ho,e1]
    exact gp (AL (xs:=[]) hs he hd (fun j v h=>by cases h))
   ·trivial
  ·trivial
 ·trivial
def tv:AV→Bool
 | .c v=>pV v
 | .agg .. =>false
 | .tup .. =>false
 | _=>true
section
variable {X:eQ} {W:World} {β:Be}
theorem pa {v:AV} {u:Value} (h:tv v=true) (hv:VR X W β v u):pV u=true:=by
 cases v with
 | c w=>cases hv;exact h
 | t b=>cases hv;rfl
 | row x f=>obtain ⟨A,n,c,cs,h1,_⟩:=hv;rw [h1];rfl
 | own id p f=>
  cases p with
  | none=>obtain ⟨A,c,bi,h1,_⟩:=hv;rw [h1];rfl
  | some p=>obtain ⟨l,h'⟩:=p;obtain ⟨A,c,bi,h1,_⟩:=hv;rw [h1];rfl
 | ptr id off ext=>obtain ⟨g,bi,h1,_⟩:=hv;rw [h1];rfl
 | obj x off ext=>obtain ⟨g,o,cs,h1,_⟩:=hv;rw [h1];rfl
 | agg x n=>cases h
 | tup x=>cases h
 | fn f x=>obtain ⟨cs,h1,_⟩:=hv;rw [h1];rfl
 | fs f x=>obtain ⟨cs,h1,_⟩:=hv;rw [h1];rfl
 | any=>exact hv
 | op b x n=>
  cases b with
  | false=>cases hv;rfl
  | true=>obtain ⟨⟨g,o,cs,h1,_⟩,_⟩:=hv;rw [h1];rfl
theorem mE.set {l:List AV} {cs:List Value} (h:mE X W β l cs) {i:Nat} {a:AV} {v:Value} (hv:VR X W β a v):mE X W β (l.set i a) (cs.set i v):=by
 induction h generalizing i with
 | nil=>exact .nil
 | cons h1 h2 ih=>
  cases i with
  | zero=>exact .cons hv h2
  | succ i=>exact .cons h1 ih
theorem zH: ∀(vs:List Value),mE X W β (vs.map cv) vs
 | []=> .nil
 | v::r=> .cons (Ex v) (zH r)
def AM (place:Nat→Option (Nat×Nat)):List AV→List (Nat×AV)→Option (List AV)
 | cs,[]=>some cs
 | cs,(i,v)::r=>match place i with
  | some (off,sz)=>bif Nat.beq sz 1&&(tv v&&Nat.blt off cs.length) then AM place (cs.set off v) r else none
  | none=>none
inductive LI (X:eQ) (W:World) (β:Be):List (Nat×AV)→List (Nat×Value)→Prop
 | nil:LI X W β [] []
 | cons {i:Nat} {a:AV} {v:Value} {l:List (Nat×AV)} {cs:List (Nat×Value)}:VR X W β a v→LI X W β l cs→LI X W β ((i,a)::l) ((i,v)::cs)
theorem EJ {place:Nat→Option (Nat×Nat)} {ps:List (Nat×AV)} {rs:List (Nat×Value)} (hp:LI X W β ps rs): ∀ {as as':List AV} {cs:List Value},mE X W β as cs→AM place as ps=some as'→
 ∃cs',Instr.fill place cs.toArray rs=some cs'.toArray∧mE X W β as' cs':=by
 induction hp with
 | nil=>intro as as' cs h hf;injection hf with hf;subst hf;exact ⟨cs,rfl,h⟩
 | @cons i a v l rs hv _ ih=>
  intro as as' cs h hf
  unfold AM at hf
  split at hf
  ·rename_i off sz hpl
   cases hb:Nat.beq sz 1&&(tv a&&Nat.blt off as.length) with
   | false=>rw [hb] at hf;cases hf
   | true=>
    rw [hb,cond_true] at hf
    simp only [Bool.and_eq_true] at hb
    obtain ⟨b1,b2,b3⟩:=hb
    have b1:=Nat.eq_of_beq_eq_true b1
    have b3:off<as.length:=Nat.le_of_ble_eq_true b3
    have hc:=kG (pa b2 hv)
    obtain ⟨cs',h1,h2⟩:=ih (h.set (i:=off) hv) hf
    refine ⟨cs',?_,h2⟩
    unfold Instr.fill
    rw [hpl]
    have hl:=h.len
    rw [←h1]
    simp [hc,b1,hl]
    intro hle;omega
  ·cases hf
end
def AN (place:Nat→Option (Nat×Nat)):Nat→List (Nat×AV)→Option (Nat×Ct)
 | off,[]=>some (off,.nil)
 | off,(i,v)::r=>match place i with
  | some (q,sz)=>match v with
   | .agg c n=>bif Nat.beq q off&&Nat.beq n sz then (match AN place (off+sz) r with
    | some (e,y)=>match c.app y with
     | some z=>some (e,z)
     | none=>none
    | none=>none) else none
   | _=>none
  | none=>none
theorem yh (ds:List Value): ∀(cs:List Value) (off k:Nat),off+k+ds.length≤cs.length→
 (ds.zipIdx k).foldl (fun (a:Array Value) (p:Value×Nat)=>a.setIfInBounds (off+p.2) p.1) cs.toArray=(cs.take (off+k)++ds++cs.drop (off+k+ds.length)).toArray:=by
 induction ds with
 | nil=>intro cs off k h;simp
 | cons d ds ih=>
  intro cs off k h
  rw [List.length_cons] at h
  rw [List.zipIdx_cons,List.foldl_cons]
  have e:cs.toArray.setIfInBounds (off+k) d=(cs.set (off+k) d).toArray:=by simp
  rw [e,ih _ _ _ (by simp;omega)]
  congr 1
  refine List.ext_getElem? fun j=> ?_
  simp only [List.getElem?_append,List.getElem?_take,List.getElem?_drop,List.getElem?_set,List.length_append,List.length_take,List.length_set,List.length_cons,List.getElem?_cons]
  have h1:min (off+(k+1)) cs.length=off+k+1:=by omega
  have h2:min (off+k) cs.length=off+k:=by omega
  rw [h1,h2]
  rcases Nat.lt_trichotomy j (off+k) with hj | hj | hj
  ·have a1:j<off+(k+1):=by omega
   have a2:j<off+k+1+ds.length:=by omega
   have a3:j<off+k+(ds.length+1):=by omega
   have a4:j<off+k+1:=by omega
   have a5:¬ off+k=j:=by omega
   simp [a1,a2,a3,a4,a5,hj]
  ·subst hj
   have a2:off+k<off+k+1+ds.length:=by omega
   have a3:off+k<off+k+(ds.length+1):=by omega
   have a4:off+k<cs.length:=by omega
   have a5:off+k<off+(k+1):=by omega
   simp [a2,a3,a4,a5]
  ·have a1:¬ j<off+k:=by omega
   have a4:¬ j<off+k+1:=by omega
   by_cases hd:j<off+k+1+ds.length
   ·have a3:j<off+k+(ds.length+1):=by omega
    have a6:j-(off+k)=(j-(off+k+1))+1:=by omega
    have a7:¬ j-(off+k)=0:=by omega
    have a8:j-(off+k)-1=j-(off+k+1):=by omega
    simp [hd,a1,a3,a4,a6]
   ·have a3:¬ j<off+k+(ds.length+1):=by omega
    have a5:¬ off+k=off+(k+1)+ds.length+(j-(off+k+1+ds.length)):=by omega
    have a6:off+(k+1)+ds.length+(j-(off+k+1+ds.length))=off+k+(ds.length+1)+(j-(off+k+(ds.length+1))):=by omega
    simp [hd,a3,a5,a6]
    exact fun hh=>by omega
theorem EK {X:eQ} {W:World} {β:Be} {place:Nat→Option (Nat×Nat)} {ps:List (Nat×AV)} {rs:List (Nat×Value)} (hp:LI X W β ps rs): ∀ {off e:Nat} {x:Ct} {cs:List Value},AN place off ps=some (e,x)→e≤cs.length→
 off≤e∧ ∃cs',Instr.fill place cs.toArray rs=some (cs.take off++cs'++cs.drop e).toArray∧CR X W β x cs'∧cs'.length=e-off:=by
 induction hp with
 | nil=>
  intro off e x cs h he
  injection h with h;injection h with h1 h2;subst h1;subst h2
  exact ⟨Nat.le_refl _,[],by simp [Instr.fill],rfl,by simp⟩
 | @cons i a v l rs hv _ ih=>
  intro off e x cs h he
  unfold AN at h
  split at h
  ·rename_i q sz hpl
   split at h
   ·rename_i c n
    cases hb:Nat.beq q off&&Nat.beq n sz with
    | false=>rw [hb] at h;cases h
    | true=>
     rw [hb,cond_true] at h
     simp only [Bool.and_eq_true] at hb
     have b1:=Nat.eq_of_beq_eq_true hb.1
     have b2:=Nat.eq_of_beq_eq_true hb.2
     subst b1;subst b2
     split at h
     ·rename_i e' y hj
      split at h
      ·rename_i z hz
       injection h with h;injection h with h1 h2;subst h1;subst h2
       obtain ⟨ds,k1,k2,k3⟩:=hv
       subst k1
       have hle:=(ih (cs:=cs) hj he).1
       have hds:q+0+ds.length≤cs.length:=by omega
       have hf:=yh ds cs q 0 hds
       obtain ⟨_,cs',f1,f2,f3⟩:=ih (cs:=cs.take (q+0)++ds++cs.drop (q+0+ds.length)) hj (by simp;omega)
       refine ⟨by omega,ds++cs',?_,k2.app f2 hz,by simp;omega⟩
       unfold Instr.fill
       rw [hpl]
       have hsz:(Value.agg ds.toArray).cells.size=n:=by simp [Value.cells,k3]
       have hcond:¬ ((Value.agg ds.toArray).cells.size≠n∨q+(Value.agg ds.toArray).cells.size>cs.toArray.size):=by
        rw [hsz];simp;omega
       have hc2:((Value.agg ds.toArray).cells.size≠n ||q+(Value.agg ds.toArray).cells.size>cs.toArray.size)=false:=by
        rw [hsz];simp;omega
       simp only [hc2]
       have hfold:(Value.agg ds.toArray).cells.zipIdx.foldl (fun cs (x:Value×Nat)=>cs.setIfInBounds (q+x.2) x.1) cs.toArray=(cs.take (q+0)++ds++cs.drop (q+0+ds.length)).toArray:=by
        rw [←hf,←Array.foldl_toList]
        simp [Value.cells]
       simp only [hfold,f1]
       simp only [Bool.false_eq_true,if_false]
       congr 2
       have e1:(cs.take (q+0)++ds++cs.drop (q+0+ds.length)).take (q+n)=cs.take q++ds:=by
        rw [List.take_append_of_le_length (by simp;omega),List.take_of_length_le (by simp;omega),Nat.add_zero]
       have e2:(cs.take (q+0)++ds++cs.drop (q+0+ds.length)).drop e'=cs.drop e':=by
        rw [List.drop_append,List.drop_of_length_le (by simp;omega),List.nil_append,List.drop_drop]
        congr 1
        simp;omega
       rw [e1,e2];simp only [List.append_assoc]
      ·cases h
     ·cases h
   ·cases h
  ·cases h
def wz (c:Ct):Nat→Option (List AV)
 | 0=>some []
 | n+1=>match wz c n,c.cell n with
  | some l,some v=>some (l++[v])
  | _,_=>none
section
variable {X:eQ} {W:World} {β:Be}
theorem mE.append' {l m:List AV} {cs ds:List Value} (h:mE X W β l cs) (h2:mE X W β m ds):mE X W β (l++m) (cs++ds):=by
 induction h with
 | nil=>exact h2
 | cons h1 _ ih=>exact .cons h1 ih
theorem mE.take' {l:List AV} {cs:List Value} (h:mE X W β l cs): ∀(n:Nat),mE X W β (l.take n) (cs.take n):=by
 induction h with
 | nil=>intro n;simp;exact .nil
 | cons h1 _ ih=>
  intro n
  cases n with
  | zero=>exact .nil
  | succ n=>exact .cons h1 (ih n)
theorem mE.drop' {l:List AV} {cs:List Value} (h:mE X W β l cs): ∀(n:Nat),mE X W β (l.drop n) (cs.drop n):=by
 induction h with
 | nil=>intro n;simp;exact .nil
 | cons h1 h2 ih=>
  intro n
  cases n with
  | zero=>exact .cons h1 h2
  | succ n=>exact ih n
theorem vt {c:Ct} {cs:List Value} (h:CR X W β c cs): ∀ {n:Nat} {l:List AV},n≤cs.length→wz c n=some l→mE X W β l (cs.take n)
 | 0,l,_,hl=>by injection hl with hl;subst hl;exact .nil
 | n+1,l,hn,hl=>by
  unfold wz at hl
  split at hl
  ·rename_i l' v h1 h2
   injection hl with hl;subst hl
   obtain ⟨u,e1,e2⟩:=h.cell (i:=n) (by omega) h2
   rw [List.take_add_one,e1]
   exact (vt h (by omega) h1).append' (.cons e2 .nil)
  ·cases hl
end
def yi (place:Nat→Option (Nat×Nat)):List AV→List (Nat×AV)→Option (List AV)
 | as,[]=>some as
 | as,(i,v)::r=>match place i with
  | some (off,sz)=>match v with
   | .agg c n=>bif Nat.beq n sz&&Nat.ble (off+sz) as.length then (match wz c n with
    | some l=>yi place (as.take off++(l++as.drop (off+sz))) r
    | none=>none) else none
   | v=>bif Nat.beq sz 1&&(tv v&&Nat.blt off as.length) then yi place (as.set off v) r else none
  | none=>none
theorem EL {X:eQ} {W:World} {β:Be} {place:Nat→Option (Nat×Nat)} {ps:List (Nat×AV)} {rs:List (Nat×Value)} (hp:LI X W β ps rs): ∀ {as as':List AV} {cs:List Value},mE X W β as cs→yi place as ps=some as'→
 ∃cs',Instr.fill place cs.toArray rs=some cs'.toArray∧mE X W β as' cs':=by
 induction hp with
 | nil=>intro as as' cs h hf;injection hf with hf;subst hf;exact ⟨cs,rfl,h⟩
 | @cons i a v l rs hv _ ih=>
  intro as as' cs h hf
  unfold yi at hf
  split at hf
  ·rename_i off sz hpl
   split at hf
   ·rename_i c n
    cases hb:Nat.beq n sz&&Nat.ble (off+sz) as.length with
    | false=>rw [hb] at hf;cases hf
    | true=>
     rw [hb,cond_true] at hf
     simp only [Bool.and_eq_true] at hb
     have b1:=Nat.eq_of_beq_eq_true hb.1
     have b2:=Nat.le_of_ble_eq_true hb.2
     subst b1
     split at hf
     ·rename_i l' hl'
      obtain ⟨ds,k1,k2,k3⟩:=hv
      subst k1
      have hl:=h.len
      have hds:off+0+ds.length≤cs.length:=by omega
      have hcs:=yh ds cs off 0 hds
      have hc:=vt k2 (by omega) hl'
      rw [List.take_of_length_le (by omega)] at hc
      have hnew:mE X W β (as.take off++(l'++as.drop (off+n))) (cs.take (off+0)++ds++cs.drop (off+0+ds.length)):=by
       rw [List.append_assoc,k3,Nat.add_zero]
       exact (h.take' off).append' (hc.append' (h.drop' _))
      obtain ⟨cs',f1,f2⟩:=ih hnew hf
      refine ⟨cs',?_,f2⟩
      unfold Instr.fill
      rw [hpl]
      have hsz:(Value.agg ds.toArray).cells.size=n:=by simp [Value.cells,k3]
      have hc2:((Value.agg ds.toArray).cells.size≠n ||off+(Value.agg ds.toArray).cells.size>cs.toArray.size)=false:=by
       rw [hsz];simp;omega
      simp only [hc2]
      have hfold:(Value.agg ds.toArray).cells.zipIdx.foldl (fun cs (x:Value×Nat)=>cs.setIfInBounds (off+x.2) x.1) cs.toArray=(cs.take (off+0)++ds++cs.drop (off+0+ds.length)).toArray:=by
       rw [←hcs,←Array.foldl_toList]
       simp [Value.cells]
      simp only [hfold,f1]
      simp only [Bool.false_eq_true,if_false]
     ·cases hf
   ·cases hb:Nat.beq sz 1&&(tv a&&Nat.blt off as.length) with
    | false=>rw [hb] at hf;cases hf
    | true=>
     rw [hb,cond_true] at hf
     simp only [Bool.and_eq_true] at hb
     obtain ⟨b1,b2,b3⟩:=hb
     have b1:=Nat.eq_of_beq_eq_true b1
     have b3:off<as.length:=Nat.le_of_ble_eq_true b3
     have hc:=kG (pa b2 hv)
     obtain ⟨cs',h1,h2⟩:=ih (h.set (i:=off) hv) hf
     refine ⟨cs',?_,h2⟩
     unfold Instr.fill
     rw [hpl]
     have hl:=h.len
     rw [←h1]
     simp [hc,b1,hl]
     intro hle;omega
  ·cases hf
def zI (P:Program):Nat→TypeId→Ek
 | 0,_=> .o
 | n+1,t=>match P.underlying t with
  | some (.int k)=> .n k
  | some .bool=> .b
  | some .string=> .s
  | some (.slice e)=>match P.underlying e with
   | some (.int k)=> .r k
   | some (.slice e)=>match P.underlying e with
    | some (.int k)=> .t k
    | _=> .o
   | _=> .o
  | some (.array _ e)=>zI P n e
  | _=> .o
inductive Fv where
 | ok (a:AV) (rd:List HE)
 | fz (id:Nat)
def LJ (H:List HE):AV→Fv
 | .own id p f=>match fd H id with
  | some e=>bif e.fz then .ok (.row (match p with | none=>e.x | some (lo,hi)=>e.x.cut lo hi) f) [e] else .fz id
  | none=> .ok (.own id p f) []
 | .c (.slice none 0 0)=> .ok (.row .nil true) []
 | a=> .ok a []
inductive Tp where
 | ok (l:List AV) (rd:List HE)
 | fz (id:Nat)
def Km (H:List HE):List AV→Tp
 | []=> .ok [] []
 | a::r=>match LJ H a with
  | .ok b rd=>match Km H r with
   | .ok l rd'=> .ok (b::l) (rd++rd')
   | .fz id=> .fz id
  | .fz id=> .fz id
section
variable {T:TS} {Y:eQ} {W:World} {β:Be}
theorem HE.fzc {X:eQ} {e:HE} (h:e.ok X W β) (hf:e.fz=true) {bi:BI} (hb:β e.id=some bi): ∃cs,CR X W β e.x cs∧cs.length=bi.n∧(0<bi.cap→ ∃g,bi.b=some g∧ ∀(j:Nat) (v:Value),cs[j]? =some v→W.cell? ⟨g,bi.o+j,none⟩=some v∧¬ X g):=by
 obtain ⟨bi',cs,j1,j2,j3,j4,j5,_,j6⟩:=h
 rw [hb] at j1;injection j1 with j1;subst j1
 refine ⟨cs,j2,j3,fun h0=> ?_⟩
 cases hg:bi.b with
 | none=>rw [hg] at j6;omega
 | some g=>
  rw [hg] at j6
  obtain ⟨cur,q1,q2,q3,q4⟩:=j6
  refine ⟨g,rfl,fun j v hj=>⟨qu q1 ?_,q4 hf⟩⟩
  rw [←q3,List.getElem?_take] at hj
  split at hj
  ·rw [List.getElem?_drop] at hj;simpa using hj
  ·cases hj
theorem zJ {a b:AV} {u:Value} {rd:List HE} (h:LJ H a= .ok b rd) (hH:HR Y W β T) (hT: ∀e∈rd,T e) (hv:VR (eI Y β T) W β a u):VR (eI Y β T) W β b u:=by
 unfold LJ at h
 split at h
 ·rename_i id p f
  split at h
  ·rename_i e he
   cases hfz:e.fz with
   | false=>rw [hfz] at h;cases h
   | true=>
    rw [hfz,cond_true] at h
    injection h with h1 h2;subst h1;subst h2
    have hok:=hH.ok e (hT e (by simp))
    cases p with
    | none=>
     obtain ⟨A,c,bi,k1,k2,k3,k4,k5⟩:=hv
     obtain ⟨cs,q1,q2,q3⟩:=HE.fzc hok hfz (bi:=bi) (by rw [(gn he).2];exact k2)
     have hle:bi.n≤bi.cap:=by obtain ⟨bi',_,j1,_,_,j4,_⟩:=hok;rw [(gn he).2,k2] at j1;injection j1 with j1;subst j1;exact j4
     refine ⟨A,bi.n,c,cs,k1,q1,q2,by rw [k3];exact hle,k4,fun j v hj=> ?_⟩
     have hlt:=(List.getElem?_eq_some_iff.1 hj).1
     obtain ⟨g,r1,r2⟩:=q3 (by omega)
     obtain ⟨r3,r4⟩:=r2 j v hj
     refine ⟨⟨g,bi.o,none⟩,by rw [k5 (by omega),r1];rfl,?_,r4⟩
     rw [jI];exact r3
    | some p=>
     obtain ⟨lo,hi⟩:=p
     obtain ⟨A,c,bi,k1,k2,k3,k4,k5,k6,k7,k8⟩:=hv
     obtain ⟨cs,q1,q2,q3⟩:=HE.fzc hok hfz (bi:=bi) (by rw [(gn he).2];exact k2)
     have hle:bi.n≤bi.cap:=by obtain ⟨bi',_,j1,_,_,j4,_⟩:=hok;rw [(gn he).2,k2] at j1;injection j1 with j1;subst j1;exact j4
     refine ⟨A,hi-lo,c,(cs.take hi).drop lo,k1,q1.cut lo hi,by simp;omega,k5,k6,fun j v hj=> ?_⟩
     have hlt:=(List.getElem?_eq_some_iff.1 hj).1
     simp at hlt
     obtain ⟨g,r1,r2⟩:=q3 (by omega)
     rw [List.getElem?_drop,List.getElem?_take] at hj
     split at hj
     ·obtain ⟨r3,r4⟩:=r2 _ v hj
      refine ⟨⟨g,bi.o+lo,none⟩,by rw [k8 (by omega),r1];rfl,?_,r4⟩
      rw [jI,Nat.add_assoc];exact r3
     ·cases hj
  ·injection h with h1 h2;subst h1;exact hv
 ·injection h with h1 h2;subst h1
  cases hv
  exact ⟨none,0,0,[],rfl,rfl,rfl,Nat.le_refl _,fun _=>rfl,fun j v h=>by cases h⟩
 ·injection h with h1 h2;subst h1;exact hv
theorem wA {l:List AV} {cs:List Value} (hl:mE (eI Y β T) W β l cs): ∀ {l':List AV} {rd:List HE},Km H l= .ok l' rd→HR Y W β T→(∀e∈rd,T e)→mE (eI Y β T) W β l' cs:=by
 induction hl with
 | nil=>intro l' rd h _ _;injection h with h1 h2;subst h1;exact .nil
 | @cons a v l cs hv _ ih=>
  intro l' rd h hH hT
  unfold Km at h
  split at h
  ·rename_i b rd1 hb
   split at h
   ·rename_i l1 rd2 hl1
    injection h with h1 h2;subst h1;subst h2
    exact .cons (zJ hb hH (fun e he=>hT e (List.mem_append_left _ he)) hv) (ih hl1 hH fun e he=>hT e (List.mem_append_right _ he))
   ·cases h
  ·cases h
end
def RL:Ek→Bool
 | .r _=>true
 | .t _=>true
 | _=>false
def yj (P:Program) (t:TypeId):Option (List Value):=match P.info? t with
 | some info=>match info.zero with
  | some z=>some z.cells.toList
  | none=>none
 | none=>none
def ul (Gl E:AE):List (Nat×Operand)→Option (List (Nat×AV))
 | []=>some []
 | (i,x)::r=>match pR Gl E x,ul Gl E r with
  | some v,some l=>some ((i,v)::l)
  | _,_=>none
theorem qy {X:eQ} {W:World} {β:Be} {a:Act} (hE:ER X W β E a) (hG:tt X W Gl): ∀ {ps:List (Nat×Operand)} {l:List (Nat×AV)},ul Gl E ps=some l→LI X W β l (ps.map fun p=>(p.1,a.eval p.2))
 | [],l,h=>by injection h with h;subst h;exact .nil
 | (i,x)::r,l,h=>by
  unfold ul at h
  split at h
  ·rename_i v l' hv hl
   injection h with h;subst h
   exact .cons (d7 hE hG hv) (qy hE hG hl)
  ·cases h
def sZ (H:List HE) (ek:Ek) (l:List AV) (k:Ct→List HE→Ao):Ao:=
 bif RL ek then (match Km H l with
  | .ok l' rd=>match Do ek l' with
   | some x=>k x rd
   | none=> .bad
  | .fz id=> .fz id)
 else match Do ek l with
  | some x=>k x []
  | none=> .bad
def AO (P:Program) (t:TypeId):Option (Nat→Option (Nat×Nat)):=match P.underlying t with
 | some (.struct fs)=>match tG P (fs.mapM fun f=>do pure (f.offset,←sizeOf f.type)) with
  | some ps=>some (ps[·]?)
  | none=>none
 | some (.array _ e)=>match P.info? e with
  | some info=>some fun i=>some (i*info.size,info.size)
  | none=>none
 | _=>none
def EM (H:List HE):List (Nat×AV)→Bool
 | []=>false
 | (_,v)::r=>(match v with
  | .own id _ _=>(match fd H id with | some e=> !e.fz | none=>false)
  | _=>false) ||EM H r
def wB (P:Program) (Gl E:AE) (H:List HE) (t:TypeId) (ps:List (Nat×Operand)):Ao:=match AO P t,yj P t,ul Gl E ps with
 | some pl,some z,some l=>match (match AN pl 0 l with
  | some (e,x)=>bif Nat.beq e z.length&&Nat.blt 0 e then some (x,e) else none
  | none=>none) with
  | some (x,e)=> .v (.agg x e) [] [] []
  | none=>match yi pl (z.map cv) l with
  | some cs=>sZ H (bif EM H l then .o else zI P 4 t) cs fun x rd=> .v (.agg x cs.length) rd [] []
  | none=> .bad
 | _,_,_=> .bad
theorem EN {ek:Ek} {l:List AV} {k:Ct→List HE→Ao} (h: ∀x rd,(∀(Y:eQ) (W:World) (β:Be) (T:TS) (cs:List Value),HR Y W β T→(∀e∈rd,T e)→mE (eI Y β T) W β l cs→CR (eI Y β T) W β x cs)→(k x rd).yd P Gl o E):(sZ H ek l k).yd P Gl o E:=by
 unfold sZ
 cases RL ek with
 | true=>
  simp only [cond_true]
  split
  ·rename_i l' rd hl
   split
   ·rename_i x hx
    exact h x rd fun Y W β T cs hH hT hc=>qt (wA hc hl hH hT) hx
   ·trivial
  ·trivial
 | false=>
  simp only [cond_false]
  split
  ·rename_i x hx
   exact h x [] fun Y W β T cs hH hT hc=>qt hc hx
  ·trivial
theorem um {t:TypeId} {z:List Value} (h:yj P t=some z) {W:World}: ∃v,(zeroValue t).run P W= .ok v W∧v.cells.toList=z:=by
 unfold yj at h
 split at h
 ·rename_i info hi
  split at h
  ·rename_i z' hz
   injection h with h;subst h
   exact ⟨z',by simp [zeroValue,typeInfo,hi,hz],rfl⟩
  ·cases h
 ·cases h
theorem DB {t:TypeId} {ps:Array (Nat×Operand)} (ho:o.op= .build t ps):(wB P Gl E H t ps.toList).yd P Gl o E:=by
 unfold wB
 split
 ·rename_i pl z l hpl hz hl
  have fin: ∀ {W:World} {a:Act} {cs:List Value},Instr.fill pl z.toArray (ps.toList.map fun p=>(p.1,a.eval p.2))=some cs.toArray→(execOp a.eval o).run P W= .ok (.value (.agg cs.toArray)) W:=by
   intro W a cs e3
   obtain ⟨zv,e1,e2⟩:=um hz (W:=W)
   simp only [execOp,ho]
   refine gp ?_
   have e5:(ps.map fun x=>match x with | (i,x)=>(i,a.eval x)).toList=ps.toList.map fun p=>(p.1,a.eval p.2):=by simp
   have e6:zv.cells=z.toArray:=by rw [←e2]
   unfold AO at hpl
   split at hpl
   ·rename_i fs hu
    split at hpl
    ·rename_i pls hp
     injection hpl with hpl;subst hpl
     have hp':=sW (w:=W) hp
     simp only [Instr.build,Sem.run_bind,e1,Result.andThen_ok,run_underlying hu,hp',e5,e6,e3,Sem.run_pure]
    ·cases hpl
   ·rename_i n e hu
    split at hpl
    ·rename_i info hi
     injection hpl with hpl;subst hpl
     simp [Instr.build,e1,run_underlying hu,sizeOf,typeInfo,hi,e6,e3]
    ·cases hpl
   ·cases hpl
  split
  ·rename_i x e hj
   split at hj
   ·rename_i e' x' hj'
    cases hb:Nat.beq e' z.length&&Nat.blt 0 e' with
    | false=>rw [hb] at hj;cases hj
    | true=>
     rw [hb,cond_true] at hj
     injection hj with hj;injection hj with h1 h2;subst h1;subst h2
     rw [Bool.and_eq_true] at hb
     have hz':=Nat.eq_of_beq_eq_true hb.1
     refine Yd.of fun Y W β a hH hE hG=> ?_
     obtain ⟨_,cs',f1,f2,f3⟩:=EK (cs:=z) (qy hE hG hl) hj' (by omega)
     rw [List.take_zero,List.nil_append,List.drop_of_length_le (by omega),List.append_nil] at f1
     exact ⟨_,fin f1,cs',rfl,f2,by omega⟩
   ·cases hj
  ·split
   ·rename_i as has
    refine EN fun x rd hx=>Yd.of fun Y W β a hH hE hG=> ?_
    obtain ⟨cs,e3,e4⟩:=EL (qy hE hG hl) (zH z) has
    exact ⟨_,fin e3,cs,rfl,hx Y W β _ cs hH (fun e he=>he) e4,e4.len⟩
   ·trivial
 ·trivial
def EO (Gl E:AE):List Operand→Option (List AV)
 | []=>some []
 | x::r=>match pR Gl E x,EO Gl E r with
  | some v,some l=>some (v::l)
  | _,_=>none
theorem tH {X:eQ} {W:World} {β:Be} {a:Act} (hE:ER X W β E a) (hG:tt X W Gl): ∀ {xs:List Operand} {l:List AV},EO Gl E xs=some l→mE X W β l (xs.map a.eval)
 | [],l,h=>by injection h with h;subst h;exact .nil
 | x::r,l,h=>by
  unfold EO at h
  split at h
  ·rename_i v l' hv hl
   injection h with h;subst h
   exact .cons (d7 hE hG hv) (tH hE hG hl)
  ·cases h
def RN (Gl E:AE) (fn:Fn) (first captured:List Operand):Ao:=match fn,captured with
 | .func f,[]=>match EO Gl E first with
  | some l=> .v (.fn f (bE l)) [] [] []
  | none=> .bad
 | _,_=> .bad
theorem LK {fn:Fn} {first captured:Array Operand} (ho:o.op= .makeFunc fn first captured):(RN Gl E fn first.toList captured.toList).yd P Gl o E:=by
 unfold RN
 split
 ·rename_i f hc
  split
  ·rename_i l hl
   refine Yd.of fun Y W β a hH hE hG=> ?_
   refine ⟨_,?_,first.toList.map a.eval,rfl,(tH hE hG hl).of⟩
   have hc:captured= #[]:=by cases captured;simpa using hc
   have e:first.map a.eval=(first.toList.map a.eval).toArray:=by cases first;simp
   rw [←e]
   simp [execOp,ho,hc,Instr.makeFunc]
  ·trivial
 ·trivial
end Go.Scr.A
namespace Go.Scr.A
variable {P:Program} {Gl:AE} {o:Oper} {E:AE} {H:List HE} {new:Nat}
def put (β:Be) (i:Nat) (b:BI):Be:=fun j=>if j=i then some b else β j
theorem pb (β:Be) (i:Nat) (b:BI):put β i b i=some b:=by simp [put]
theorem zK (β:Be) {i j:Nat} (b:BI) (h:j≠i):put β i b j=β j:=by simp [put,h]
theorem EP {β:Be} {i:Nat} {b:BI} (h:β i=none): ∀id bi,β id=some bi→put β i b id=some bi:=fun id bi hh=>by
 rw [zK]
 ·exact hh
 ·intro e;rw [e,h] at hh;cases hh
theorem nW (l r:List HE):TU (TL l) (TL r)=TL (l++r):=by
 funext e;simp [TU]
theorem p7 {β:Be} {g:Nat} (h:fI β (TL []) g):False:=by obtain ⟨e,h1,_⟩:=h;cases h1
structure ru (W W1:World) (cur:Array Value) (ty:TypeId):Prop where
 os:W1.os=W.os
 tape:W1.tape=W.tape
 output:W1.output=W.output
 heap:W1.heap=W.heap.push (.cells cur ty (0,0))
theorem ru.old {W W1:World} {cur:Array Value} {ty:TypeId} (h:ru W W1 cur ty) {b:Nat} (hb:b<W.heap.size):W1.heap[b]? =W.heap[b]? :=by
 rw [h.heap,Array.getElem?_push,if_neg (by omega)]
theorem ru.nw {W W1:World} {cur:Array Value} {ty:TypeId} (h:ru W W1 cur ty):W1.heap[W.heap.size]? =some (.cells cur ty (0,0)):=by
 rw [h.heap];simp
theorem ru.size {W W1:World} {cur:Array Value} {ty:TypeId} (h:ru W W1 cur ty):W1.heap.size=W.heap.size+1:=by
 rw [h.heap];simp
theorem ru.of (W:World) (cur:Array Value) (ty:TypeId):ru W {W with heap:=W.heap.push (.cells cur ty)} cur ty:=⟨rfl,rfl,rfl,rfl⟩
theorem qz {rd:List HE} {v:AV} {e:HE} (hid:e.id=new) (hfz:e.fz=false)
 (h: ∀(Y:eQ) (W:World) (β:Be) (a:Act),HR Y W β (TL rd)→ER (eI Y β (TL rd)) W β E a→tt (eI Y β (TL rd)) W Gl→
  ∃u W1 cur cs cap,vc P o a W u W1∧ru W W1 cur e.ty∧CR (eI Y β (TL rd)) W β e.x cs∧cs.length≤cap∧cap≤maxLen∧(e.w=0∨cs.length=e.w∧cap=e.w)∧cur.size=cap∧cur.toList.take cs.length=cs∧
   ∀(X':eQ) (W':World) (β':Be),β' new=some ⟨some W.heap.size,cs.length,cap,0⟩→VR X' W' β' v u):Dp P Gl o E (TL rd) new v (TL ([e]++rd)):=by
 intro Y W β a hH hE hG hf
 obtain ⟨u,W1,cur,cs,cap,h1,h2,h3,h4,h5,h6,h7,h8,h9⟩:=h Y W β a hH hE hG
 have hnew:β new=none:=hf new (Nat.le_refl _) (by omega)
 have hbe: ∀id bi,β id=some bi→put β new ⟨some W.heap.size,cs.length,cap,0⟩ id=some bi:=EP hnew
 have hH0:HR Y W β (TU (TL []) (TL rd)):=by rw [nW];exact hH
 have hc:qS W (fI β (TL [])) β W1 (fI (put β new ⟨some W.heap.size,cs.length,cap,0⟩) (TL [e])) (put β new ⟨some W.heap.size,cs.length,cap,0⟩):=by
  refine ⟨h2.os,h2.tape,h2.output,by rw [h2.size];omega,fun b hb _=>h2.old hb,hbe,?_⟩
  rintro g ⟨x,hx,_,hg⟩
  have hx:x=e:=by simpa using hx
  subst hx
  unfold ik at hg
  rw [hid,pb] at hg
  injection hg with hg
  exact .inr (by omega)
 have hx:HR (eI Y β (TL rd)) W1 (put β new ⟨some W.heap.size,cs.length,cap,0⟩) (TL [e]):=by
  have hy:=(hH0.part (fun e h=>by cases h)).ylt
  refine ⟨?_,?_,?_,fun g hg=>by have:=hy g hg;rw [h2.size];omega⟩
  ·intro x hx
   have hx:x=e:=by simpa using hx
   subst hx
   have hp:lH (eI Y β (TL rd)) W β (eI (eI Y β (TL rd)) (put β new ⟨some W.heap.size,cs.length,cap,0⟩) (TL [x])) W1 (put β new ⟨some W.heap.size,cs.length,cap,0⟩):=by
    refine ⟨fun b hb hX=>⟨h2.old hb,?_⟩,hbe⟩
    rintro (hb2 | ⟨y,hy1,_,hg⟩)
    ·exact hX hb2
    ·have hy1:y=x:=by simpa using hy1
     subst hy1
     unfold ik at hg
     rw [hid,pb] at hg
     injection hg with hg
     omega
   exact ⟨⟨some W.heap.size,cs.length,cap,0⟩,cs,by rw [hid];exact pb _ _ _,h3.pers hp,rfl,h4,h5,h6,cur,h2.nw,h7.trans (Nat.zero_add _).symm,h8,fun hh=>by rw [hfz] at hh;cases hh⟩
  ·intro x y hx hy hne
   have hx:x=e:=by simpa using hx
   have hy:y=e:=by simpa using hy
   exact absurd (hx.trans hy.symm) hne
  ·intro x hx _ g hg hY
   have hx:x=e:=by simpa using hx
   subst hx
   unfold ik at hg
   rw [hid,pb] at hg
   injection hg with hg
   have:=hy g hY
   omega
 obtain ⟨r1,r2,r3⟩:=hH0.join (fun e h=>by cases h) hx hc
 rw [nW] at r1 r2 r3
 rw [nW,List.nil_append] at r2
 exact ⟨u,W1,_,h1,r1,h9 _ _ _ (pb _ _ _),r2,fun i hi=>zK _ _ (by omega)⟩
theorem AP {rd:List HE} {v:AV} {e e2:HE} (hid:e2.id=e.id) (hty:e2.ty=e.ty) (hw:e2.w=e.w) (hfz:e.fz=false) (hfz2:e2.fz=false) (hd: ∀x∈rd,x.id≠e.id)
 (h: ∀(Y:eQ) (W:World) (β:Be) (a:Act),HR Y W β (TL ([e]++rd))→ER (eI Y β (TL ([e]++rd))) W β E a→tt (eI Y β (TL ([e]++rd))) W Gl→
  ∃u W1,vc P o a W u W1∧v= .c u∧((W1=W∧e2.ok (eI Y β (TL ([e]++rd))) W β)∨ ∃g bi cur cur' cs',β e.id=some bi∧bi.b=some g∧W.heap[g]? =some (.cells cur e.ty (0,0))∧cur'.size=cur.size∧
   W1.os=W.os∧W1.tape=W.tape∧W1.output=W.output∧W1.heap.size=W.heap.size∧W1.heap[g]? =some (.cells cur' e.ty (0,0))∧(∀b,b≠g→W1.heap[b]? =W.heap[b]?)∧
   CR (eI Y β (TL ([e]++rd))) W β e2.x cs'∧cs'.length=bi.n∧(cur'.toList.drop bi.o).take bi.n=cs')):Dp P Gl o E (TL ([e]++rd)) new v (TL ([e2]++rd)):=by
 intro Y W β a hH hE hG hf
 obtain ⟨u,W1,h1,h0,h2⟩:=h Y W β a hH hE hG
 have hdis: ∀x,TL [e] x→TL rd x→False:=fun x hx hr=>by
  have hx:x=e:=by simpa using hx
  subst hx;exact hd x hr rfl
 have eown:fI β (TL [e2])=fI β (TL [e]):=by
  funext g
  refine propext ⟨?_,?_⟩
  ·rintro ⟨x,hx,_,hg⟩
   have hx:x=e2:=by simpa using hx
   subst hx
   exact ⟨e,by simp,hfz,by rw [←hid];exact hg⟩
  ·rintro ⟨x,hx,_,hg⟩
   have hx:x=e:=by simpa using hx
   subst hx
   exact ⟨e2,by simp,hfz2,by rw [hid];exact hg⟩
 have hH0:HR Y W β (TU (TL [e]) (TL rd)):=by rw [nW];exact hH
 have hp0:=hH0.part hdis
 have eX:eI Y β (TL ([e]++rd))=eI (eI Y β (TL rd)) β (TL [e]):=by rw [←nW,o8]
 have key: ∀(ok2:e2.ok (eI (eI Y β (TL rd)) β (TL [e])) W1 β) (hc:qS W (fI β (TL [e])) β W1 (fI β (TL [e])) β),
  ∃u W' β',vc P o a W u W'∧HR Y W' β' (TL ([e2]++rd))∧VR (eI Y β' (TL ([e2]++rd))) W' β' v u∧qS W (fI β (TL ([e]++rd))) β W' (fI β' (TL ([e2]++rd))) β'∧(∀i,i<new∨new+16≤i→β' i=β i):=by
  intro ok2 hc
  have hx:HR (eI Y β (TL rd)) W1 β (TL [e2]):=by
   refine ⟨?_,?_,?_,fun g hg=>Nat.lt_of_lt_of_le (hp0.ylt g hg) hc.size⟩
   ·intro x hx
    have hx:x=e2:=by simpa using hx
    subst hx
    unfold eI at ok2 ⊢
    rw [eown];exact ok2
   ·intro x y hx hy hne
    have hx:x=e2:=by simpa using hx
    have hy:y=e2:=by simpa using hy
    exact absurd (hx.trans hy.symm) hne
   ·intro x hx _ g hg
    have hx:x=e2:=by simpa using hx
    subst hx
    rw [hid] at hg
    exact hp0.out e (by simp) hfz g hg
  have hc':qS W (fI β (TL [e])) β W1 (fI β (TL [e2])) β:=by rw [eown];exact hc
  obtain ⟨r1,r2,r3⟩:=hH0.join hdis hx hc'
  rw [nW] at r1 r2 r3
  rw [nW] at r2
  exact ⟨u,W1,β,h1,r1,by rw [h0];rfl,r2,fun _ _=>rfl⟩
 rcases h2 with ⟨rfl,k4⟩ | ⟨g,bi,cur,cur',cs',k1,k2,k3,k4,k5,k6,k7,k8,k9,k10,k11,k12,k13⟩
 ·exact key (by rw [←eX];exact k4) (qS.refl _ _ _)
 ·have hg:fI β (TL [e]) g:=⟨e,by simp,hfz,by unfold ik;rw [k1];exact k2⟩
  have hc:qS W (fI β (TL [e])) β W1 (fI β (TL [e])) β:=
   ⟨k5,k6,k7,by omega,fun b hb hn=>k10 b (fun e=>hn (by rw [e];exact hg)),fun _ _ h=>h,fun _ h=> .inl h⟩
  have hp:=hc.pers hp0.ylt
  refine key ?_ hc
  obtain ⟨bi',cs,j1,j2,j3,j4,j5,j6,j7⟩:=hp0.ok e (by simp)
  rw [k1] at j1;injection j1 with j1;subst j1
  rw [k2] at j7
  obtain ⟨cur2,q1,q2,q3,q4⟩:=j7
  rw [k3] at q1;injection q1 with q1;injection q1 with q1;subst q1
  refine ⟨bi,cs',by rw [hid];exact k1,CR.pers hp (by rw [←eX];exact k11),k12,j4,j5,by rw [hw];exact j6,?_⟩
  rw [k2]
  exact ⟨cur',by rw [hty];exact k9,by rw [k4];exact q2,k13,fun hh=>by rw [hfz2] at hh;cases hh⟩
end Go.Scr.A
namespace Go.Scr.A
variable {P:Program} {Gl:AE} {o:Oper} {E:AE} {H:List HE} {new:Nat}
def S7 (P:Program) (t:TypeId):Ek:=match P.underlying t with
 | some (.slice _)=> .o
 | _=>zI P 4 t
theorem oJ {W:World} {cs:List Value} {ty:TypeId}:(newRow ty cs.toArray).run P W= .ok ⟨W.heap.size,0,none⟩ {W with heap:=W.heap.push (.cells cs.toArray ty)}:=by
 simp [newRow,newObj,Sem.run]
def wC (P:Program) (new:Nat) (t:TypeId):Ao:=match yj P t with
 | some z=>bif Nat.ble z.length 1000000 then (match Do (S7 P t) (z.map cv) with
  | some x=> .v (.ptr new none z.length) [] [] [⟨new,false,t,z.length,x⟩]
  | none=> .bad) else .bad
 | none=> .bad
theorem DC {t:TypeId} (ho:o.op= .alloc t):(wC P new t).ok P Gl o E new:=by
 unfold wC
 split
 ·rename_i z hz
  cases hb:Nat.ble z.length 1000000 with
  | false=>trivial
  | true=>
   have hle:=Nat.le_of_ble_eq_true hb
   simp only [cond_true]
   split
   ·rename_i x hx
    refine qz rfl rfl fun Y W β a hH hE hG=> ?_
    obtain ⟨zv,e1,e2⟩:=um hz (W:=W)
    have e3:zv.cells=z.toArray:=by rw [←e2]
    refine ⟨_,_,z.toArray,z,z.length,.inl ?_,ru.of W z.toArray t,qt (zH z) hx,Nat.le_refl _,by simp [maxLen];omega,.inr ⟨rfl,rfl⟩,by simp,by simp,fun X' W' β' hb=>⟨W.heap.size,_,rfl,hb,rfl,by simp⟩⟩
    simp only [execOp,ho]
    refine gp ?_
    simp only [Instr.alloc,Sem.run_bind,e1,Result.andThen_ok,newVar,e3]
    rw [oJ]
    rfl
   ·trivial
 ·trivial
def Iq (P:Program) (Gl E:AE) (new:Nat) (t:TypeId) (x:Operand):Ao:=match pR Gl E x with
 | some (.agg c n)=>bif Nat.ble n 1000000 then .v (.ptr new none n) [] [] [⟨new,false,t,n,c⟩] else .bad
 | some v=>bif tv v then (match Do (S7 P t) [v] with
  | some c=> .v (.ptr new none 1) [] [] [⟨new,false,t,1,c⟩]
  | none=> .bad) else .bad
 | none=> .bad
theorem Ir {t:TypeId} {x:Operand} (ho:o.op= .box t x):(Iq P Gl E new t x).ok P Gl o E new:=by
 unfold Iq
 split
 ·rename_i c n hv
  cases hb:Nat.ble n 1000000 with
  | false=>trivial
  | true=>
   have hle:=Nat.le_of_ble_eq_true hb
   refine qz rfl rfl fun Y W β a hH hE hG=> ?_
   obtain ⟨cs,e1,e2,e3⟩:=d7 hE hG hv
   refine ⟨_,_,cs.toArray,cs,n,.inl ?_,ru.of W cs.toArray t,e2,by rw [e3];exact Nat.le_refl _,by simp [maxLen];omega,.inr ⟨e3,rfl⟩,by simp [e3],by simp,fun X' W' β' hb=>⟨W.heap.size,_,rfl,hb,rfl,by simp [e3]⟩⟩
   simp only [execOp,ho]
   refine gp ?_
   simp only [Instr.box,newVar,Sem.run_bind,e1,Value.cells,oJ,Result.andThen_ok]
   rfl
 ·rename_i v _ hv
  cases hb:tv v with
  | false=>trivial
  | true=>
   simp only [cond_true]
   split
   ·rename_i c hc
    refine qz rfl rfl fun Y W β a hH hE hG=> ?_
    have hv:=d7 hE hG hv
    have e1:=kG (pa hb hv)
    refine ⟨_,_,[a.eval x].toArray,[a.eval x],1,.inl ?_,ru.of W [a.eval x].toArray t,qt (.cons hv .nil) hc,Nat.le_refl _,by simp [maxLen],.inr ⟨rfl,rfl⟩,by simp,by simp,fun X' W' β' hb=>⟨W.heap.size,_,rfl,hb,rfl,by simp⟩⟩
    simp only [execOp,ho]
    refine gp ?_
    have e2:(a.eval x).cells=[a.eval x].toArray:=e1
    simp only [Instr.box,newVar,Sem.run_bind,e2,oJ,Result.andThen_ok]
    rfl
   ·trivial
 ·trivial
def Is (P:Program) (Gl E:AE) (H:List HE) (new:Nat) (t:TypeId) (len:Nat) (ps:List (Nat×Operand)):Ao:=match P.underlying t with
 | some (.slice e)=>match P.info? e with
  | some info=>bif Nat.beq info.size 1&&Nat.ble len 1000000 then (match yj P e,ul Gl E ps with
   | some [z],some l=>match AM (fun i=>some (i*info.size,info.size)) (List.replicate len (cv z)) l with
    | some cs=>bif Nat.beq cs.length len then sZ H (zI P 4 e) cs fun x rd=> .v (.own new none true) rd [] [⟨new,false,e,0,x⟩] else .bad
    | none=> .bad
   | _,_=> .bad) else .bad
  | none=> .bad
 | _=> .bad
theorem EQ {ek:Ek} {l:List AV} {k:Ct→List HE→Ao} (h: ∀x rd,(∀(Y:eQ) (W:World) (β:Be) (T:TS) (cs:List Value),HR Y W β T→(∀e∈rd,T e)→mE (eI Y β T) W β l cs→CR (eI Y β T) W β x cs)→(k x rd).ok P Gl o E new):(sZ H ek l k).ok P Gl o E new:=by
 unfold sZ
 cases RL ek with
 | true=>
  simp only [cond_true]
  split
  ·rename_i l' rd hl
   split
   ·rename_i x hx
    exact h x rd fun Y W β T cs hH hT hc=>qt (wA hc hl hH hT) hx
   ·trivial
  ·trivial
 | false=>
  simp only [cond_false]
  split
  ·rename_i x hx
   exact h x [] fun Y W β T cs hH hT hc=>qt hc hx
  ·trivial
theorem AQ {X:eQ} {W:World} {β:Be} {a:AV} {v:Value} (h:VR X W β a v): ∀n,mE X W β (List.replicate n a) (List.replicate n v)
 | 0=> .nil
 | n+1=> .cons h (AQ h n)
theorem DD (z:Value) (n:Nat):(Array.range n).map (#[z][·% #[z].size]!)=(List.replicate n z).toArray:=by
 apply Array.ext
 ·simp
 ·intro i h1 h2
  simp [Nat.mod_one]
theorem It {t:TypeId} {len:Nat} {ps:Array (Nat×Operand)} (ho:o.op= .buildSlice t len ps):(Is P Gl E H new t len ps.toList).ok P Gl o E new:=by
 unfold Is
 split
 ·rename_i e hu
  split
  ·rename_i info hi
   cases hb:Nat.beq info.size 1&&Nat.ble len 1000000 with
   | false=>trivial
   | true=>
    simp only [Bool.and_eq_true] at hb
    have hs:=Nat.eq_of_beq_eq_true hb.1
    have hle:=Nat.le_of_ble_eq_true hb.2
    simp only [cond_true]
    split
    ·rename_i z l hz hl
     split
     ·rename_i as has
      cases hlen:Nat.beq as.length len with
      | false=>trivial
      | true=>
       have hlen:=Nat.eq_of_beq_eq_true hlen
       simp only [cond_true]
       refine EQ fun x rd hx=>qz rfl rfl fun Y W β a hH hE hG=> ?_
       obtain ⟨zv,e1,e2⟩:=um hz (W:=W)
       have e2':zv.cells= #[z]:=by rw [←Array.toArray_toList (xs:=zv.cells),e2]
       obtain ⟨cs,e3,e4⟩:=EJ (qy hE hG hl) (AQ (Ex z) len) has
       have hl2:=e4.len
       refine ⟨_,_,cs.toArray,cs,len,.inl ?_,ru.of W cs.toArray e,hx Y W β _ cs hH (fun e he=>he) e4,by omega,by simp [maxLen];omega,.inl rfl,by simp;omega,by simp,fun X' W' β' hb=>⟨some ⟨W.heap.size,0,none⟩,len,_,by rw [hl2,hlen],hb,rfl,fun _=>(hl2.trans hlen).symm,fun _=>rfl⟩⟩
       simp only [execOp,ho]
       refine gp ?_
       have e5:(ps.map fun x=>match x with | (i,x)=>(i,a.eval x)).toList=ps.toList.map fun p=>(p.1,a.eval p.2):=by simp
       have nl:¬ 2^24<len:=by omega
       rw [hs,show ((fun i=>some (i*1,1)):Nat→Option (Nat×Nat))=fun i=>some (i,1) from funext fun i=>by rw [Nat.mul_one]] at e3
       by_cases h0:len=0
       ·subst h0
        simp [Instr.buildSlice,run_underlying hu,sizeOf,typeInfo,hi,hs]
        have e6:(Array.map (fun x=>(default:Value)) (Array.range 0))=(List.replicate 0 z).toArray:=by simp
        rw [e6,e3]
        simp [oJ]
       ·have hr:=DD z len
        simp [Instr.buildSlice,run_underlying hu,sizeOf,typeInfo,hi,hs,nl,h0,e1,e2'] at hr ⊢
        have e7:Array.replicate len z=(List.replicate len z).toArray:=by simp
        rw [hr,e7,e3]
        simp [oJ]
     ·trivial
    ·trivial
  ·trivial
 ·trivial
end Go.Scr.A
