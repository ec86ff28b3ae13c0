/- The abstract machine and what it says of the memory. -/
import Derived.Test.YtdemmfohkhpklaaGreatDoorXa3
import Derived.Recover
import Derived.OrdersHeld
set_option linter.unusedVariables false
set_option linter.unusedSimpArgs false
set_option linter.unnecessarySimpa false
namespace Go.Scr.A
def N8 (nm:Nat) (rv:AV) (H':List HE) (Y:eQ) (W0:World) (O0:eQ) (β0:Be):Value→World→Prop:=fun u W'=>
 ∃β',HR Y W' β' (TL H')∧VR (eI Y β' (TL H')) W' β' rv u∧qS W0 O0 DK W' (fI β' (TL H')) DK∧(∀i,i<nm→β' i=β0 i)∧ ∀i,nm+15≤i→β' i=none
def AC (P:Program) (Gl:AE) (f:FuncId) (nm:Nat) (args:List AV) (H:List HE) (rv:AV) (H':List HE):Prop:=
 ∀(Y:eQ) (W:World) (β:Be) (us:List Value),HR Y W β (TL H)→mE (eI Y β (TL H)) W β args us→tt (eI Y β (TL H)) W Gl→(∀i,nm≤i→β i=none)→
  Calls P f us.toArray W (NZ (N8 nm rv H' Y W (fI β (TL H)) β))
structure Cr (P:Program) (Gl:AE) (f:FuncId) (n nm:Nat) (rv:AV) (H':List HE) (df:Option FuncId:=none) where
 Y:eQ
 W0:World
 O0:eQ
 β0:Be
def Cr.cx {P:Program} {Gl:AE} {f:FuncId} {n nm:Nat} {rv:AV} {H':List HE} {df:Option FuncId} (Γ:Cr P Gl f n nm rv H' df):Cx:=⟨P,Gl,f,n,nm,Γ.Y,Γ.W0,Γ.O0,Γ.β0,NZ (N8 nm rv H' Γ.Y Γ.W0 Γ.O0 Γ.β0),df⟩
abbrev GC {P:Program} {Gl:AE} {f:FuncId} {n nm:Nat} {rv:AV} {H':List HE} {df:Option FuncId} (Γ:Cr P Gl f n nm rv H' df) (S:St):Prop:=G Γ.cx S
def mG (P:Program) (Gl:AE) (n:Nat) (S:St):nA:=ID P Gl n 4000 S
def nA.st:nA→St
 | .go S=>S
 | .need _ S=>S
 | .test _ _ S=>S
 | .call _ _ _ S=>S
 | .loop S=>S
 | .draw S=>S
 | .ret S=>S
 | .nq _ S _=>S
 | .defer _ S=>S
 | .bad=>⟨.it,[],[],[],0⟩
def nA.nb:nA→Option Bool
 | .need b _=>some b
 | _=>none
def nA.tb:nA→Option Bool
 | .test t _ S=>match tr S.E t with
  | some (.c (.bool b))=>some b
  | _=>none
 | _=>none
def nA.stT:nA→Bool→St
 | .test t _ S,v=> {S with E:=sJ S.E (some t) (.t v)}
 | _,_=>⟨.it,[],[],[],0⟩
def nA.isLoop:nA→Bool
 | .loop _=>true
 | _=>false
section
variable {P:Program} {Gl:AE} {f:FuncId} {n nm:Nat} {rv:AV} {H':List HE} {df:Option FuncId} {Γ:Cr P Gl f n nm rv H' df} {S:St}
theorem ot (h:E9 Γ.cx (mG P Gl n S)):GC Γ S:=A7 (Γ:=Γ.cx) h
theorem G.nd {b:Bool} (hb:b=true) (r:GC Γ (mG P Gl n S).st) (h:(mG P Gl n S).nb=some b:=by kernel_rfl):GC Γ S:=by
 refine ot ?_
 unfold nA.nb at h
 split at h
 ·rename_i b' S' hs
  injection h with h;subst h
  rw [hs] at r ⊢
  exact ⟨hb,r⟩
 ·cases h
theorem G.kn {b v:Bool} (hb:b=v) (r:GC Γ ((mG P Gl n S).stT v)) (h:(mG P Gl n S).tb=some b:=by kernel_rfl):GC Γ S:=by
 refine ot ?_
 unfold nA.tb at h
 split at h
 ·rename_i t b' S' hs
  rw [hs] at r ⊢
  split at h
  ·rename_i b2 hl
   injection h with h;subst h
   refine ⟨v,r,fun w hw=> ?_⟩
   rw [hl] at hw;injection hw with hw;injection hw with hw;injection hw with hw
   rw [←hw,hb]
  ·cases h
 ·cases h
def nA.nqn:nA→Option Nat
 | .nq n _ _=>some n
 | _=>none
def nA.st2:nA→St
 | .nq _ _ S=>S
 | _=>⟨.it,[],[],[],0⟩
theorem G.nq {m:Nat} (k1:m=0→GC Γ (mG P Gl n S).st) (k2:GC Γ (mG P Gl n S).st2) (h:(mG P Gl n S).nqn=some m:=by kernel_rfl):GC Γ S:=by
 refine ot ?_
 unfold nA.nqn at h
 split at h
 ·rename_i m' S1 S2 hs
  injection h with h;subst h
  rw [hs] at k1 k2 ⊢
  exact ⟨k1,k2⟩
 ·cases h
def Cr.put {P:Program} {Gl:AE} {f:FuncId} {n nm:Nat} {rv:AV} {H':List HE} (Γ:Cr P Gl f n nm rv H') (g:FuncId):Cr P Gl f n nm rv H' (some g):=⟨Γ.Y,Γ.W0,Γ.O0,Γ.β0⟩
def nA.dfn:nA→Option FuncId
 | .defer g _=>some g
 | _=>none
theorem G.dfr {Γ:Cr P Gl f n nm rv H'} {g:FuncId} (r:GC (Γ.put g) (mG P Gl n S).st) (h:(mG P Gl n S).dfn=some g:=by kernel_rfl):GC Γ S:=by
 refine ot ?_
 unfold nA.dfn at h
 split at h
 ·rename_i g' S' hs
  injection h with h;subst h
  rw [hs] at r ⊢
  exact ⟨rfl,r⟩
 ·cases h
theorem G.lp (r:GC Γ (mG P Gl n S).st) (h:(mG P Gl n S).isLoop=true:=by kernel_rfl):GC Γ S:=by
 refine ot ?_
 unfold nA.isLoop at h
 split at h
 ·rename_i S' hs
  rw [hs] at r ⊢
  exact r
 ·cases h
mutual
def mA (d:Nat):AV→AV→List (Nat×Nat)
 | .own i _ _,a=>bif ut a then [(i,d+i)] else match a with
  | .own id _ _=>[(i,id)]
  | _=>[]
 | .ptr i _ _,a=>match a with
  | .ptr id _ _=>[(i,id)]
  | _=>[]
 | .obj xt _ _,a=>match a with
  | .obj x _ _=>mC d xt x
  | _=>[]
 | .agg xt _,a=>match a with
  | .agg x _=>mC d xt x
  | _=>[]
 | .tup xt,a=>match a with
  | .tup x=>mC d xt x
  | _=>[]
 | .fn _ xt,a=>match a with
  | .fn _ x=>mC d xt x
  | _=>[]
 | _,_=>[]
def mC (d:Nat):Ct→Ct→List (Nat×Nat)
 | .cons t r,x=>match x with
  | .cons a s=>mA d t a++mC d r s
  | _=>[]
 | _,_=>[]
end
def wI:List AV→List Nat
 | []=>[]
 | .own id _ _::r=>id::wI r
 | _::r=>wI r
mutual
def vA (H:List HE):AV→AV→List Nat
 | .row _ _,a=>match a with
  | .own id _ _=>[id]
  | _=>[]
 | .obj xt _ _,a=>match a with
  | .ptr id _ _=>id::(match fd H id with
   | some e=>vC H xt e.x
   | none=>[])
  | .obj x _ _=>vC H xt x
  | _=>[]
 | .agg xt _,a=>match a with
  | .agg x _=>vC H xt x
  | _=>[]
 | .tup xt,a=>match a with
  | .tup x=>vC H xt x
  | _=>[]
 | .fn _ xt,a=>match a with
  | .fn _ x=>vC H xt x
  | _=>[]
 | _,_=>[]
def vC (H:List HE):Ct→Ct→List Nat
 | .cons t r,x=>match x with
  | .cons a s=>vA H t a++vC H r s
  | _=>[]
 | .R _ _,x=>match x.toL with
  | some l=>wI l
  | none=>[]
 | .T _ _,x=>match x.toL with
  | some l=>wI l
  | none=>[]
 | _,_=>[]
end
def LP:List (Nat×Nat)→Nat→Option Nat
 | [],_=>none
 | (s,v)::r,t=>bif Nat.beq s t then some v else LP r t
def wJ (H:List HE) (d:Nat):List AV→List AV→List (Nat×Nat)×List Nat
 | t::r,a::s=>match wJ H d r s with
  | (p,v)=>(mA d t a++p,vA H t a++v)
 | _,_=>([],[])
def ux (H:List HE) (d:Nat):List HE→List (Nat×Nat)×List Nat→List (Nat×Nat)×List Nat
 | [],q=>q
 | t::r,(p,v)=>match LP p t.id with
  | some id=>match fd H id with
   | some e=>ux H d r (p++mC d t.x e.x,v++vC H t.x e.x)
   | none=>ux H d r (p,v)
  | none=>ux H d r (p,v)
def kP (nm:Nat) (p:List (Nat×Nat)) (d:Nat) (i:Nat):Nat:=bif Nat.blt i nm then i else match LP p i with
 | some id=>id
 | none=>d+31
def wK (H:List HE) (d:Nat) (E:AE):AE→List (Nat×Option AV)
 | []=>[]
 | (t,x)::r=>(t,match tr E t with | some a=>some (pO H d x a) | none=>none)::wK H d E r
def wL (ρ:Nat→Nat):AE→List (Nat×Option AV)
 | []=>[]
 | (t,x)::r=>(t,some (x.ren ρ))::wL ρ r
def rz (E:AE):AE→List AV
 | []=>[]
 | (t,_)::r=>(match tr E t with | some a=>a | none=> .c undef)::rz E r
theorem vu {Y:eQ} {W:World} {β:Be} {H:List HE} {d:Nat} {ρ:Nat→Nat} {a:Act} (hH:HR Y W β (TL H)) (hd: ∀i,i<16→β (d+i)=some ⟨none,0,0,0⟩) {E:AE} (hE:ER (eI Y β (TL H)) W β E a): ∀ {E2:AE},wK H d E E2=wL ρ E2→ER (eI Y β (TL H)) W (fun i=>β (ρ i)) E2 a
 | [],_=>fun p hp=>by cases hp
 | (t,x)::r,h=>by
  unfold wK wL at h
  injection h with h1 h2
  injection h1 with _ h1
  intro p hp
  rcases List.mem_cons.1 hp with rfl | hp
  ·split at h1
   ·rename_i v hv
    injection h1 with h1
    obtain ⟨u,k1,k2⟩:=hE _ (mj hv)
    refine ⟨u,k1,?_⟩
    have:=tJ hH hd x k2
    rw [h1] at this
    exact VR.ren.1 this
   ·cases h1
  ·exact vu hH hd hE h2 p hp
def ph (H:List HE) (d:Nat) (fH:List HE) (ts as:List AV):List (Nat×Nat)×List Nat:=ux H d fH (wJ H d ts as)
def s6 (nm:Nat) (H:List HE) (d:Nat) (fH:List HE) (ts as:List AV):List (Nat×Nat)×List Nat:=ux H d fH ((wJ H d ts as).1++(fH.filter fun t=>Nat.blt t.id nm).map (fun t=>(t.id,t.id)),(wJ H d ts as).2)
def jh (H:List HE) (q:List (Nat×Nat)×List Nat) (ρ:Nat→Nat) (fH:List HE):List HE:=oq (oj H q.2) ρ fH++oj H q.2
def uy (H:List HE) (d:Nat) (ρ:Nat→Nat) (fH:List HE):Bool:=
 oI (fH.map fun t=>ρ t.id)&&(fH.all fun t=>(fd H (ρ t.id)).isSome)
def N9 (d:Nat) (l:List HE):Bool:=l.all fun e=>Nat.ble d e.id&&Nat.blt e.id (d+16)
theorem Fg {d:Nat} {l:List HE} (h:N9 d l=true): ∀e∈l,d≤e.id∧e.id<d+16:=fun e he=>by
 have:=List.all_eq_true.1 h e he
 rw [Bool.and_eq_true] at this
 exact ⟨Nat.le_of_ble_eq_true this.1,Nat.le_of_ble_eq_true this.2⟩
theorem ready {Y:eQ} {W:World} {β:Be} {H:List HE} {d:Nat} {q:List (Nat×Nat)×List Nat} {ρ:Nat→Nat} {fH:List HE} (h:HR Y W β (TL H)) (hd: ∀i,d≤i→i<d+16→β i=none) (hb:N9 d (oq (oj H q.2) ρ fH)=true):
 HR Y W (mi β d) (TL (jh H q ρ fH))∧lH (eI Y β (TL H)) W β (eI Y (mi β d) (TL (jh H q ρ fH))) W (mi β d)∧ ∀i,i<16→mi β d (d+i)=some ⟨none,0,0,0⟩:=by
 obtain ⟨h1,p1⟩:=h.frzA (V:=q.2)
 obtain ⟨h2,p2⟩:=h1.ex hd
 obtain ⟨h3,e3⟩:=h2.blank (B:=oq (oj H q.2) ρ fH) fun e he=>by
  obtain ⟨k1,k2,k3⟩:=qU he
  obtain ⟨k4,k5⟩:=Fg hb e he
  refine ⟨k1,k2,k3,?_⟩
  have:=Fe β d (i:=e.id-d) (by omega)
  rwa [show d+(e.id-d)=e.id by omega] at this
 refine ⟨h3,⟨fun b hb hx=>⟨rfl,?_⟩,p2.be⟩,fun i hi=>Fe β d hi⟩
 rw [show eI Y (mi β d) (TL (jh H q ρ fH))=_ from e3]
 exact (p2.blk b hb (p1.blk b hb hx).2).2
def Fh:Md→Bool
 | .it=>true
 | _=>false
def IE (p:List (Nat×Nat)) (m:Nat):Bool:=p.all fun q=>Nat.blt q.1 m
theorem A8: ∀ {p:List (Nat×Nat)} {i v:Nat},LP p i=some v→(i,v)∈p
 | [],_,_,h=>by cases h
 | (s,u)::r,t,v,h=>by
  unfold LP at h
  cases hb:Nat.beq s t with
  | true=>
   rw [hb] at h
   simp only [cond_true,Option.some.injEq] at h
   have:=Nat.eq_of_beq_eq_true hb
   subst this;subst h
   exact List.mem_cons_self
  | false=>rw [hb] at h;exact List.mem_cons_of_mem _ (A8 h)
theorem rA {nm m d:Nat} {p:List (Nat×Nat)} {β:Be} (hd:β (d+31)=none) (hp:IE p m=true) (hm:nm≤m) {i:Nat} (hi:m≤i):mi β d (kP nm p d i)=none:=by
 have h1:Nat.blt i nm=false:=by
  cases hq:Nat.blt i nm with
  | false=>rfl
  | true=>have:i<nm:=Nat.le_of_ble_eq_true hq;omega
 have h2:LP p i=none:=by
  cases hq:LP p i with
  | none=>rfl
  | some v=>
   have:=List.all_eq_true.1 hp _ (A8 hq)
   have:i<m:=Nat.le_of_ble_eq_true this
   omega
 unfold kP
 rw [h1,cond_false,h2]
 show mi β d (d+31)=none
 unfold mi
 rw [if_neg (by omega)]
 exact hd
theorem Fi {nm d:Nat} {p:List (Nat×Nat)} {β:Be} (hd:nm≤d) {i:Nat} (hi:i<nm):mi β d (kP nm p d i)=β i:=by
 have h1:Nat.blt i nm=true:=by rw [Nat.blt_eq];exact hi
 unfold kP
 rw [h1,cond_true]
 unfold mi
 rw [if_neg (by omega)]
def Fj (nm:Nat) (S2 S':St):Bool:=
 let q:=s6 nm S'.H S'.nx S2.H (S2.E.map (·.2)) (rz S'.E S2.E)
 let ρ:=kP nm q.1 S'.nx
 Fh S'.m&&(Fh S2.m&&(IE q.1 S2.nx&&(Nat.ble nm S2.nx&&(N9 S'.nx (oq (oj S'.H q.2) ρ S2.H)&&uy (jh S'.H q ρ S2.H) S'.nx ρ S2.H))))
def Fk (nm:Nat) (S2 S':St):List Item×List (Nat×Option AV)×List HE:=
 let q:=s6 nm S'.H S'.nx S2.H (S2.E.map (·.2)) (rz S'.E S2.E)
 let ρ:=kP nm q.1 S'.nx
 (S'.k,wK (jh S'.H q ρ S2.H) S'.nx S'.E S2.E,S2.H.map (DO (jh S'.H q ρ S2.H) S'.nx ρ))
def Fm (nm:Nat) (S2 S':St):List Item×List (Nat×Option AV)×List HE:=
 let q:=s6 nm S'.H S'.nx S2.H (S2.E.map (·.2)) (rz S'.E S2.E)
 let ρ:=kP nm q.1 S'.nx
 (S2.k,wL ρ S2.E,S2.H.map (HE.ren ρ))
theorem G.at_ {S2:St} (r:GC Γ S2) (h1:Fj nm S2 S=true:=by kernel_rfl) (h2:Fk nm S2 S=Fm nm S2 S:=by kernel_rfl):GC Γ S:=by
 unfold Fj at h1
 simp only [Bool.and_eq_true] at h1
 obtain ⟨c1,c2,c3,c4,c5,c6⟩:=h1
 unfold Fk Fm at h2
 injection h2 with e1 h2
 injection h2 with e2 e3
 unfold uy at c6
 rw [Bool.and_eq_true] at c6
 obtain ⟨c6,c7⟩:=c6
 obtain ⟨m,k,E,H,nx⟩:=S
 obtain ⟨m2,k2,E2,H2,nx2⟩:=S2
 cases m with
 | rg ops is=>cases c1
 | op ops i is o r=>cases c1
 | it=>
  cases m2 with
  | rg ops is=>cases c2
  | op ops i is o r=>cases c2
  | it=>
   simp only at e1 e2 e3 c3 c4 c5 c6 c7
   subst e1
   refine ⟨fun W β a hI=> ?_⟩
   generalize s6 nm H nx H2 (E2.map (·.2)) (rz E E2)=q at*
   obtain ⟨h3,p3,hd⟩:=ready (q:=q) (ρ:=kP nm q.1 nx) (fH:=H2) hI.hr (fun i h1 _=>hI.nx i h1) c5
   obtain ⟨h4,p4⟩:=ry (ρ:=kP nm q.1 nx) (fH:=H2) h3 hd e3 c7 c6 false
   simp only [cond_false,List.append_nil] at h4 p4
   have hle:=hI.le
   have inj: ∀t t',t∈H2→t'∈H2→t≠t'→kP nm q.1 nx t.id≠kP nm q.1 nx t'.id:=jR c6
   have h5:=(HR.ren inj).1 h4
   have eX:eI Γ.Y (mi β nx) (TL (H2.map (HE.ren (kP nm q.1 nx))))=eI Γ.Y (fun i=>mi β nx (kP nm q.1 nx i)) (TL H2):=by unfold eI;rw [li]
   have hE:=vu h3 hd (hI.er.pers p3) e2
   have pp:lH (eI Γ.Y (mi β nx) (TL (jh H q (kP nm q.1 nx) H2))) W (fun i=>mi β nx (kP nm q.1 nx i)) (eI Γ.Y (fun i=>mi β nx (kP nm q.1 nx i)) (TL H2)) W (fun i=>mi β nx (kP nm q.1 nx i)):=⟨fun b hb hx=>⟨rfl,by rw [←eX];exact (p4.blk b hb hx).2⟩,fun _ _ h=>h⟩
   refine r.o W (fun i=>mi β nx (kP nm q.1 nx i)) a ⟨h5,hE.pers pp,(hI.gl.pers p3.blk).pers pp.blk,hI.size,hI.defs,Nat.le_of_ble_eq_true c4,fun i hi=>rA (hI.nx _ (Nat.le_add_right _ _)) c3 (Nat.le_of_ble_eq_true c4) hi,?_,fun i hi=> ?_⟩
   ·have hc:=hI.ext
    refine ⟨hc.os,hc.tape,hc.output,hc.size,hc.blk,hc.be,fun g hg=>hc.own g ?_⟩
    rw [←li] at hg
    have:¬ ¬eI Γ.Y β (TL H) g:=fun hn=>by
     have hlt:g<W.heap.size:=by
      obtain ⟨e,k1,k2,k3⟩:=hg
      exact HE.lt (h4.ok e k1) k3
     have h1:=(p4.blk g hlt (p3.blk g hlt hn).2).2
     exact h1 (.inr hg)
    rcases Classical.not_not.1 this with hy | ho
    ·obtain ⟨e,k1,k2,k3⟩:=hg
     exact absurd hy (h4.out e k1 k2 g k3)
    ·exact ho
   ·have:=Fi (p:=q.1) (β:=β) hle hi
    exact this.trans (hI.keep i hi)
end
end Go.Scr.A
namespace Go.Scr.A
section
variable {P:Program} {Gl:AE} {f:FuncId} {n nm:Nat} {rv:AV} {H':List HE} {df:Option FuncId} {Γ:Cr P Gl f n nm rv H' df} {S:St}
def qc (P:Program) (E:AE) (H:List HE):ResultVar→Option AV
 | .tmp t=>tr E t
 | .cell a t=>bif (P.underlying t).isSome then match tr E a with
  | some v=>match vo H v with
   | some (c,off,ext,w,_)=>H5 P t c off ext w
   | none=>none
  | none=>none
  else none
def Fo (P:Program) (E:AE) (H:List HE):List ResultVar→Option AV
 | []=>some (.tup .nil)
 | [r]=>qc P E H r
 | [r,s]=>match qc P E H r,qc P E H s with
  | some a,some b=>some (.tup (.cons a (.cons b .nil)))
  | _,_=>none
 | [r,s,t]=>match qc P E H r,qc P E H s,qc P E H t with
  | some a,some b,some c=>some (.tup (.cons a (.cons b (.cons c .nil))))
  | _,_,_=>none
 | _=>none
def wM (tmps:Array Value):ResultVar→Sem Value
 | .tmp t=>pure (tmps.getD t undef)
 | .cell a t=>do loadVar t (←asAddr (tmps.getD a undef))
theorem nB {Y:eQ} {W:World} {β:Be} {H:List HE} {E:AE} {a:Act} (hH:HR Y W β (TL H)) (hE:ER (eI Y β (TL H)) W β E a) {r:ResultVar} {v:AV} (h:qc P E H r=some v): ∃u,(wM a.tmps r).run P W= .ok u W∧VR (eI Y β (TL H)) W β v u:=by
 cases r with
 | tmp t=>
  obtain ⟨u,h1,h2⟩:=hE _ (mj h)
  exact ⟨u,by simp at h1;simp [wM,h1],h2⟩
 | cell t ty=>
  unfold qc at h
  simp only at h
  cases hu:(P.underlying ty).isSome with
  | false=>rw [hu] at h;cases h
  | true=>
   rw [hu,cond_true] at h
   split at h
   ·rename_i x hx
    split at h
    ·rename_i c off ext w rd hp
     obtain ⟨u,h1,h2⟩:=hE _ (mj hx)
     obtain ⟨g,o',cs,k1,k2,k3,k4,k5⟩:=yb hp hH (fun e he=>(gn (ym hp e he)).1) h2
     obtain ⟨v',j1,j2⟩:=yc hu h k2 k3 k4 k5
     subst k1
     refine ⟨v',?_,j2⟩
     have e:a.tmps.getD t undef= .pointer (some ⟨g,o'+off.getD 0,none⟩):=by simp at h1;simp [h1]
     simp [wM,e,asAddr,j1]
    ·cases h
   ·cases h
theorem IF {Y:eQ} {W:World} {β:Be} {H:List HE} {E:AE} {a:Act} {fn:Func} (hH:HR Y W β (TL H)) (hE:ER (eI Y β (TL H)) W β E a) {v:AV} (h:Fo P E H fn.results.toList=some v): ∃u,(results fn a.tmps).run P W= .ok u W∧VR (eI Y β (TL H)) W β v u:=by
 have hr: ∀l,fn.results.toList=l→fn.results=l.toArray:=fun l h=>by rw [←h]
 have key:results fn a.tmps=(do let vs ←fn.results.mapM (wM a.tmps);pure (if h:vs.size=1 then vs[0] else .tuple vs)):=by
  unfold results
  congr 2
 generalize hl:fn.results.toList=l at h
 have hr:=hr l hl
 unfold Fo at h
 split at h
 ·injection h with h;subst h
  exact ⟨.tuple #[],results_none hr a.tmps P W,[],rfl,rfl⟩
 ·rename_i r
  obtain ⟨u,h1,h2⟩:=nB hH hE h
  refine ⟨u,?_,h2⟩
  rw [key,hr];simp [h1]
 ·rename_i r s
  split at h
  ·rename_i x y hx hy
   injection h with h;subst h
   obtain ⟨u,h1,h2⟩:=nB hH hE hx
   obtain ⟨w,h3,h4⟩:=nB hH hE hy
   refine ⟨.tuple #[u,w],?_,[u,w],rfl,_,_,rfl,h2,_,_,rfl,h4,rfl⟩
   rw [key,hr];simp [h1,h3]
  ·cases h
 ·rename_i r s t
  split at h
  ·rename_i x y z hx hy hz
   injection h with h;subst h
   obtain ⟨u,h1,h2⟩:=nB hH hE hx
   obtain ⟨w,h3,h4⟩:=nB hH hE hy
   obtain ⟨q,h5,h6⟩:=nB hH hE hz
   refine ⟨.tuple #[u,w,q],?_,[u,w,q],rfl,_,_,rfl,h2,_,_,rfl,h4,_,_,rfl,h6,rfl⟩
   rw [key,hr];simp [h1,h3,h5]
  ·cases h
 ·cases h
def zO:List Item→Bool
 | []=>true
 | .code .ret::_=>true
 | _=>false
theorem yp {k:List Item} (h:zO k=true):k=[]∨ ∃r,k= .code .ret::r:=by
 unfold zO at h
 split at h
 ·exact .inl rfl
 ·exact .inr ⟨_,rfl⟩
 ·cases h
def A9 (P:Program) (nm:Nat) (fn:Func) (rv:AV) (H':List HE) (S':St):Bool:=match Fo P S'.E S'.H fn.results.toList with
 | some v=>
  let q:=s6 nm S'.H S'.nx H' [rv] [v]
  let ρ:=kP nm q.1 S'.nx
  Fh S'.m&&(zO S'.k&&(IE q.1 (nm+15)&&(N9 S'.nx (oq (oj S'.H q.2) ρ H')&&uy (jh S'.H q ρ H') S'.nx ρ H')))
 | none=>false
def Ba (P:Program) (nm:Nat) (fn:Func) (rv:AV) (H':List HE) (S':St):AV×List HE:=match Fo P S'.E S'.H fn.results.toList with
 | some v=>
  let q:=s6 nm S'.H S'.nx H' [rv] [v]
  let ρ:=kP nm q.1 S'.nx
  (pO (jh S'.H q ρ H') S'.nx rv v,H'.map (DO (jh S'.H q ρ H') S'.nx ρ))
 | none=>(rv,[])
def Bb (P:Program) (nm:Nat) (fn:Func) (rv:AV) (H':List HE) (S':St):AV×List HE:=match Fo P S'.E S'.H fn.results.toList with
 | some v=>
  let q:=s6 nm S'.H S'.nx H' [rv] [v]
  let ρ:=kP nm q.1 S'.nx
  (rv.ren ρ,H'.map (HE.ren ρ))
 | none=>(rv,[])
def nA.isRet:nA→Bool
 | .ret _=>true
 | _=>false
theorem S8.drop {W0:World} {O0:eQ} {Y:eQ} {W:World} {β:Be} {β':Be} {T T':TS} (hc:qS W0 O0 DK W (fI β T) DK) (hT':HR Y W β' T') (hp: ∀g,g<W.heap.size→¬ eI Y β T g→¬ eI Y β' T' g):qS W0 O0 DK W (fI β' T') DK:=by
 refine ⟨hc.os,hc.tape,hc.output,hc.size,hc.blk,hc.be,fun g hg=>hc.own g ?_⟩
 obtain ⟨e,k1,k2,k3⟩:=hg
 have hlt:g<W.heap.size:=HE.lt (hT'.ok e k1) k3
 have:eI Y β T g:=Classical.byContradiction fun hn=>hp g hlt hn (.inr ⟨e,k1,k2,k3⟩)
 rcases this with hy | ho
 ·exact absurd hy (hT'.out e k1 k2 g k3)
 ·exact ho
def LQ (P:Program):Option FuncId→Prop
 | none=>True
 | some g=>(∀(x y:Value) (w:World),(invoke (.fn (.func g) #[]) #[x,y]).run P w= .ok (.enter g #[x,y]) w)∧ ∀(x y:Value) (w:World),CallsD P g #[x,y] .returning w (fun e u' w'=> ∃z,e= .returned z∧u'= .returning∧w'=w)
theorem Oa {P:Program} {R:Ending→World→Prop} {f:FuncId} {k:List Item} {a:Act} {w:World} {fn:Func} {v:Value} {df:Option FuncId} (hf:P.funcs[f]? =some fn) (hk:k=[]∨ ∃r,k= .code .ret::r) (hd:Sa df a.defers) (ho:LQ P df) (hr:(results fn a.tmps).run P w= .ok v w) (hR:R (.returned v) w):qr P R f k a w:=by
 cases df with
 | none=>exact qr.ends hf hk hd hr hR
 | some g=>
  obtain ⟨x,y,hd⟩:=hd
  obtain ⟨hi,hD⟩:=ho
  intro b cs hb hkd
  have hL:Leaves P fn a.tmps R [⟨.fn (.func g) #[],#[x,y]⟩] .returning w:=by
   refine leaves_cons (by intro e;cases e) (hi x y w) ((hD x y w).mono ?_)
   rintro e u' w' ⟨z,rfl,rfl,rfl⟩
   exact ⟨_,hr,hR⟩
  obtain ⟨e,w2,fr,h1,h2,h3,h4⟩:=leaves_steps (P:=P) (fn:=fn) (tmps:=a.tmps) (R:=R) [⟨.fn (.func g) #[],#[x,y]⟩] .returning w {b.at a k with mode:= .returning} cs rfl hd rfl (by rw [show ({b.at a k with mode:= .returning}:Frame).fn=f from hb];exact hf) hkd hL
  refine ⟨e,w2,fr,h1,Comes.of_steps (.one ?_) h2,h3.trans hb,h4⟩
  rcases hk with rfl | ⟨r,rfl⟩
  ·exact step_end
  ·exact step_ret
theorem G.rt {fn:Func} (ho:LQ P df) (hf:P.funcs[f]? =some fn) (h0:(mG P Gl n S).isRet=true:=by kernel_rfl) (h1:A9 P nm fn rv H' (mG P Gl n S).st=true:=by kernel_rfl) (h2:Ba P nm fn rv H' (mG P Gl n S).st=Bb P nm fn rv H' (mG P Gl n S).st:=by kernel_rfl):GC Γ S:=by
 refine ot ?_
 unfold nA.isRet at h0
 split at h0
 ·rename_i S' hs
  rw [hs] at h1 h2 ⊢
  simp only [nA.st] at h1 h2
  unfold A9 at h1
  unfold Ba Bb at h2
  split at h1
  ·rename_i v hv
   rw [hv] at h2
   simp only [Bool.and_eq_true] at h1
   obtain ⟨c1,c2,c3,c5,c6⟩:=h1
   injection h2 with e2 e3
   unfold uy at c6
   rw [Bool.and_eq_true] at c6
   obtain ⟨c6,c7⟩:=c6
   obtain ⟨m,k,E,H,nx⟩:=S'
   cases m with
   | rg ops is=>cases c1
   | op ops i is o r=>cases c1
   | it=>
    simp only at e2 e3 c2 c3 c5 c6 c7 hv
    refine ⟨fun W β a hI=> ?_⟩
    generalize s6 nm H nx H' [rv] [v]=q at*
    obtain ⟨u,u1,u2⟩:=IF (fn:=fn) hI.hr hI.er hv
    obtain ⟨h3,p3,hd⟩:=ready (q:=q) (ρ:=kP nm q.1 nx) (fH:=H') hI.hr (fun i h1 _=>hI.nx i h1) c5
    obtain ⟨h4,p4⟩:=ry (ρ:=kP nm q.1 nx) (fH:=H') h3 hd e3 c7 c6 false
    simp only [cond_false,List.append_nil] at h4 p4
    have inj: ∀t t',t∈H'→t'∈H'→t≠t'→kP nm q.1 nx t.id≠kP nm q.1 nx t'.id:=jR c6
    have h5:=(HR.ren inj).1 h4
    have eX:eI Γ.cx.Y (mi β nx) (TL (H'.map (HE.ren (kP nm q.1 nx))))=eI Γ.cx.Y (fun i=>mi β nx (kP nm q.1 nx i)) (TL H'):=by unfold eI;rw [li]
    have hv2:=tJ h3 hd rv (u2.pers p3)
    rw [e2] at hv2
    refine Oa hf (yp c2) hI.defs ho u1 ⟨u,rfl,fun i=>mi β nx (kP nm q.1 nx i),h5,VR.ren.1 (by
     have:=hv2.pers p4
     rwa [eX] at this),?_,fun i hi=>(Fi hI.le hi).trans (hI.keep i hi),fun i hi=>rA (hI.nx _ (Nat.le_add_right _ _)) c3 (Nat.le_add_right _ _) hi⟩
    refine S8.drop hI.ext h5 fun g hlt hn=> ?_
    have h6:=(p4.blk g hlt (p3.blk g hlt hn).2).2
    rwa [eX] at h6
  ·cases h1
 ·cases h0
def tK (H:List HE) (d:Nat):List AV→List AV→List (Option AV)
 | [],[]=>[]
 | t::r,a::s=>some (pO H d t a)::tK H d r s
 | _,_=>[none]
def tL (ρ:Nat→Nat):List AV→List (Option AV)
 | []=>[]
 | t::r=>some (t.ren ρ)::tL ρ r
theorem qV {Y:eQ} {W:World} {β:Be} {H:List HE} {d:Nat} {ρ:Nat→Nat} (hH:HR Y W β (TL H)) (hd: ∀i,i<16→β (d+i)=some ⟨none,0,0,0⟩): ∀ {ts as:List AV} {us:List Value},mE (eI Y β (TL H)) W β as us→tK H d ts as=tL ρ ts→mE (eI Y β (TL H)) W (fun i=>β (ρ i)) ts us
 | [],[],us,h,_=>by cases h;exact .nil
 | [],a::s,us,h,e=>by cases e
 | t::r,[],us,h,e=>by cases e
 | t::r,a::s,us,h,e=>by
  cases h with
  | cons h1 h2=>
   unfold tK tL at e
   injection e with e1 e2
   injection e1 with e1
   have:=tJ hH hd t h1
   rw [e1] at this
   exact .cons (VR.ren.1 this) (qV hH hd h2 e2)
def nA.cg:nA→Option (FuncId×List AV×Option Nat)
 | .call g as d _=>some (g,as,d)
 | _=>none
def m7 (mg:Nat) (ρ:Nat→Nat) (d:Nat) (i:Nat):Nat:=bif Nat.blt i mg then ρ i else bif Nat.blt (i-mg) 15 then d+16+(i-mg) else d+31
def Sb:Md→Bool
 | .rg _ _=>true
 | _=>false
def DP (mg:Nat) (fa:List AV) (fH fH':List HE) (as:List AV) (H:List HE) (d:Nat):List HE:=
 let q:=ph H d fH fa as
 let ρ:=kP 0 q.1 d
 fH'.map (HE.ren (m7 mg ρ d))++lI (fH.map fun t=>ρ t.id) (jh H q ρ fH)
def yq (mg:Nat) (fa:List AV) (fH:List HE) (rv:AV) (as:List AV) (H:List HE) (d:Nat):AV:=
 let q:=ph H d fH fa as
 let ρ:=kP 0 q.1 d
 rv.ren (m7 mg ρ d)
def DQ (mg:Nat) (fa:List AV) (fH fH':List HE) (as:List AV) (H:List HE) (d:Nat):Bool:=
 let q:=ph H d fH fa as
 let ρ:=kP 0 q.1 d
 IE q.1 mg&&((List.range mg).all (fun i=>Nat.blt (ρ i) (d+16) ||Nat.ble (d+32) (ρ i))&&(N9 d (oq (oj H q.2) ρ fH)&&(uy (jh H q ρ fH) d ρ fH&&oI (fH'.map fun t=>m7 mg ρ d t.id))))
def DS (fa:List AV) (fH:List HE) (as:List AV) (H:List HE) (d:Nat):List (Option AV)×List HE:=
 let q:=ph H d fH fa as
 let ρ:=kP 0 q.1 d
 (tK (jh H q ρ fH) d fa as,fH.map (DO (jh H q ρ fH) d ρ))
def DU (fa:List AV) (fH:List HE) (as:List AV) (H:List HE) (d:Nat):List (Option AV)×List HE:=
 let q:=ph H d fH fa as
 let ρ:=kP 0 q.1 d
 (tL ρ fa,fH.map (HE.ren ρ))
theorem Bc {Y:eQ} {W:World} {β:Be} {H:List HE} {d g mg:Nat} {fa as:List AV} {fH fH':List HE} {rv:AV} {us:List Value} (hc:AC P Gl g mg fa fH rv fH') (hH:HR Y W β (TL H)) (hA:mE (eI Y β (TL H)) W β as us) (hG:tt (eI Y β (TL H)) W Gl) (hd: ∀i,d≤i→i<d+32→β i=none)
 (h1:DQ mg fa fH fH' as H d=true) (h2:DS fa fH as H d=DU fa fH as H d):
 Calls P g us.toArray W (NZ fun u W'=> ∃β',HR Y W' β' (TL (DP mg fa fH fH' as H d))∧VR (eI Y β' (TL (DP mg fa fH fH' as H d))) W' β' (yq mg fa fH rv as H d) u∧qS W (fI β (TL H)) β W' (fI β' (TL (DP mg fa fH fH' as H d))) β'∧ ∀i,i<d∨d+32≤i→β' i=β i):=by
 unfold DQ at h1
 unfold DS DU at h2
 unfold DP yq
 simp only [Bool.and_eq_true] at h1
 obtain ⟨c2,c3,c4,c5,c6⟩:=h1
 injection h2 with e1 e2
 unfold uy at c5
 rw [Bool.and_eq_true] at c5
 obtain ⟨c5,c8⟩:=c5
 simp only
 generalize ph H d fH fa as=q at*
 generalize hρ:kP 0 q.1 d=ρ at*
 have hd16: ∀i,d≤i→i<d+16→β i=none:=fun i h1 h2=>hd i h1 (by omega)
 obtain ⟨h3,p3,hx⟩:=ready (q:=q) (ρ:=ρ) (fH:=fH) hH hd16 c4
 obtain ⟨h4,p4⟩:=ry (ρ:=ρ) (fH:=fH) h3 hx e2 c8 c5 true
 simp only [cond_true] at h4 p4
 have inj: ∀t t',t∈fH→t'∈fH→t≠t'→ρ t.id≠ρ t'.id:=jR c5
 have inj': ∀t t',t∈fH'→t'∈fH'→t≠t'→m7 mg ρ d t.id≠m7 mg ρ d t'.id:=jR c6
 rw [←nW] at h4 p4
 have hdis: ∀x,TL (fH.map (HE.ren ρ)) x→TL (lI (fH.map fun t=>ρ t.id) (jh H q ρ fH)) x→False:=fun x hx hr=>by
  obtain ⟨t,k1,rfl⟩:=List.mem_map.1 hx
  exact (uw.1 hr).2 (List.mem_map.2 ⟨t,k1,rfl⟩)
 have h5:=h4.part hdis
 have h6:=(HR.ren inj).1 h5
 have eX1:eI Y (mi β d) (TU (TL (fH.map (HE.ren ρ))) (TL (lI (fH.map fun t=>ρ t.id) (jh H q ρ fH))))=eI (eI Y (mi β d) (TL (lI (fH.map fun t=>ρ t.id) (jh H q ρ fH)))) (fun i=>mi β d (ρ i)) (TL fH):=by
  rw [o8];unfold eI;rw [li]
 have hargs:=qV h3 hx (hA.pers p3) e1
 have hargs2:mE (eI (eI Y (mi β d) (TL (lI (fH.map fun t=>ρ t.id) (jh H q ρ fH)))) (fun i=>mi β d (ρ i)) (TL fH)) W (fun i=>mi β d (ρ i)) fa us:=by
  refine hargs.pers ⟨fun b hb hx=>⟨rfl,?_⟩,fun _ _ h=>h⟩
  rw [←eX1];exact (p4.blk b hb hx).2
 have hgl:=(hG.pers p3.blk).pers p4.blk
 rw [eX1] at hgl
 have hcall:=hc _ W (fun i=>mi β d (ρ i)) us h6 hargs2 hgl (fun i hi=>by rw [←hρ];exact rA (hd _ (by omega) (by omega)) c2 (Nat.zero_le _) hi)
 refine Calls.mono hcall ?_
 rintro e W' ⟨u,rfl,β2,j1,j2,j3,j4,j5⟩
 refine ⟨u,rfl,?_⟩
 let β':Be:=fun j=>if d+16≤j∧j<d+32 then β2 (mg+(j-(d+16))) else mi β d j
 have b1: ∀j,¬(d+16≤j∧j<d+32)→β' j=mi β d j:=fun j hj=>if_neg hj
 have b2:(fun i=>β' (m7 mg ρ d i))=β2:=by
  funext i
  unfold m7
  cases hi:Nat.blt i mg with
  | true=>
   have hi':i<mg:=Nat.le_of_ble_eq_true hi
   have:=List.all_eq_true.1 c3 i (List.mem_range.2 hi')
   rw [Bool.or_eq_true] at this
   have:ρ i<d+16∨d+32≤ρ i:=this.imp Nat.le_of_ble_eq_true Nat.le_of_ble_eq_true
   simp only [cond_true]
   rw [b1 _ (by omega),j4 i hi']
  | false=>
   have hi':¬ i<mg:=fun h=>by rw [show Nat.blt i mg=true from by rw [Nat.blt_eq];exact h] at hi;cases hi
   simp only [cond_false]
   cases h15:Nat.blt (i-mg) 15 with
   | true=>
    have h15:i-mg<15:=Nat.le_of_ble_eq_true h15
    simp only [cond_true]
    show (if d+16≤d+16+(i-mg)∧d+16+(i-mg)<d+32 then _ else _)=_
    rw [if_pos (by omega)]
    congr 1;omega
   | false=>
    have h15:¬ i-mg<15:=fun h=>by rw [show Nat.blt (i-mg) 15=true from by rw [Nat.blt_eq];exact h] at h15;cases h15
    simp only [cond_false]
    show (if d+16≤d+31∧d+31<d+32 then _ else _)=_
    rw [if_pos (by omega),j5 _ (by omega),j5 i (by omega)]
 have hbe: ∀id bi,mi β d id=some bi→β' id=some bi:=fun id bi hh=>by
  by_cases hj:d+16≤id∧id<d+32
  ·unfold mi at hh
   rw [if_neg (by omega),hd id (by omega) hj.2] at hh;cases hh
  ·rw [b1 id hj];exact hh
 rw [←b2] at j1 j2 j3
 have k1:=(HR.ren inj').2 j1
 have eO:fI β' (TL (fH'.map (HE.ren (m7 mg ρ d))))=fI (fun i=>β' (m7 mg ρ d i)) (TL fH'):=li
 have hchg:qS W (fI (mi β d) (TL (fH.map (HE.ren ρ)))) (mi β d) W' (fI β' (TL (fH'.map (HE.ren (m7 mg ρ d))))) β':=by
  rw [eO,li]
  exact ⟨j3.os,j3.tape,j3.output,j3.size,j3.blk,hbe,j3.own⟩
 obtain ⟨r1,r2,r3⟩:=h4.join hdis k1 hchg
 have hV:VR (eI Y β' (TU (TL (fH'.map (HE.ren (m7 mg ρ d)))) (TL (lI (fH.map fun t=>ρ t.id) (jh H q ρ fH))))) W' β' (rv.ren (m7 mg ρ d)) u:=by
  refine VR.ren.2 ?_
  rw [r3]
  have:eI (eI Y (mi β d) (TL (lI (fH.map fun t=>ρ t.id) (jh H q ρ fH)))) β' (TL (fH'.map (HE.ren (m7 mg ρ d))))=eI (eI Y (mi β d) (TL (lI (fH.map fun t=>ρ t.id) (jh H q ρ fH)))) (fun i=>β' (m7 mg ρ d i)) (TL fH'):=by unfold eI;rw [eO]
  rw [this];exact j2
 have hown: ∀g',fI (mi β d) (TU (TL (fH.map (HE.ren ρ))) (TL (lI (fH.map fun t=>ρ t.id) (jh H q ρ fH)))) g'→fI β (TL H) g':=fun g' ho=>by
  obtain ⟨e,q1,q2,q3⟩:=ho
  have hlt:g'<W.heap.size:=HE.lt (h4.ok e q1) q3
  have hX:eI Y β (TL H) g':=Classical.byContradiction fun hx=>(p4.blk g' hlt (p3.blk g' hlt hx).2).2 (.inr ⟨e,q1,q2,q3⟩)
  rcases hX with hy | ho
  ·exact absurd hy (h4.out e q1 q2 g' q3)
  ·exact ho
 rw [nW (fH'.map (HE.ren (m7 mg ρ d)))] at r1 r2 hV
 refine ⟨β',r1,hV,⟨r2.os,r2.tape,r2.output,r2.size,fun b hb hn=>r2.blk b hb fun ho=>hn (hown b ho),fun id bi h=>r2.be _ _ (p4.be _ _ (p3.be _ _ h)),fun g' hg=>(r2.own g' hg).imp (hown g') fun h=>h⟩,fun i hi=> ?_⟩
 rw [b1 i (by omega)]
 unfold mi
 rw [if_neg (by omega)]
def RO:AV→Bool
 | .c _=>true
 | .t _=>true
 | .own .. =>true
 | _=>false
def LR:Ct→Bool
 | .nil=>true
 | .cons a r=>RO a&&LR r
 | _=>false
def RP:AV→Bool
 | .tup x=>LR x
 | a=>RO a
def Ob:Ct→Bool
 | .N .. =>true
 | .B .. =>true
 | .S .. =>true
 | _=>false
theorem Fp {X X':eQ} {W W':World} {β:Be} {a:AV} {u:Value} (h:RO a=true) (hv:VR X W β a u):VR X' W' β a u:=by
 cases a with
 | own id p f=>cases p<;>exact hv
 | c v=>exact hv
 | t b=>exact hv
 | _=>cases h
theorem Fq {X X':eQ} {W W':World} {β:Be}: ∀ {x:Ct} {cs:List Value},LR x=true→CR X W β x cs→CR X' W' β x cs
 | .nil,_,_,h=>h
 | .cons a r,_,hp,h=>by
  have hp:RO a=true∧LR r=true:=by simpa [LR] using hp
  obtain ⟨v,cs',h1,h2,h3⟩:=h
  exact ⟨v,cs',h1,Fp hp.1 h2,Fq hp.2 h3⟩
 | .N ..,_,hp,_ | .B ..,_,hp,_ | .S ..,_,hp,_ | .R ..,_,hp,_ | .T ..,_,hp,_=>by cases hp
theorem LS {X X':eQ} {W W':World} {β:Be} {a:AV} {u:Value} (h:RP a=true) (hv:VR X W β a u):VR X' W' β a u:=by
 cases a<;>first | exact Fp h hv | (obtain ⟨cs,h1,h2⟩:=hv;exact ⟨cs,h1,Fq h h2⟩) | cases h
theorem LT {X X':eQ} {W W':World} {β β':Be} {x:Ct} {cs:List Value} (h:Ob x=true) (hv:CR X W β x cs):CR X' W' β' x cs:=by
 cases x<;>first | exact hv | cases h
theorem IG {x:Ct} {ρ:Nat→Nat} (h:Ob x=true):Ob (x.ren ρ)=true:=by
 cases x<;>first | rfl | cases h
def Sc (l:List HE):Bool:=l.all fun e=> !e.fz&&Ob e.x
def yr (fa:List AV) (fH':List HE) (as:List AV) (H:List HE) (d:Nat):List HE:=
 let q:=ph H d [] fa as
 let ρ:=kP 0 q.1 d
 fH'.map (HE.ren (m7 0 ρ d))++H
theorem Bf {Y:eQ} {W:World} {β:Be} {H:List HE} {d g:Nat} {fa as:List AV} {rv:AV} {fH':List HE} {us:List Value} (hc:AC P Gl g 0 fa [] rv fH') (hH:HR Y W β (TL H)) (hA:mE (eI Y β (TL H)) W β as us) (hG:tt (eI Y β (TL H)) W Gl) (hd: ∀i,d≤i→i<d+32→β i=none)
 (hpl:(RP rv&&Sc fH')=true) (h1:DQ 0 fa [] fH' as H d=true) (h2:DS fa [] as H d=DU fa [] as H d):
 Calls P g us.toArray W (NZ fun u W'=> ∃β',HR Y W' β' (TL (yr fa fH' as H d))∧VR (eI Y β' (TL (yr fa fH' as H d))) W' β' (yq 0 fa [] rv as H d) u∧qS W (fI β (TL H)) β W' (fI β' (TL (yr fa fH' as H d))) β'∧ ∀i,i<d∨d+32≤i→β' i=β i):=by
 unfold yr yq
 rw [Bool.and_eq_true] at hpl
 unfold DQ at h1
 unfold DS DU at h2
 simp only [Bool.and_eq_true] at h1
 obtain ⟨c2,c3,c4,c5,c6⟩:=h1
 injection h2 with e1 e2
 unfold uy at c5
 rw [Bool.and_eq_true] at c5
 obtain ⟨c5,c8⟩:=c5
 simp only
 generalize ph H d [] fa as=q at*
 generalize hρ:kP 0 q.1 d=ρ at*
 have hd16: ∀i,d≤i→i<d+16→β i=none:=fun i h1 h2=>hd i h1 (by omega)
 obtain ⟨h3,p3,hx⟩:=ready (q:=q) (ρ:=ρ) (fH:=[]) hH hd16 c4
 obtain ⟨h4,p4⟩:=ry (ρ:=ρ) (fH:=[]) h3 hx e2 c8 c5 true
 simp only [cond_true] at h4 p4
 have inj: ∀t t',t∈([]:List HE)→t'∈([]:List HE)→t≠t'→ρ t.id≠ρ t'.id:=jR c5
 have inj': ∀t t',t∈fH'→t'∈fH'→t≠t'→m7 0 ρ d t.id≠m7 0 ρ d t'.id:=jR c6
 rw [←nW] at h4 p4
 have hdis: ∀x,TL (([]:List HE).map (HE.ren ρ)) x→TL (lI (([]:List HE).map fun t=>ρ t.id) (jh H q ρ ([]:List HE))) x→False:=fun x hx hr=>by
  obtain ⟨t,k1,rfl⟩:=List.mem_map.1 hx
  exact (uw.1 hr).2 (List.mem_map.2 ⟨t,k1,rfl⟩)
 have h5:=h4.part hdis
 have h6:=(HR.ren inj).1 h5
 have eX1:eI Y (mi β d) (TU (TL (([]:List HE).map (HE.ren ρ))) (TL (lI (([]:List HE).map fun t=>ρ t.id) (jh H q ρ ([]:List HE)))))=eI (eI Y (mi β d) (TL (lI (([]:List HE).map fun t=>ρ t.id) (jh H q ρ ([]:List HE))))) (fun i=>mi β d (ρ i)) (TL []):=by
  rw [o8];unfold eI;rw [li]
 have hargs:=qV h3 hx (hA.pers p3) e1
 have hargs2:mE (eI (eI Y (mi β d) (TL (lI (([]:List HE).map fun t=>ρ t.id) (jh H q ρ ([]:List HE))))) (fun i=>mi β d (ρ i)) (TL [])) W (fun i=>mi β d (ρ i)) fa us:=by
  refine hargs.pers ⟨fun b hb hx=>⟨rfl,?_⟩,fun _ _ h=>h⟩
  rw [←eX1];exact (p4.blk b hb hx).2
 have hgl:=(hG.pers p3.blk).pers p4.blk
 rw [eX1] at hgl
 have hcall:=hc _ W (fun i=>mi β d (ρ i)) us h6 hargs2 hgl (fun i hi=>by rw [←hρ];exact rA (hd _ (by omega) (by omega)) c2 (Nat.zero_le _) hi)
 refine Calls.mono hcall ?_
 rintro e W' ⟨u,rfl,β2,j1,j2,j3,j4,j5⟩
 refine ⟨u,rfl,?_⟩
 let β':Be:=fun j=>if d+16≤j∧j<d+32 then β2 (0+(j-(d+16))) else mi β d j
 have b1: ∀j,¬(d+16≤j∧j<d+32)→β' j=mi β d j:=fun j hj=>if_neg hj
 have b2:(fun i=>β' (m7 0 ρ d i))=β2:=by
  funext i
  unfold m7
  cases hi:Nat.blt i 0 with
  | true=>
   have hi':i<0:=Nat.le_of_ble_eq_true hi
   have:=List.all_eq_true.1 c3 i (List.mem_range.2 hi')
   rw [Bool.or_eq_true] at this
   have:ρ i<d+16∨d+32≤ρ i:=this.imp Nat.le_of_ble_eq_true Nat.le_of_ble_eq_true
   simp only [cond_true]
   rw [b1 _ (by omega),j4 i hi']
  | false=>
   have hi':¬ i<0:=fun h=>by rw [show Nat.blt i 0=true from by rw [Nat.blt_eq];exact h] at hi;cases hi
   simp only [cond_false]
   cases h15:Nat.blt (i-0) 15 with
   | true=>
    have h15:i-0<15:=Nat.le_of_ble_eq_true h15
    simp only [cond_true]
    show (if d+16≤d+16+(i-0)∧d+16+(i-0)<d+32 then _ else _)=_
    rw [if_pos (by omega)]
    congr 1;omega
   | false=>
    have h15:¬ i-0<15:=fun h=>by rw [show Nat.blt (i-0) 15=true from by rw [Nat.blt_eq];exact h] at h15;cases h15
    simp only [cond_false]
    show (if d+16≤d+31∧d+31<d+32 then _ else _)=_
    rw [if_pos (by omega),j5 _ (by omega),j5 i (by omega)]
 have hbe: ∀id bi,mi β d id=some bi→β' id=some bi:=fun id bi hh=>by
  by_cases hj:d+16≤id∧id<d+32
  ·unfold mi at hh
   rw [if_neg (by omega),hd id (by omega) hj.2] at hh;cases hh
  ·rw [b1 id hj];exact hh
 rw [←b2] at j1 j2 j3
 have k1:=(HR.ren inj').2 j1
 have hbk: ∀b,b<W.heap.size→W'.heap[b]? =W.heap[b]? :=fun b hb=>j3.blk b hb (fun h=>p7 h)
 have hbe2: ∀id bi,β id=some bi→β' id=some bi:=fun id bi hh=>hbe id bi (Fc (fun j q1 q2=>hd j q1 (by omega)) id bi hh)
 have hN: ∀e∈fH'.map (HE.ren (m7 0 ρ d)),e.fz=false∧Ob e.x=true:=fun e he=>by
  obtain ⟨e0,q1,rfl⟩:=List.mem_map.1 he
  have:=List.all_eq_true.1 hpl.2 e0 q1
  rw [Bool.and_eq_true,Bool.not_eq_true'] at this
  exact ⟨this.1,IG this.2⟩
 have hnew: ∀g',fI β' (TL (fH'.map (HE.ren (m7 0 ρ d)))) g'→W.heap.size≤g':=fun g' hg=>by
  rw [li] at hg
  exact (j3.own g' hg).resolve_left fun h=>p7 h
 have hold: ∀e∈H,ik β' e.id=ik β e.id:=fun e he=>xZ hbe2 (hH.ok e he)
 have hown: ∀g',fI β' (TL (fH'.map (HE.ren (m7 0 ρ d))++H)) g'→fI β (TL H) g'∨W.heap.size≤g':=fun g' ⟨e,q1,q2,q3⟩=>by
  rcases List.mem_append.1 q1 with q1 | q1
  ·exact .inr (hnew g' ⟨e,q1,q2,q3⟩)
  ·exact .inl ⟨e,q1,q2,by rw [←hold e q1];exact q3⟩
 have p:lH (eI Y β (TL H)) W β (eI Y β' (TL (fH'.map (HE.ren (m7 0 ρ d))++H))) W' β':=⟨fun b hlt hX=>⟨hbk b hlt,fun hX'=>hX'.elim (fun h=>hX (.inl h)) fun h=>(hown b h).elim (fun h=>hX (.inr h)) fun h=>absurd hlt (Nat.not_lt.2 h)⟩,hbe2⟩
 refine ⟨β',⟨fun e he=> ?_,fun e e' h1 h2 hne hf g hg hg'=> ?_,fun e he hf g hg hY=> ?_,fun g hg=>Nat.lt_of_lt_of_le (hH.ylt g hg) j3.size⟩,VR.ren.2 (LS hpl.1 j2),⟨j3.os,j3.tape,j3.output,j3.size,fun b hlt _=>hbk b hlt,hbe2,hown⟩,fun i hi=> ?_⟩
 ·rcases List.mem_append.1 he with he | he
  ·obtain ⟨bi,cs,q1,q2,q3,q4,q5,q6,q7⟩:=k1.ok e he
   refine ⟨bi,cs,q1,LT (hN e he).2 q2,q3,q4,q5,q6,?_⟩
   cases hg:bi.b with
   | none=>rw [hg] at q7;exact q7
   | some g=>
    rw [hg] at q7
    obtain ⟨cur,r1,r2,r3,_⟩:=q7
    exact ⟨cur,r1,r2,r3,fun hf=>by rw [(hN e he).1] at hf;cases hf⟩
  ·exact HE.ok_pers (hH.ok e he) p fun g hg=>⟨hbk g (HE.lt (hH.ok e he) hg),fun hf hX=>(p.blk g (HE.lt (hH.ok e he) hg) (HE.nX (hH.ok e he) hf hg)).2 hX⟩
 ·rcases List.mem_append.1 h1 with h1 | h1<;>rcases List.mem_append.1 h2 with h2 | h2
  ·exact k1.sep e e' h1 h2 hne hf g hg hg'
  ·have q1:=hnew g ⟨e,h1,hf,hg⟩
   rw [hold e' h2] at hg'
   exact absurd (HE.lt (hH.ok e' h2) hg') (Nat.not_lt.2 q1)
  ·have q1:=hnew g ⟨e',h2,(hN e' h2).1,hg'⟩
   rw [hold e h1] at hg
   exact absurd (HE.lt (hH.ok e h1) hg) (Nat.not_lt.2 q1)
  ·rw [hold e h1] at hg
   rw [hold e' h2] at hg'
   exact hH.sep e e' h1 h2 hne hf g hg hg'
 ·rcases List.mem_append.1 he with he | he
  ·exact absurd (hH.ylt g hY) (Nat.not_lt.2 (hnew g ⟨e,he,hf,hg⟩))
  ·rw [hold e he] at hg
   exact hH.out e he hf g hg hY
 ·rw [b1 i (by omega)]
  unfold mi
  rw [if_neg (by omega)]
def Bg (g mg:Nat) (fa:List AV) (fH:List HE) (fH':List HE) (r:nA):Bool:=match r with
 | .call g' as d S'=>Nat.beq g g'&&(Sb S'.m&&DQ mg fa fH fH' as S'.H S'.nx)
 | _=>false
def Bh (fa:List AV) (fH:List HE) (r:nA):List (Option AV)×List HE:=match r with
 | .call _ as _ S'=>DS fa fH as S'.H S'.nx
 | _=>([],[])
def Bi (fa:List AV) (fH:List HE) (r:nA):List (Option AV)×List HE:=match r with
 | .call _ as _ S'=>DU fa fH as S'.H S'.nx
 | _=>([],[])
def nA.aft (mg:Nat) (fa:List AV) (fH:List HE) (rv:AV) (fH':List HE):nA→St
 | .call _ as d S'=> {S' with E:=sJ S'.E d (yq mg fa fH rv as S'.H S'.nx),H:=DP mg fa fH fH' as S'.H S'.nx,nx:=S'.nx+32}
 | _=>⟨.it,[],[],[],0⟩
theorem G.ca {g mg:Nat} {fa:List AV} {fH:List HE} {rv':AV} {fH':List HE} (hc:AC P Gl g mg fa fH rv' fH') (r:GC Γ ((mG P Gl n S).aft mg fa fH rv' fH')) (h1:Bg g mg fa fH fH' (mG P Gl n S)=true:=by kernel_rfl) (h2:Bh fa fH (mG P Gl n S)=Bi fa fH (mG P Gl n S):=by kernel_rfl):GC Γ S:=by
 refine ot ?_
 unfold Bg at h1
 split at h1
 ·rename_i g' as d S' hs
  rw [hs] at h2 r ⊢
  unfold Bh Bi at h2
  unfold nA.aft at r
  simp only at r h2
  simp only [Bool.and_eq_true] at h1
  obtain ⟨c0,c1,c2⟩:=h1
  have c0:=Nat.eq_of_beq_eq_true c0
  subst c0
  obtain ⟨m,k,E,H,nx⟩:=S'
  cases m with
  | it=>cases c1
  | op ops i is o r=>cases c1
  | rg ops is=>
   simp only at c2 h2 r
   show ur Γ.cx g as d ⟨.rg ops is,k,E,H,nx⟩
   unfold ur
   simp only
   intro W β a hI hdn us hus
   refine Calls.mono (Bc (d:=nx) hc hI.hr hus hI.gl (fun i h1 _=>hI.nx i h1) c2 h2) ?_
   rintro e W' ⟨u,rfl,β',k1,k2,k3,k4⟩
   refine ⟨u,rfl,?_⟩
   have p:=k3.pers hI.hr.ylt
   have hle:nm≤nx:=hI.le
   refine r.o W' β' (a.put d u) ⟨k1,(hI.er.pers p).put k2 fun t ht=>by rw [hI.size];exact hdn t ht,hI.gl.pers p.blk,by rw [qb];exact hI.size,by rw [nH];exact hI.defs,by show nm≤nx+32;omega,fun i hi=> ?_,hI.ext.trans ⟨k3.os,k3.tape,k3.output,k3.size,k3.blk,fun _ _ h=>h,k3.own⟩,fun i hi=> ?_⟩
   ·have hi:nx+32≤i:=hi
    rw [k4 i (.inr hi)];exact hI.nx i (by show nx≤i;omega)
   ·have hi':i<nm:=hi
    rw [k4 i (.inl (by omega))];exact hI.keep i hi
 ·cases h1
def nA.aftl (fa:List AV) (rv:AV) (fH':List HE):nA→St
 | .call _ as d S'=> {S' with E:=sJ S'.E d (yq 0 fa [] rv as S'.H S'.nx),H:=yr fa fH' as S'.H S'.nx,nx:=S'.nx+32}
 | _=>⟨.it,[],[],[],0⟩
theorem G.cl {g:Nat} {fa:List AV} {rv':AV} {fH':List HE} (hc:AC P Gl g 0 fa [] rv' fH') (r:GC Γ ((mG P Gl n S).aftl fa rv' fH')) (h0:(RP rv'&&Sc fH')=true:=by kernel_rfl) (h1:Bg g 0 fa [] fH' (mG P Gl n S)=true:=by kernel_rfl) (h2:Bh fa [] (mG P Gl n S)=Bi fa [] (mG P Gl n S):=by kernel_rfl):GC Γ S:=by
 refine ot ?_
 unfold Bg at h1
 split at h1
 ·rename_i g' as d S' hs
  rw [hs] at h2 r ⊢
  unfold Bh Bi at h2
  unfold nA.aftl at r
  simp only at r h2
  simp only [Bool.and_eq_true] at h1
  obtain ⟨c0,c1,c2⟩:=h1
  have c0:=Nat.eq_of_beq_eq_true c0
  subst c0
  obtain ⟨m,k,E,H,nx⟩:=S'
  cases m with
  | it=>cases c1
  | op ops i is o r=>cases c1
  | rg ops is=>
   simp only at c2 h2 r
   show ur Γ.cx g as d ⟨.rg ops is,k,E,H,nx⟩
   unfold ur
   simp only
   intro W β a hI hdn us hus
   refine Calls.mono (Bf (d:=nx) hc hI.hr hus hI.gl (fun i h1 _=>hI.nx i h1) h0 c2 h2) ?_
   rintro e W' ⟨u,rfl,β',k1,k2,k3,k4⟩
   refine ⟨u,rfl,?_⟩
   have p:=k3.pers hI.hr.ylt
   have hle:nm≤nx:=hI.le
   refine r.o W' β' (a.put d u) ⟨k1,(hI.er.pers p).put k2 fun t ht=>by rw [hI.size];exact hdn t ht,hI.gl.pers p.blk,by rw [qb];exact hI.size,by rw [nH];exact hI.defs,by show nm≤nx+32;omega,fun i hi=> ?_,hI.ext.trans ⟨k3.os,k3.tape,k3.output,k3.size,k3.blk,fun _ _ h=>h,k3.own⟩,fun i hi=> ?_⟩
   ·have hi:nx+32≤i:=hi
    rw [k4 i (.inr hi)];exact hI.nx i (by show nx≤i;omega)
   ·have hi':i<nm:=hi
    rw [k4 i (.inl (by omega))];exact hI.keep i hi
 ·cases h1
def IH:Nat→List AV→AE
 | _,[]=>[]
 | i,a::r=>(i,a)::IH (i+1) r
theorem Bj {X:eQ} {W:World} {β:Be} {tm:Array Value} {ds:List Deferred}: ∀ {as:List AV} {us:List Value} {i:Nat},mE X W β as us→(∀j u,us[j]? =some u→tm[i+j]? =some u)→ER X W β (IH i as) ⟨tm,ds⟩
 | [],us,i,h,_=>fun p hp=>by cases hp
 | a::r,us,i,h,hu=>by
  cases h with
  | cons h1 h2=>
   intro p hp
   rcases List.mem_cons.1 hp with rfl | hp
   ·exact ⟨_,by have:=hu 0 _ rfl;simpa using this,h1⟩
   ·exact Bj h2 (fun j u hj=>by have:=hu (j+1) u (by simpa using hj);rwa [show i+(j+1)=i+1+j by omega] at this) p hp
theorem AC.mk {fn:Func} {c:Code} {args:List AV} {H:List HE} (hf:P.funcs[f]? =some fn) (hb:fn.body=some c) (hl:Nat.ble args.length fn.ntmps=true) (hn:fn.ntmps=n)
 (h: ∀Γ:Cr P Gl f n nm rv H',GC Γ ⟨.it,[.code c],IH 0 args,H,nm⟩):AC P Gl f nm args H rv H':=by
 intro Y W β us hH hA hG hfr
 subst hn
 have hlen:=hA.len
 have hl:=Nat.le_of_ble_eq_true hl
 refine wm hf hb ?_
 refine (h ⟨Y,W,fI β (TL H),β⟩).o W β _ ⟨hH,?_,hG,?_,rfl,Nat.le_refl _,hfr,⟨rfl,rfl,rfl,Nat.le_refl _,fun _ _ _=>rfl,fun _ _ h=>h,fun _ h=> .inl h⟩,fun _ _=>rfl⟩
 ·refine Bj hA fun j u hj=> ?_
  have hjl:=(List.getElem?_eq_some_iff.1 hj).1
  rw [Nat.zero_add,Array.getElem?_append_left (by simpa using hjl)]
  simpa using hj
 ·show (us.toArray++Array.replicate (fn.ntmps-us.toArray.size) undef).size=fn.ntmps
  simp;omega
end
end Go.Scr.A
namespace Go.Scr.A
def tx:List Nat→Nat→Bool
 | [],_=>false
 | x::r,y=>Nat.beq x y ||tx r y
theorem lJ: ∀ {l:List Nat} {y:Nat},tx l y=true↔y∈l
 | [],y=>by simp [tx]
 | x::r,y=>by
  rw [tx,Bool.or_eq_true,lJ,List.mem_cons]
  exact or_congr ⟨fun h=>(Nat.eq_of_beq_eq_true h).symm,fun h=>by subst h;exact Nat.beq_refl _⟩ Iff.rfl
def kY (ops:Array Oper) (i:Nat):Option Nat:=(ops[i]?).bind (·.dst)
def iJ (ops:Array Oper) (i:Nat):Nat:=match ops[i]? with | some o=>j8 o.after.toList | none=>0
def Oc:Operand→Option Nat
 | .tmp t=>some t
 | _=>none
def Sd (ops:Array Oper) (i:Nat):List Nat:=match ops[i]? with
 | some o=>(match o.guard with | some (j,_)=>(match (ops[j]?).bind (·.dst) with | some t=>[t] | none=>[]) | none=>[])++o.op.operands.toList.filterMap Oc
 | none=>[]
theorem yt {a b y:Nat} (h:Nat.beq (Nat.land a b) a=true) (hy:a.testBit y=true):b.testBit y=true:=by
 have e:a &&& b=a:=Nat.eq_of_beq_eq_true h
 have:(a &&& b).testBit y=a.testBit y:=by rw [e]
 rw [Nat.testBit_and,hy,Bool.true_and] at this;exact this
theorem yu {ops:Array Oper} {i:Nat} {o:Oper} (ho:ops[i]? =some o):iJ ops i=j8 o.after.toList:=by unfold iJ;rw [ho]
section
variable {ops:Array Oper} {dn:List Nat}
theorem vw {i:Nat} (h:i∈Region.ready .any ops (xV ops dn)):i<ops.size∧i∉dn∧ ∀y,(iJ ops i).testBit y=true→y∈dn:=by
 unfold Region.ready at h
 obtain ⟨h1,h2⟩:=List.mem_filter.1 h
 have hi:=List.mem_range.1 h1
 rw [Bool.and_eq_true,rk,if_pos hi] at h2
 refine ⟨hi,by simpa using h2.1,fun y hy=> ?_⟩
 have ho:=Array.getElem?_eq_getElem hi
 rw [ho,Option.map_some,Option.getD_some] at h2
 rw [yu ho] at hy
 have h3:(ops[i].after.toList.all fun e=> !Region.binds .any e ||(o7 dn).testBit e.on)=true:=by
  rw [List.all_eq_true]
  intro e he
  have h4:=h2.2
  rw [←Array.all_toList,List.all_eq_true] at h4
  have:=h4 e he
  cases hb:Region.binds .any e with
  | false=>rfl
  | true=>
   rw [hb,rk] at this
   split at this
   ·rw [nD];exact this
   ·cases this
 rw [←qR] at h3
 have:=yt h3 hy
 rw [nD] at this;exact of_decide_eq_true this
theorem DV {i:Nat} (hi:i<ops.size) (hn:i∉dn) (hs: ∀y∈dn,y<ops.size) (h:Nat.beq (Nat.land (iJ ops i) (o7 dn)) (iJ ops i)=true):i∈Region.ready .any ops (xV ops dn):=by
 unfold Region.ready
 refine List.mem_filter.2 ⟨List.mem_range.2 hi,?_⟩
 have ho:=Array.getElem?_eq_getElem hi
 rw [yu ho,qR] at h
 rw [Bool.and_eq_true,rk,if_pos hi,ho,Option.map_some,Option.getD_some]
 refine ⟨by simpa using hn,?_⟩
 rw [←Array.all_toList,List.all_eq_true]
 intro e he
 have:=List.all_eq_true.1 h e he
 cases hb:Region.binds .any e with
 | false=>rfl
 | true=>
  rw [hb,nD] at this
  have hm:e.on∈dn:=by simpa using this
  rw [rk,if_pos (hs _ hm)];simpa using hm
theorem uz: ∀ {l m:List Nat},l.Nodup→(∀x∈l,x∈m)→l.length≤m.length
 | [],m,_,_=>Nat.zero_le _
 | a::l,m,h,hs=>by
  have ha:=hs a List.mem_cons_self
  have h1:=uz (l:=l) (m:=m.erase a) (List.nodup_cons.1 h).2 (fun x hx=>(List.mem_erase_of_ne (a:=x) (b:=a) (fun e:x=a=>(List.nodup_cons.1 h).1 (by rw [←e];exact hx))).2 (hs x (List.mem_cons_of_mem _ hx)))
  rw [List.length_erase_of_mem ha] at h1
  have:=List.length_pos_of_mem ha
  rw [List.length_cons];omega
inductive lA (ops:Array Oper) (x:Nat):Nat→Prop
 | one {y:Nat}:(iJ ops y).testBit x=true→lA ops x y
 | far {z y:Nat}:lA ops x z→(iJ ops y).testBit z=true→lA ops x y
theorem lA.done {x y:Nat} (hc: ∀q∈dn,∀z,(iJ ops q).testBit z=true→z∈dn) (h:lA ops x y):(∀z,(iJ ops y).testBit z=true→z∈dn)→x∈dn:=by
 induction h with
 | one h=>intro k;exact k _ h
 | far h1 h2 ih=>intro k;exact ih fun z hz=>hc _ (k _ h2) z hz
def Bl:List Nat→Nat→Nat→Nat
 | [],_,m=>m
 | c::r,i,m=>Bl r (i+1) (bif m.testBit i then Nat.lor m c else m)
def DW (ops:Array Oper):Nat→List Nat
 | 0=>[]
 | n+1=>DW ops n++[Bl (DW ops n) 0 (iJ ops n)]
theorem uA {n:Nat}: ∀ {l:List Nat} {i m:Nat},(∀y,m.testBit y=true→lA ops y n)→(∀j c,l[j]? =some c→ ∀y,c.testBit y=true→lA ops y (i+j))→(∀z,m.testBit z=true→lA ops z n)→(∀z x,lA ops z n→lA ops x z→lA ops x n)→ ∀y,(Bl l i m).testBit y=true→lA ops y n
 | [],i,m,h1,_,_,_,y,hy=>h1 y hy
 | c::r,i,m,h1,h2,h3,h4,y,hy=>by
  unfold Bl at hy
  have h2': ∀j c,r[j]? =some c→ ∀y,c.testBit y=true→lA ops y (i+1+j):=fun j c hj y hy=>by
   have:=h2 (j+1) c (by simpa using hj) y hy
   rwa [show i+(j+1)=i+1+j by omega] at this
  cases hb:m.testBit i with
  | false=>rw [hb] at hy;exact uA h1 h2' h3 h4 y hy
  | true=>
   rw [hb,cond_true] at hy
   have hl: ∀y,(Nat.lor m c).testBit y=true→lA ops y n:=fun y hy=>by
    rw [show Nat.lor m c=m ||| c from rfl,Nat.testBit_or,Bool.or_eq_true] at hy
    rcases hy with hy | hy
    ·exact h1 y hy
    ·have:=h2 0 c rfl y hy
     rw [Nat.add_zero] at this
     exact h4 i y (h3 i hb) this
   exact uA hl h2' hl h4 y hy
theorem lA.trans {x y z:Nat} (h1:lA ops x y) (h2:lA ops y z):lA ops x z:=by
 induction h2 with
 | one h=>exact .far h1 h
 | far _ h ih=>exact .far ih h
theorem wN: ∀(n:Nat),(DW ops n).length=n∧ ∀q c,(DW ops n)[q]? =some c→ ∀y,c.testBit y=true→lA ops y q
 | 0=>⟨rfl,fun q c h=>by cases h⟩
 | n+1=>by
  obtain ⟨h1,h2⟩:=wN n
  unfold DW
  refine ⟨by simp [h1],fun q c hq y hy=> ?_⟩
  rw [List.getElem?_append] at hq
  split at hq
  ·exact h2 q c hq y hy
  ·rename_i hn
   rw [h1] at hq hn
   have:q=n:=by
    have:=(List.getElem?_eq_some_iff.1 hq).1
    simp at this;omega
   subst this
   rw [Nat.sub_self] at hq
   injection hq with hq
   subst hq
   refine uA (i:=0) (fun y hy=> .one hy) (fun j c hj y hy=> ?_) (fun y hy=> .one hy) (fun z x h1 h2=>h2.trans h1) y hy
   rw [Nat.zero_add];exact h2 j c hj y hy
end
structure Le where
 v:AV
 rd:List HE
 use:List HE
 mak:List HE
def zP (ops:Array Oper):Nat→List Le→AE
 | _,[]=>[]
 | i,x::r=>match kY ops i with
  | some d=>(d,x.v)::zP ops (i+1) r
  | none=>zP ops (i+1) r
def LU:List (Nat×Bool)→AE
 | []=>[]
 | (t,v)::r=>(t,.t v)::LU r
def yv (ops:Array Oper):List Nat:=ops.toList.filterMap (·.dst)
def yw (ops:Array Oper) (E:AE):AE:=E.filter fun p=> !(tx (yv ops) p.1)
def II (ops:Array Oper) (q:Nat):List Nat:=(ops.toList.take q).filterMap (·.dst)
def Kp (ops:Array Oper) (q t:Nat):Bool:=tx (II ops q) t || !(tx (yv ops) t)
def Od (ops:Array Oper) (E:AE) (q:Nat):AE:=E.filter fun p=> !(tx (II ops q) p.1)
def IJ (ops:Array Oper) (E:AE) (dec:List (Nat×Bool)) (pr:List Le):AE:=(LU dec).filter (fun p=>Kp ops pr.length p.1)++(zP ops 0 pr++Od ops E pr.length)
theorem uB {ops:Array Oper} {q t:Nat}:t∈II ops q↔ ∃y,y<q∧kY ops y=some t:=by
 unfold II kY
 rw [List.mem_filterMap]
 refine ⟨fun ⟨o,h1,h2⟩=> ?_,fun ⟨y,h1,h2⟩=> ?_⟩
 ·obtain ⟨y,hy⟩:=List.getElem?_of_mem h1
  rw [List.getElem?_take] at hy
  split at hy
  ·rename_i hq
   exact ⟨y,hq,by rw [show ops[y]? =some o by simpa using hy];exact h2⟩
  ·cases hy
 ·obtain ⟨o,h3,h4⟩:=Option.bind_eq_some_iff.1 h2
  exact ⟨o,List.mem_of_getElem? (i:=y) (by rw [List.getElem?_take,if_pos h1];simpa using h3),h4⟩
theorem qD {ops:Array Oper} {t:Nat}:t∈yv ops↔ ∃y,kY ops y=some t:=by
 unfold yv kY
 rw [List.mem_filterMap]
 refine ⟨fun ⟨o,h1,h2⟩=> ?_,fun ⟨y,h2⟩=> ?_⟩
 ·obtain ⟨y,hy⟩:=List.getElem?_of_mem h1
  exact ⟨y,by rw [show ops[y]? =some o by simpa using hy];exact h2⟩
 ·obtain ⟨o,h3,h4⟩:=Option.bind_eq_some_iff.1 h2
  exact ⟨o,List.mem_of_getElem? (i:=y) (by simpa using h3),h4⟩
def IK (ops:Array Oper) (E:AE) (dec:List (Nat×Bool)) (pr:List Le) (q:Nat):AE:=(IJ ops E dec pr).filter fun p=>tx (Sd ops q) p.1
def rB:List HE→List Le→List HE
 | H,[]=>H
 | H,x::r=>rB (x.mak++qa x.use H) r
theorem oO {ops:Array Oper} {p:Nat×AV}: ∀ {pr:List Le} {i:Nat},p∈zP ops i pr↔ ∃j x,pr[j]? =some x∧kY ops (i+j)=some p.1∧p.2=x.v
 | [],i=>by simp [zP]
 | x::r,i=>by
  unfold zP
  have sh:(∃j y,(x::r)[j]? =some y∧kY ops (i+j)=some p.1∧p.2=y.v)↔(kY ops i=some p.1∧p.2=x.v)∨ ∃j y,r[j]? =some y∧kY ops (i+1+j)=some p.1∧p.2=y.v:=by
   refine ⟨?_,?_⟩
   ·rintro ⟨j,y,h1,h2,h3⟩
    cases j with
    | zero=>injection h1 with h1;subst h1;exact .inl ⟨h2,h3⟩
    | succ j=>exact .inr ⟨j,y,h1,by rwa [show i+1+j=i+(j+1) by omega],h3⟩
   ·rintro (⟨h2,h3⟩ | ⟨j,y,h1,h2,h3⟩)
    ·exact ⟨0,x,rfl,h2,h3⟩
    ·exact ⟨j+1,y,h1,by rwa [show i+(j+1)=i+1+j by omega],h3⟩
  rw [sh]
  split
  ·rename_i d hd
   rw [List.mem_cons,oO,hd]
   refine or_congr ⟨fun h=>by subst h;exact ⟨rfl,rfl⟩,fun ⟨h1,h2⟩=> ?_⟩ Iff.rfl
   injection h1 with h1;obtain ⟨a,b⟩:=p;simp only at h1 h2;rw [h1,h2]
  ·rename_i hd
   rw [oO,hd]
   exact ⟨.inr,fun h=>h.resolve_left fun h=>by cases h.1⟩
def NW (Γ:Cx) (ops:Array Oper) (E:AE) (q:Nat) (x:Le) (new:Nat):Prop:=
 ∀(Y:eQ) (W:World) (β:Be) (a:Act) (Q:Exit→Act→World→Prop) (K:Act→World→Prop),HR Y W β (TL (x.use++x.rd))→ER (eI Y β (TL (x.use++x.rd))) W β E a→tt (eI Y β (TL (x.use++x.rd))) W Γ.Gl→
  (∀i,new≤i→i<new+32→β i=none)→a.tmps.size=Γ.n→
  (∀u W' β',HR Y W' β' (TL (x.mak++x.rd))→VR (eI Y β' (TL (x.mak++x.rd))) W' β' x.v u→qS W (fI β (TL (x.use++x.rd))) β W' (fI β' (TL (x.mak++x.rd))) β'→(∀i,i<new∨new+32≤i→β' i=β i)→K (a.put (kY ops q) u) W')→
  wpOp Γ.P ops Q q K a W
def Oe (l:List HE) (i:Nat):Bool:=l.any fun x=>Nat.beq x.id i
def IL (l m:List HE):Bool:=l.any fun x=>Oe m x.id
theorem qE {l m:List HE} (h:IL l m=false) {x y:HE} (hx:x∈l) (hy:y∈m):x.id≠y.id:=fun he=>by
 have:IL l m=true:=List.any_eq_true.2 ⟨x,hx,List.any_eq_true.2 ⟨y,hy,by rw [he];exact Nat.beq_refl _⟩⟩
 rw [h] at this;cases this
def vx (x y:Le):Bool:=IL (x.use++x.mak) (y.use++(y.rd++y.mak)) ||IL (y.use++y.mak) x.rd
def LV (ops:Array Oper) (n:Nat) (cls:List Nat) (b:List Le) (x:Le):Bool:=
 let q:=b.length
 (match kY ops q with
  | some d=>Nat.blt d n&&(List.range q).all fun y=>match kY ops y with | some e=> !(Nat.beq d e) | none=>true
  | none=>true)&&
 (Nat.beq (Nat.land (iJ ops q) (2^q-1)) (iJ ops q)&&
 (((List.range ops.size).all fun y=>match kY ops y with | some e=> !(tx (Sd ops q) e) ||((iJ ops q).testBit y ||(Nat.beq y q ||(Nat.ble q y&&(match cls[y]? with | some c=>c.testBit q | none=>false)))) | none=>true)&&
 (b.zip (List.range q)).all fun p=>(match cls[q]? with | some c=>c.testBit p.2 | none=>false) || !(vx p.1 x)))
def Bm (ops:Array Oper) (n:Nat) (cls:List Nat):List Le→List Le→Bool
 | _,[]=>true
 | b,x::r=>LV ops n cls b x&&Bm ops n cls (b++[x]) r
def LW (ops:Array Oper) (n:Nat) (pr:List Le):Bool:=
 Nat.beq pr.length ops.size&&Bm ops n (DW ops ops.size) [] pr
theorem uC {ops:Array Oper} {n:Nat} {cls:List Nat}: ∀ {l b:List Le},Bm ops n cls b l=true→ ∀i x,l[i]? =some x→LV ops n cls (b++l.take i) x=true
 | [],b,_,i,x,h=>by cases h
 | y::r,b,h,i,x,hx=>by
  unfold Bm at h
  rw [Bool.and_eq_true] at h
  cases i with
  | zero=>injection hx with hx;subst hx;simpa using h.1
  | succ i=>
   have:=uC h.2 i x (by simpa using hx)
   simpa using this
def TD (H:List HE) (pr:List Le) (dn:List Nat):TS:=fun e=>
 (e∈H∧ ∀w∈dn,∀x,pr[w]? =some x→np x.use e.id=true)∨ ∃w∈dn,∃x,pr[w]? =some x∧e∈x.mak∧ ∀w'∈dn,w<w'→ ∀x',pr[w']? =some x'→np x'.use e.id=true
theorem yx: ∀ {l:List Le} {H:List HE} {x:Le},rB H (l++[x])=x.mak++qa x.use (rB H l)
 | [],H,x=>rfl
 | y::r,H,x=>yx (l:=r)
theorem IM {l:List HE} {i:Nat} (h: ∀x∈l,x.id≠i):np l i=true:=List.all_eq_true.2 fun x hx=>by
 cases hq:Nat.beq x.id i with
 | false=>rfl
 | true=>exact absurd (Nat.eq_of_beq_eq_true hq) (h x hx)
theorem wO {H:List HE} {pr:List Le}: ∀(i:Nat),i≤pr.length→ ∀e∈rB H (pr.take i),TD H pr (List.range i) e
 | 0,_,e,he=>by
  simp only [List.take_zero,rB] at he
  exact .inl ⟨he,fun w hw=>by simp at hw⟩
 | i+1,hi,e,he=>by
  have hlt:i<pr.length:=hi
  rw [List.take_add_one,List.getElem?_eq_getElem hlt,Option.toList_some,yx] at he
  have hx:pr[i]? =some pr[i]:=List.getElem?_eq_getElem hlt
  rcases List.mem_append.1 he with he | he
  ·refine .inr ⟨i,by simp,pr[i],hx,he,fun w' hw' hlt'=> ?_⟩
   have:=List.mem_range.1 hw';omega
  ·obtain ⟨h1,h2⟩:=List.mem_filter.1 he
   rcases wO i (by omega) e h1 with ⟨k1,k2⟩ | ⟨w,k1,x,k2,k3,k4⟩
   ·refine .inl ⟨k1,fun w hw x hx'=> ?_⟩
    rcases Nat.lt_or_ge w i with hwi | hwi
    ·exact k2 w (List.mem_range.2 hwi) x hx'
    ·have:w=i:=by have:=List.mem_range.1 hw;omega
     subst this
     rw [hx] at hx';injection hx' with hx';subst hx';exact h2
   ·refine .inr ⟨w,List.mem_range.2 (by have:=List.mem_range.1 k1;omega),x,k2,k3,fun w' hw' hlt' x' hx'=> ?_⟩
    rcases Nat.lt_or_ge w' i with hwi | hwi
    ·exact k4 w' (List.mem_range.2 hwi) hlt' x' hx'
    ·have:w'=i:=by have:=List.mem_range.1 hw';omega
     subst this
     rw [hx] at hx';injection hx' with hx';subst hx';exact h2
theorem rC {q:Nat×AV}: ∀ {dec:List (Nat×Bool)},q∈LU dec→ ∃s∈dec,q=(s.1,.t s.2)
 | [],h=>by cases h
 | s::l,h=>by
  rcases List.mem_cons.1 h with rfl | h
  ·exact ⟨s,List.mem_cons_self,rfl⟩
  ·obtain ⟨s',h1,h2⟩:=rC h
   exact ⟨s',List.mem_cons_of_mem _ h1,h2⟩
structure IR (Γ:Cx) (ops:Array Oper) (E:AE) (H:List HE) (nx:Nat) (pr:List Le) (dn:List Nat) (W:World) (β:Be) (a:Act):Prop where
 hr:HR Γ.Y W β (TD H pr dn)
 eb: ∀p∈E,(∀y∈dn,kY ops y≠some p.1)→ ∃u,a.tmps[p.1]? =some u∧VR (eI Γ.Y β (TD H pr dn)) W β p.2 u
 ed: ∀i∈dn,∀x,pr[i]? =some x→ ∀d,kY ops i=some d→ ∃u,a.tmps[d]? =some u∧VR (eI Γ.Y β (TD H pr dn)) W β x.v u
 gl:tt (eI Γ.Y β (TD H pr dn)) W Γ.Gl
 size:a.tmps.size=Γ.n
 defs:Sa Γ.df a.defers
 fresh: ∀i,nx≤i→(∀w∈dn,¬(nx+32*w≤i∧i<nx+32*w+32))→β i=none
 ext:qS Γ.W0 Γ.O0 DK W (fI β (TD H pr dn)) DK
 keep: ∀i,i<Γ.nm→β i=Γ.β0 i
 le:Γ.nm≤nx
theorem LX {H:List HE} {pr:List Le} {dn dn':List Nat} (h: ∀i,i∈dn↔i∈dn'):TD H pr dn=TD H pr dn':=by
 funext e
 unfold TD
 simp only [h]
theorem wP {q y:Nat} (h:(2^q-1).testBit y=true):y<q:=by
 rw [Nat.testBit_two_pow_sub_one] at h
 exact of_decide_eq_true h
section
variable {Γ:Cx} {ops:Array Oper} {k:List Item} {E:AE} {H:List HE} {nx:Nat} {dec:List (Nat×Bool)} {pr:List Le}
theorem Se (hF: ∀i x,pr[i]? =some x→NW Γ ops (IK ops E dec (pr.take i) i) i x (nx+32*i)∧ ∀z∈x.use++x.rd,z∈rB H (pr.take i))
 (hdec: ∀p∈dec,(p.1,AV.c (.bool p.2))∈yw ops E∨ ∃i x,pr[i]? =some x∧kY ops i=some p.1∧x.v= .c (.bool p.2))
 (hk:LW ops Γ.n pr=true)
 (r: ∀W β a,tI Γ (IJ ops E dec pr) (rB H pr) (nx+32*ops.size) W β a→qr Γ.P Γ.R Γ.f k a W):
 ∀(m:Nat) (dn:List Nat) (W:World) (β:Be) (a:Act),dn.Nodup→(∀i∈dn,i<ops.size)→(∀q∈dn,∀z,(iJ ops q).testBit z=true→z∈dn)→dn.length+m=ops.size→IR Γ ops E H nx pr dn W β a→
  wpAny Γ.P .any ops (Qk Γ k) m (xV ops dn) a W:=by
 unfold LW at hk
 rw [Bool.and_eq_true] at hk
 obtain ⟨k1,k2⟩:=hk
 have hlen:=Nat.eq_of_beq_eq_true k1
 have C: ∀q x,pr[q]? =some x→q<ops.size∧(∀d,kY ops q=some d→d<Γ.n∧ ∀y,y<q→kY ops y≠some d)∧(∀z,(iJ ops q).testBit z=true→z<q)∧(∀y,y<ops.size→ ∀e,kY ops y=some e→e∈Sd ops q→(iJ ops q).testBit y=true∨(q≤y∧(y=q∨lA ops q y)))∧
  (Nat.beq (Nat.land (iJ ops q) (2^q-1)) (iJ ops q)=true)∧ ∀p xp,p<q→pr[p]? =some xp→lA ops p q∨vx xp x=false:=by
  intro q x hx
  have hq:q<pr.length:=(List.getElem?_eq_some_iff.1 hx).1
  have h:=uC k2 q x hx
  rw [List.nil_append] at h
  have hl:(pr.take q).length=q:=by rw [List.length_take];omega
  unfold LV at h
  simp only [hl] at h
  rw [Bool.and_eq_true,Bool.and_eq_true,Bool.and_eq_true] at h
  obtain ⟨h1,h2,h3,h4⟩:=h
  refine ⟨by omega,fun d hd=> ?_,fun z hz=>wP (yt h2 hz),fun y hy e he hr=> ?_,h2,fun p xp hp hxp=> ?_⟩
  ·rw [hd] at h1
   simp only [Bool.and_eq_true] at h1
   refine ⟨Nat.le_of_ble_eq_true h1.1,fun y hy he=> ?_⟩
   have:=List.all_eq_true.1 h1.2 y (List.mem_range.2 hy)
   rw [he] at this
   simp only [Nat.beq_refl] at this
   cases this
  ·have:=List.all_eq_true.1 h3 y (List.mem_range.2 hy)
   rw [he] at this
   simp only [lJ.2 hr,Bool.not_true,Bool.false_or] at this
   rw [Bool.or_eq_true,Bool.or_eq_true,Bool.and_eq_true] at this
   rcases this with h | h | ⟨h,hw⟩
   ·exact .inl h
   ·have:=Nat.eq_of_beq_eq_true h
    exact .inr ⟨by omega,.inl this⟩
   ·refine .inr ⟨Nat.le_of_ble_eq_true h,.inr ?_⟩
    split at hw
    ·rename_i c hc
     exact (wN ops.size).2 y c hc q hw
    ·cases hw
  ·have hm:(xp,p)∈(pr.take q).zip (List.range q):=by
    refine List.mem_of_getElem? (i:=p) ?_
    rw [List.getElem?_zip_eq_some]
    exact ⟨by rw [List.getElem?_take,if_pos hp];exact hxp,by simp [hp]⟩
   have:=List.all_eq_true.1 h4 _ hm
   rw [Bool.or_eq_true] at this
   rcases this with hw | hw
   ·split at hw
    ·rename_i c hc
     exact .inl ((wN ops.size).2 q c hc p hw)
    ·cases hw
   ·right
    simpa using hw
 have nth: ∀q,q<ops.size→ ∃x,pr[q]? =some x:=fun q hq=>⟨pr[q],List.getElem?_eq_getElem (by omega)⟩
 intro m
 induction m with
 | zero=>
  intro dn W β a nd sub cl hl hI
  have all: ∀i,i<ops.size→i∈dn:=fun i hi=>by
   refine Classical.byContradiction fun hn=> ?_
   have:=uz (List.nodup_cons.2 ⟨hn,nd⟩) (m:=List.range ops.size) fun x hx=>(List.mem_cons.1 hx).elim (fun e=>by rw [e];exact List.mem_range.2 hi) fun h=>List.mem_range.2 (sub x h)
   rw [List.length_range,List.length_cons] at this;omega
  have hrd:Region.ready .any ops (xV ops dn)=[]:=by
   refine List.eq_nil_iff_forall_not_mem.2 fun i hi=> ?_
   obtain ⟨h1,h2,_⟩:=vw hi
   exact h2 (all i h1)
  refine ⟨hrd,rfl,?_⟩
  have eD:TD H pr dn=TD H pr (List.range pr.length):=LX fun i=>⟨fun h=>List.mem_range.2 (by rw [hlen];exact sub i h),fun h=>all i (by rw [←hlen];exact List.mem_range.1 h)⟩
  have sb: ∀e,TL (rB H pr) e→TD H pr dn e:=fun e he=>by
   rw [eD]
   have:=wO (H:=H) (pr:=pr) pr.length (Nat.le_refl _) e
   rw [List.take_length] at this
   exact this he
  have p:lH (eI Γ.Y β (TD H pr dn)) W β (eI Γ.Y β (TL (rB H pr))) W β:=nF fun z h1 h2=>⟨z,sb z h1,h2,rfl⟩
  have hr':HR Γ.Y W β (TL (rB H pr)):=hI.hr.weak (fun z=>z) (fun z hz=>⟨sb z hz,rfl,fun h=>h,HE.ok_X (hI.hr.ok z (sb z hz)) p rfl rfl (.inr rfl) (fun _ h=>h) fun hf g hg hX=>HE.nX (hI.hr.ok z (sb z hz)) hf hg (hX.imp (fun h=>h) (kU fun z h1 h2=>⟨z,sb z h1,h2,rfl⟩))⟩) fun _ _ _ _ h=>h
  refine r W β a ⟨hr',?_,hI.gl.pers p.blk,hI.size,hI.defs,by have:=hI.le;omega,fun i hi=>hI.fresh i (by omega) fun w hw=>by have:=sub w hw;omega,S8.drop hI.ext hr' fun g hg hx=>(p.blk g hg hx).2,hI.keep⟩
  intro q hq
  have never: ∀p∈yw ops E,p∈E∧ ∀y∈dn,kY ops y≠some p.1:=fun p hp=>by
   obtain ⟨h1,h2⟩:=List.mem_filter.1 hp
   refine ⟨h1,fun y _ hy=> ?_⟩
   rw [lJ.2 (qD.2 ⟨y,hy⟩)] at h2;cases h2
  have fe: ∀q∈zP ops 0 pr++yw ops E,∃u,a.tmps[q.1]? =some u∧VR (eI Γ.Y β (TL (rB H pr))) W β q.2 u:=fun q hq=>by
   rcases List.mem_append.1 hq with hq | hq
   ·obtain ⟨j,x,h1,h2,h3⟩:=oO.1 hq
    rw [Nat.zero_add] at h2
    obtain ⟨u,h4,h5⟩:=hI.ed j (all j (by rw [←hlen];exact (List.getElem?_eq_some_iff.1 h1).1)) x h1 _ h2
    exact ⟨u,h4,by rw [h3];exact h5.pers p⟩
   ·obtain ⟨u,h4,h5⟩:=hI.eb q (never q hq).1 (never q hq).2
    exact ⟨u,h4,h5.pers p⟩
  rcases List.mem_append.1 hq with hq | hq
  ·obtain ⟨s,hs,rfl⟩:=rC (List.mem_filter.1 hq).1
   rcases hdec s hs with h1 | ⟨i,x,h1,h2,h3⟩
   ·obtain ⟨u,h4,h5⟩:=fe _ (List.mem_append_right _ h1)
    exact ⟨u,h4,h5⟩
   ·obtain ⟨u,h4,h5⟩:=fe (s.1,.c (.bool s.2)) (List.mem_append_left _ (oO.2 ⟨i,x,h1,by rw [Nat.zero_add];exact h2,h3.symm⟩))
    exact ⟨u,h4,h5⟩
  ·refine fe q ((List.mem_append.1 hq).elim (List.mem_append_left _) fun hq=>List.mem_append_right _ ?_)
   obtain ⟨h1,h2⟩:=List.mem_filter.1 hq
   refine List.mem_filter.2 ⟨h1,?_⟩
   rw [hlen] at h2
   cases hh:tx (yv ops) q.1 with
   | false=>rfl
   | true=>
    obtain ⟨y,hy⟩:=qD.1 (lJ.1 hh)
    have hy':y<ops.size:=by
     unfold kY at hy
     obtain ⟨o,h3,_⟩:=Option.bind_eq_some_iff.1 hy
     exact (Array.getElem?_eq_some_iff.1 h3).1
    rw [lJ.2 (uB.2 ⟨y,hy',hy⟩)] at h2;cases h2
 | succ m ih=>
  intro dn W β a nd sub cl hl hI
  refine ⟨fun hr=> ?_,fun q hq=> ?_⟩
  ·
   exfalso
   have hex: ∃q,q<ops.size∧q∉dn:=by
    refine Classical.byContradiction fun hc=> ?_
    have:=uz (l:=List.range ops.size) (m:=dn) List.nodup_range fun i hi=>Classical.byContradiction fun hn=>hc ⟨i,List.mem_range.1 hi,hn⟩
    rw [List.length_range] at this;omega
   have least: ∃q,q<ops.size∧q∉dn∧ ∀y,y<q→y∈dn:=by
    obtain ⟨q,h1,h2⟩:=hex
    induction q using Nat.strongRecOn with
    | ind q ihq=>
     by_cases h: ∃y,y<q∧y∉dn
     ·obtain ⟨y,h3,h4⟩:=h
      exact ihq y h3 (by omega) h4
     ·exact ⟨q,h1,h2,fun y hy=>Classical.byContradiction fun hn=>h ⟨y,hy,hn⟩⟩
   obtain ⟨q,h1,h2,h3⟩:=least
   obtain ⟨x,hx⟩:=nth q h1
   obtain ⟨_,_,c3,_⟩:=C q x hx
   have:q∈Region.ready .any ops (xV ops dn):=DV h1 h2 sub (by
    have hs: ∀y,(iJ ops q).testBit y=true→(o7 dn).testBit y=true:=fun y hy=>by
     rw [nD];exact decide_eq_true (h3 y (c3 y hy))
    have e:iJ ops q &&& o7 dn=iJ ops q:=Nat.eq_of_testBit_eq fun y=>by
     rw [Nat.testBit_and]
     cases hy:(iJ ops q).testBit y with
     | false=>rfl
     | true=>rw [hs y hy];rfl
    show Nat.beq (iJ ops q &&& o7 dn) _=true
    rw [e];exact Nat.beq_refl _)
   rw [hr] at this;cases this
  ·obtain ⟨q1,q2,q3⟩:=vw hq
   obtain ⟨x,hx⟩:=nth q q1
   obtain ⟨_,c2,c3,c4,c5,c6⟩:=C q x hx
   obtain ⟨f1,f2⟩:=hF q x hx
   have wd: ∀p,lA ops p q→p∈dn:=fun p hp=>hp.done cl q3
   have later: ∀w∈dn,q<w→ ∀xw,pr[w]? =some xw→vx x xw=false:=fun w hw hlt xw hxw=>by
    obtain ⟨_,_,_,_,_,c6'⟩:=C w xw hxw
    rcases c6' q x hlt hx with hh | hh
    ·exact absurd (hh.done cl (cl w hw)) q2
    ·exact hh
   have hin: ∀e,TL (x.use++x.rd) e→TD H pr dn e:=fun e he=>by
    have hlater: ∀w∈dn,q<w→ ∀xw,pr[w]? =some xw→np xw.use e.id=true:=fun w hw hlt xw hxw=>by
     have hcf:=later w hw hlt xw hxw
     unfold vx at hcf
     rw [Bool.or_eq_false_iff] at hcf
     refine IM fun z hz hid=> ?_
     rcases List.mem_append.1 he with he | he
     ·exact qE hcf.1 (List.mem_append_left _ he) (List.mem_append_left _ hz) hid.symm
     ·exact qE hcf.2 (List.mem_append_left _ hz) he hid
    rcases wO q (by omega) e (f2 e he) with ⟨a1,a2⟩ | ⟨p,a1,xp,a2,a3,a4⟩
    ·refine .inl ⟨a1,fun w hw xw hxw=> ?_⟩
     rcases Nat.lt_trichotomy w q with h | h | h
     ·exact a2 w (List.mem_range.2 h) xw hxw
     ·exact absurd (h▸hw) q2
     ·exact hlater w hw h xw hxw
    ·have hpq:=List.mem_range.1 a1
     have hp:p∈dn:=by
      rcases c6 p xp hpq a2 with hh | hh
      ·exact wd p hh
      ·unfold vx at hh
       rw [Bool.or_eq_false_iff] at hh
       refine absurd rfl (qE hh.1 (List.mem_append_right _ a3) (y:=e) ?_)
       rcases List.mem_append.1 he with he | he
       ·exact List.mem_append_left _ he
       ·exact List.mem_append_right _ (List.mem_append_left _ he)
     refine .inr ⟨p,hp,xp,a2,a3,fun w hw hlt xw hxw=> ?_⟩
     rcases Nat.lt_trichotomy w q with h | h | h
     ·exact a4 w (List.mem_range.2 h) hlt xw hxw
     ·exact absurd (h▸hw) q2
     ·exact hlater w hw h xw hxw
   have hout: ∀e,TD H pr (dn++[q]) e→e∈x.mak∨(TD H pr dn e∧e∉x.use):=fun e he=>by
    have nu:np x.use e.id=true→e∉x.use:=fun h hm=>mN h e hm rfl
    rcases he with ⟨a1,a2⟩ | ⟨w,a1,xw,a2,a3,a4⟩
    ·exact .inr ⟨.inl ⟨a1,fun w hw=>a2 w (List.mem_append_left _ hw)⟩,nu (a2 q (by simp) x hx)⟩
    ·rcases List.mem_append.1 a1 with hw | hw
     ·right
      refine ⟨.inr ⟨w,hw,xw,a2,a3,fun w' hw'=>a4 w' (List.mem_append_left _ hw')⟩,?_⟩
      rcases Nat.lt_trichotomy w q with h | h | h
      ·exact nu (a4 q (by simp) h x hx)
      ·exact absurd (h▸hw) q2
      ·have hcf:=later w hw h xw a2
       unfold vx at hcf
       rw [Bool.or_eq_false_iff] at hcf
       exact fun hm=>qE hcf.1 (List.mem_append_left _ hm) (y:=e) (List.mem_append_right _ (List.mem_append_right _ a3)) rfl
     ·rw [List.mem_singleton] at hw
      subst hw
      rw [hx] at a2;injection a2 with a2;subst a2
      exact .inl a3
   have eT:TD H pr dn=TU (TL (x.use++x.rd)) (fun z=>TD H pr dn z∧z∉x.use++x.rd):=by
    funext z
    refine propext ⟨fun hz=> ?_,fun hz=>hz.elim (hin z) And.left⟩
    by_cases hu:z∈x.use++x.rd
    ·exact .inl hu
    ·exact .inr ⟨hz,hu⟩
   have hdis: ∀z,TL (x.use++x.rd) z→(fun z=>TD H pr dn z∧z∉x.use++x.rd) z→False:=fun z h1 h2=>h2.2 h1
   have h0:=hI.hr
   rw [eT] at h0
   have eX:eI Γ.Y β (TD H pr dn)=eI (eI Γ.Y β (fun z=>TD H pr dn z∧z∉x.use++x.rd)) β (TL (x.use++x.rd)):=by
    conv=>lhs;rw [eT]
    exact o8
   have henv:ER (eI Γ.Y β (TD H pr dn)) W β (IK ops E dec (pr.take q) q) a:=by
    intro s hs
    obtain ⟨s1,s2⟩:=List.mem_filter.1 hs
    have s2:=lJ.1 s2
    have tl:(pr.take q).length=q:=by rw [List.length_take];omega
    have known: ∀i y,i<q→pr[i]? =some y→kY ops i=some s.1→ ∃u,a.tmps[s.1]? =some u∧VR (eI Γ.Y β (TD H pr dn)) W β y.v u:=fun i y hiq hy hd=>by
     have hi:i<ops.size:=by rw [←hlen];exact (List.getElem?_eq_some_iff.1 hy).1
     refine hI.ed i (q3 i ((c4 i hi _ hd s2).resolve_right fun h=>by omega)) y hy _ hd
    rcases List.mem_append.1 s1 with s1 | s1
    ·obtain ⟨s1,s3⟩:=List.mem_filter.1 s1
     rw [tl] at s3
     obtain ⟨p,hp,rfl⟩:=rC s1
     rcases hdec p hp with h1 | ⟨i,y,h1,h2,h3⟩
     ·obtain ⟨e1,e2⟩:=List.mem_filter.1 h1
      obtain ⟨u,h4,h5⟩:=hI.eb _ e1 fun y _ hy=>by rw [lJ.2 (qD.2 ⟨y,hy⟩)] at e2;cases e2
      exact ⟨u,h4,h5⟩
     ·have hiq:i<q:=by
       unfold Kp at s3
       rw [Bool.or_eq_true] at s3
       rcases s3 with s3 | s3
       ·obtain ⟨j,j1,j2⟩:=uB.1 (lJ.1 s3)
        rcases Nat.lt_trichotomy i j with h | h | h
        ·omega
        ·omega
        ·obtain ⟨_,c2',_⟩:=C i y h1
         exact absurd j2 ((c2' _ h2).2 j h)
       ·rw [lJ.2 (qD.2 ⟨i,h2⟩)] at s3;cases s3
      obtain ⟨u,h4,h5⟩:=known i y hiq h1 h2
      rw [h3] at h5
      exact ⟨u,h4,h5⟩
    ·rcases List.mem_append.1 s1 with s1 | s1
     ·obtain ⟨j,y,h1,h2,h3⟩:=oO.1 s1
      rw [Nat.zero_add] at h2
      rw [List.getElem?_take] at h1
      split at h1
      ·rename_i hjq
       obtain ⟨u,h4,h5⟩:=known j y hjq h1 h2
       exact ⟨u,h4,by rw [h3];exact h5⟩
      ·cases h1
     ·obtain ⟨e1,e2⟩:=List.mem_filter.1 s1
      rw [tl] at e2
      refine hI.eb s e1 fun y hy hd=> ?_
      rcases c4 y (sub y hy) _ hd s2 with h | ⟨h,h' | h'⟩
      ·rw [lJ.2 (uB.2 ⟨y,c3 y h,hd⟩)] at e2;cases e2
      ·exact q2 (h'▸hy)
      ·exact q2 (h'.done cl (cl y hy))
   have hnr: ∀i,nx+32*q≤i→i<nx+32*q+32→β i=none:=fun i h1 h2=>hI.fresh i (by omega) fun w hw=>by
    have:w≠q:=fun e=>q2 (e▸hw)
    omega
   refine f1 (eI Γ.Y β (fun z=>TD H pr dn z∧z∉x.use++x.rd)) W β a (Qk Γ k) _ (h0.part hdis) (by rw [←eX];exact henv) (by rw [←eX];exact hI.gl) hnr hI.size fun u W' β' g1 g2 g3 g4=> ?_
   obtain ⟨r1,r2,r3⟩:=h0.join hdis g1 g3
   rw [←eT] at r2
   have sb: ∀z,TD H pr (dn++[q]) z→TU (TL (x.mak++x.rd)) (fun z=>TD H pr dn z∧z∉x.use++x.rd) z:=fun z hz=>by
    rcases hout z hz with hz | ⟨hz,hu⟩
    ·exact .inl (List.mem_append_left _ hz)
    ·by_cases hr:z∈x.rd
     ·exact .inl (List.mem_append_right _ hr)
     ·exact .inr ⟨hz,fun hm=>(List.mem_append.1 hm).elim hu hr⟩
   have p2:lH (eI Γ.Y β' (TU (TL (x.mak++x.rd)) (fun z=>TD H pr dn z∧z∉x.use++x.rd))) W' β' (eI Γ.Y β' (TD H pr (dn++[q]))) W' β':=nF fun z h1 h2=>⟨z,sb z h1,h2,rfl⟩
   have p1:lH (eI Γ.Y β (TD H pr dn)) W β (eI Γ.Y β' (TU (TL (x.mak++x.rd)) (fun z=>TD H pr dn z∧z∉x.use++x.rd))) W' β':=r2.pers hI.hr.ylt
   have hr':HR Γ.Y W' β' (TD H pr (dn++[q])):=r1.weak (fun z=>z) (fun z hz=>⟨sb z hz,rfl,fun h=>h,HE.ok_X (r1.ok z (sb z hz)) p2 rfl rfl (.inr rfl) (fun _ h=>h) fun hf g hg hX=>HE.nX (r1.ok z (sb z hz)) hf hg (hX.imp (fun h=>h) (kU fun z h1 h2=>⟨z,sb z h1,h2,rfl⟩))⟩) fun _ _ _ _ h=>h
   have old: ∀(t:Nat),(∀d,kY ops q=some d→t≠d)→ ∀u',a.tmps[t]? =some u'→(a.put (kY ops q) u).tmps[t]? =some u':=fun t ht u' h=>by
    cases hd:kY ops q with
    | none=>exact h
    | some d=>
     simp only [Act.put]
     rw [Array.getElem?_setIfInBounds_ne (Ne.symm (ht d hd))];exact h
   rw [←Es]
   refine ih (dn++[q]) W' β' (a.put (kY ops q) u) ?_ (fun i hi=>(List.mem_append.1 hi).elim (sub i) fun h=>by rw [List.mem_singleton] at h;rw [h];exact q1) (fun w hw z hz=> ?_) (by rw [List.length_append,List.length_singleton];omega) ⟨hr',?_,?_,(hI.gl.pers p1.blk).pers p2.blk,by rw [qb];exact hI.size,by rw [nH];exact hI.defs,fun i h1 h2=> ?_,?_,fun i hi=> ?_,hI.le⟩
   ·rw [List.nodup_append]
    exact ⟨nd,List.nodup_cons.2 ⟨by simp,List.nodup_nil⟩,fun u hu v hv=>by rw [List.mem_singleton] at hv;subst hv;intro e;subst e;exact q2 hu⟩
   ·rcases List.mem_append.1 hw with hw | hw
    ·exact List.mem_append_left _ (cl w hw z hz)
    ·rw [List.mem_singleton] at hw;subst hw
     exact List.mem_append_left _ (q3 z hz)
   ·intro s hs hn
    obtain ⟨u',h4,h5⟩:=hI.eb s hs fun y hy=>hn y (List.mem_append_left _ hy)
    exact ⟨u',old _ (fun d hd he=>hn q (by simp) (by rw [he];exact hd)) u' h4,(h5.pers p1).pers p2⟩
   ·intro i hi y hy d hd
    rcases List.mem_append.1 hi with hi | hi
    ·obtain ⟨u',h4,h5⟩:=hI.ed i hi y hy d hd
     refine ⟨u',old _ (fun d' hd' he=> ?_) u' h4,(h5.pers p1).pers p2⟩
     subst he
     have hne:i≠q:=fun e=>q2 (e▸hi)
     rcases Nat.lt_or_gt_of_ne hne with h | h
     ·exact (c2 d hd').2 i h hd
     ·obtain ⟨_,c2',_⟩:=C i y hy
      exact (c2' d hd).2 q h hd'
    ·rw [List.mem_singleton] at hi;subst hi
     rw [hx] at hy;injection hy with hy;subst hy
     refine ⟨u,?_,VR.pers p2 (by rw [r3];exact g2)⟩
     have:=(c2 d hd).1
     rw [hd];simp [Act.put,hI.size,this]
   ·rw [g4 i (by
     have:=h2 q (by simp)
     omega)]
    exact hI.fresh i h1 fun w hw=>h2 w (List.mem_append_left _ hw)
   ·refine hI.ext.trans ⟨r2.os,r2.tape,r2.output,r2.size,r2.blk,fun _ _ h=>h,fun g hg=>r2.own g (kU (fun z h1 h2=>⟨z,sb z h1,h2,rfl⟩) hg)⟩
   ·rw [g4 i (.inl (by have:=hI.le;omega))]
    exact hI.keep i hi
end
end Go.Scr.A
namespace Go.Scr.A
structure Rs where
 ops:Array Oper
 k:List Item
 E:AE
 H:List HE
 nx:Nat
 pr:List Le
 dec:List (Nat×Bool)
 pd:Option Ao
def Rs.en (R:Rs):AE:=IK R.ops R.E R.dec R.pr R.pr.length
def Rs.hp (R:Rs):List HE:=rB R.H R.pr
def Rs.nw (R:Rs):Nat:=R.nx+32*R.pr.length
def nI (Γ:Cx) (R:Rs):Prop:= ∀i x,R.pr[i]? =some x→NW Γ R.ops (IK R.ops R.E R.dec (R.pr.take i) i) i x (R.nx+32*i)∧ ∀z∈x.use++x.rd,z∈rB R.H (R.pr.take i)
def qK (R:Rs):Prop:= ∀p∈R.dec,(p.1,AV.c (.bool p.2))∈yw R.ops R.E∨ ∃i x,R.pr[i]? =some x∧kY R.ops i=some p.1∧x.v= .c (.bool p.2)
def IN (Γ:Cx) (R:Rs):Prop:=match R.pd with
 | none=>True
 | some r=> ∃o,R.ops[R.pr.length]? =some o∧pg R.ops R.en o= .yes∧r.ok Γ.P Γ.Gl o R.en R.nw∧r.inH R.hp
structure GD (Γ:Cx) (R:Rs):Prop where
 o:nI Γ R→qK R→IN Γ R→ ∀W β a,tI Γ R.E R.H R.nx W β a→wpAny Γ.P .any R.ops (Qk Γ R.k) R.ops.size (Array.replicate R.ops.size false) a W
inductive kQ where
 | go (R:Rs)
 | fin (R:Rs)
 | need (b:Bool) (R:Rs)
 | test (t:Nat) (b:Bool) (R:Rs)
 | call (f:FuncId) (args:List AV) (R:Rs)
 | bad
def Fr (P:Program) (Gl:AE) (R:Rs):kQ:=match R.pd with
 | none=>match R.ops[R.pr.length]? with
  | none=> .fin R
  | some o=>match pg R.ops R.en o with
   | .yes=> .go {R with pd:=some (LO P Gl o R.en R.nw 4 R.hp)}
   | .no=> .go {R with pr:=R.pr++[⟨.c undef,[],[],[]⟩]}
   | .ask t b=>bif Kp R.ops R.pr.length t then .test t b R else .bad
   | .bad=> .bad
 | some r=>match r with
  | .v a rd use mk=> .go {R with pr:=R.pr++[⟨a,rd,use,mk⟩],pd:=none}
  | .nd b k=> .need b {R with pd:=some k}
  | .call f args=> .call f args R
  | .ts t b=>bif Kp R.ops R.pr.length t then .test t b {R with pd:=none} else .bad
  | .fz _=> .bad
  | .nq _ _=> .bad
  | .bad=> .bad
def IQ (P:Program) (Gl:AE):Nat→Rs→kQ
 | 0,R=> .go R
 | q+1,R=>match Fr P Gl R with
  | .go R'=>IQ P Gl q R'
  | r=>r
section
variable {Γ:Cx} {R:Rs}
theorem NW.mono {ops:Array Oper} {E E':AE} {q:Nat} {x:Le} {new:Nat} (h:NW Γ ops E q x new) (hs: ∀p∈E,p∈E'):NW Γ ops E' q x new:=
 fun Y W β a Q K h1 h2 h3 h4 h5 h6=>h Y W β a Q K h1 (fun p hp=>h2 p (hs p hp)) h3 h4 h5 h6
theorem nI.snoc {x:Le} (h:nI Γ R) (hx:NW Γ R.ops R.en R.pr.length x R.nw∧ ∀z∈x.use++x.rd,z∈R.hp):nI Γ {R with pr:=R.pr++[x],pd:=none}:=by
 intro i y hy
 simp only at hy ⊢
 rw [List.getElem?_append] at hy
 split at hy
 ·rename_i hi
  have:(R.pr++[x]).take i=R.pr.take i:=by rw [List.take_append_of_le_length (by omega)]
  rw [this];exact h i y hy
 ·rename_i hi
  have:i=R.pr.length:=by
   have:=(List.getElem?_eq_some_iff.1 hy).1
   simp at this;omega
  subst this
  rw [Nat.sub_self] at hy
  injection hy with hy;subst hy
  rw [List.take_left]
  exact hx
theorem qK.snoc {x:Le} (h:qK R):qK {R with pr:=R.pr++[x],pd:=none}:=fun p hp=>(h p hp).imp id fun ⟨i,y,h1,h2⟩=>⟨i,y,by
 have:=(List.getElem?_eq_some_iff.1 h1).1
 simp only;rw [List.getElem?_append_left this];exact h1,h2⟩
theorem LY {p:Nat×AV} (h:p∈R.en):p∈IJ R.ops R.E R.dec R.pr:=(List.mem_filter.1 h).1
theorem Bn {t:Nat} {b:Bool} (hk:Kp R.ops R.pr.length t=true) (h:tr R.en t=some (.c (.bool b))):(t,AV.c (.bool b))∈yw R.ops R.E∨ ∃i x,R.pr[i]? =some x∧kY R.ops i=some t∧x.v= .c (.bool b):=by
 have h1:=LY (mj h)
 rcases List.mem_append.1 h1 with h1 | h1
 ·obtain ⟨s,_,h2⟩:=rC (List.mem_filter.1 h1).1
  injection h2 with _ h2;cases h2
 ·rcases List.mem_append.1 h1 with h1 | h1
  ·obtain ⟨j,x,k1,k2,k3⟩:=oO.1 h1
   rw [Nat.zero_add] at k2
   exact .inr ⟨j,x,k1,k2,k3.symm⟩
  ·obtain ⟨e1,e2⟩:=List.mem_filter.1 h1
   refine .inl (List.mem_filter.2 ⟨e1,?_⟩)
   unfold Kp at hk
   rw [Bool.or_eq_true] at hk
   rcases hk with hk | hk
   ·simp only [hk] at e2;cases e2
   ·exact hk
theorem nI.dec {d:Nat×Bool} {pd:Option Ao} (h:nI Γ R):nI Γ {R with dec:=d::R.dec,pd:=pd}:=fun i x hx=>by
 obtain ⟨h1,h2⟩:=h i x hx
 refine ⟨h1.mono fun p hp=> ?_,h2⟩
 obtain ⟨k1,k2⟩:=List.mem_filter.1 hp
 refine List.mem_filter.2 ⟨?_,k2⟩
 rcases List.mem_append.1 k1 with k1 | k1
 ·obtain ⟨k1,k3⟩:=List.mem_filter.1 k1
  exact List.mem_append_left _ (List.mem_filter.2 ⟨List.mem_cons_of_mem _ k1,k3⟩)
 ·exact List.mem_append_right _ k1
theorem LZ {ops:Array Oper} {E:AE} {o:Oper} {t:Nat} {b:Bool} (h:pg ops E o= .ask t b):tr E t=some (.c (.bool b)):=by
 unfold pg at h
 split at h
 ·cases h
 ·split at h
  ·cases h
  ·split at h
   ·rename_i c _;cases hq:c==_<;>rw [hq] at h<;>cases h
   ·cases h
   ·rename_i c hl
    injection h with e1 e2;subst e1;subst e2;exact hl
   ·cases h
def zQ (Γ:Cx):kQ→Prop
 | .go R=>GD Γ R
 | .fin R=>R.pd=none→nI Γ R→qK R→ ∀W β a,tI Γ R.E R.H R.nx W β a→wpAny Γ.P .any R.ops (Qk Γ R.k) R.ops.size (Array.replicate R.ops.size false) a W
 | .need b R=>b=true∧GD Γ R
 | .test t _ R=> ∃b,GD Γ {R with dec:=(t,b)::R.dec,pd:=none}∧ ∀v,tr R.en t=some (.c (.bool v))→v=b
 | .call f args R=>(∃o,R.pd=some (.call f args)∧R.ops[R.pr.length]? =some o)→nI Γ R→qK R→IN Γ R→ ∀W β a,tI Γ R.E R.H R.nx W β a→wpAny Γ.P .any R.ops (Qk Γ R.k) R.ops.size (Array.replicate R.ops.size false) a W
 | .bad=>False
theorem Fs (h:zQ Γ (Fr Γ.P Γ.Gl R)):GD Γ R:=by
 refine ⟨fun hF hD hP=> ?_⟩
 obtain ⟨ops,k,E,H,nx,pr,dec,pd⟩:=R
 unfold Fr at h
 cases pd with
 | none=>
  simp only at h
  split at h
  ·exact h rfl hF hD
  ·rename_i o ho
   split at h
   ·rename_i hw
    obtain ⟨q1,q2⟩:=zN (P:=Γ.P) (Gl:=Γ.Gl) (o:=o) (E:=Rs.en ⟨ops,k,E,H,nx,pr,dec,none⟩) (new:=Rs.nw ⟨ops,k,E,H,nx,pr,dec,none⟩) (n:=4) (H:=Rs.hp ⟨ops,k,E,H,nx,pr,dec,none⟩)
    exact h.o hF hD ⟨o,ho,hw,q1,q2⟩
   ·rename_i hw
    refine h.o (nI.snoc (R:=⟨ops,k,E,H,nx,pr,dec,none⟩) hF ⟨?_,fun z hz=>by cases hz⟩) (qK.snoc (R:=⟨ops,k,E,H,nx,pr,dec,none⟩) hD) trivial
    intro Y W β a Q K h1 h2 h3 h4 h5 h6
    have hw':=(nG h2).2 hw
    have hd:kY ops pr.length=o.dst:=by unfold kY;rw [ho];rfl
    have:=h6 undef W β h1 rfl (qS.refl _ _ _) (fun _ _=>rfl)
    simp only [hd] at this
    unfold wpOp
    rw [ho]
    simp only [hw']
    exact this
   ·rename_i t b hw
    cases hk:Kp ops pr.length t with
    | false=>rw [hk] at h;exact h.elim
    | true=>
    rw [hk] at h
    obtain ⟨b',h1,h2⟩:=h
    have hl:=LZ hw
    have:=h2 b hl
    subst this
    exact h1.o (nI.dec (R:=⟨ops,k,E,H,nx,pr,dec,none⟩) hF) (fun p hp=>by
     rcases List.mem_cons.1 hp with rfl | hp
     ·exact Bn (R:=⟨ops,k,E,H,nx,pr,dec,none⟩) hk hl
     ·exact hD p hp) trivial
   ·exact h.elim
 | some r=>
  obtain ⟨o,ho,hw,hr,hin⟩:=hP
  simp only at ho hw h
  have hd:kY ops pr.length=o.dst:=by unfold kY;rw [ho];rfl
  cases r with
  | v v rd use mk=>
   refine h.o (nI.snoc (R:=⟨ops,k,E,H,nx,pr,dec,_⟩) hF ⟨?_,fun z hz=>(gn (hin z hz)).1⟩) (qK.snoc (R:=⟨ops,k,E,H,nx,pr,dec,_⟩) hD) trivial
   intro Y W β a Q K h1 h2 h3 h4 h5 h6
   have hw':=(nG h2).1 hw
   obtain ⟨u,W',β',k1,k2,k3,k4,k5⟩:=Ao.tri hr Y W β a h1 h2 h3 (fun i g1 g2=>h4 i g1 (by omega))
   refine qC _ ho hw' k1 ?_
   rw [←hd]
   exact h6 u W' β' k2 k3 k4 fun i hi=>k5 i (by omega)
  | nd b q=>
   obtain ⟨hb,h⟩:=h
   exact h.o hF hD ⟨o,ho,hw,hr hb,hin⟩
  | call f args=>exact h ⟨o,rfl,ho⟩ hF hD ⟨o,ho,hw,hr,hin⟩
  | ts t b=>
   cases hk:Kp ops pr.length t with
   | false=>simp only [hk] at h;exact h.elim
   | true=>
   simp only [hk] at h
   obtain ⟨b',h1,h2⟩:=h
   have hl:tr (Rs.en ⟨ops,k,E,H,nx,pr,dec,some (.ts t b)⟩) t=some (.c (.bool b)):=hr
   have:=h2 b hl
   subst this
   exact h1.o (nI.dec (R:=⟨ops,k,E,H,nx,pr,dec,_⟩) hF) (fun p hp=>by
    rcases List.mem_cons.1 hp with rfl | hp
    ·exact Bn (R:=⟨ops,k,E,H,nx,pr,dec,some (.ts t b)⟩) hk hl
    ·exact hD p hp) trivial
  | fz id=>exact h.elim
  | nq m neq=>exact h.elim
  | bad=>exact h.elim
theorem Bo: ∀ {q:Nat} {R:Rs},zQ Γ (IQ Γ.P Γ.Gl q R)→GD Γ R
 | 0,R,h=>h
 | q+1,R,h=>by
  unfold IQ at h
  refine Fs ?_
  split at h
  ·rename_i R' hs
   rw [hs];exact Bo h
  ·exact h
end
def tM (P:Program) (Gl:AE) (R:Rs):kQ:=IQ P Gl 400 R
def kQ.st:kQ→Rs
 | .go R=>R
 | .fin R=>R
 | .need _ R=>R
 | .test _ _ R=>R
 | .call _ _ R=>R
 | .bad=>⟨#[],[],[],[],0,[],[],none⟩
def kQ.nb:kQ→Option Bool
 | .need b _=>some b
 | _=>none
def kQ.tb:kQ→Option Bool
 | .test t _ R=>match tr R.en t with
  | some (.c (.bool b))=>some b
  | _=>none
 | _=>none
def kQ.stT:kQ→Bool→Rs
 | .test t _ R,v=> {R with dec:=(t,v)::R.dec,pd:=none}
 | _,_=>⟨#[],[],[],[],0,[],[],none⟩
def kQ.isFin (n:Nat):kQ→Bool
 | .fin R=>(match R.pd with | none=>true | some _=>false)&&LW R.ops n R.pr
 | _=>false
def kQ.out:kQ→St
 | .fin R=>⟨.it,R.k,IJ R.ops R.E R.dec R.pr,rB R.H R.pr,R.nx+32*R.ops.size⟩
 | _=>⟨.it,[],[],[],0⟩
def nA.isDraw:nA→Bool
 | .draw S=>Fh S.m&&(match S.k with | .code (.region _ _ true)::_=>true | _=>false)
 | _=>false
def nA.rs:nA→Rs
 | .draw S=>match S.k with
  | .code (.region _ ops true)::k=>⟨ops,k,S.E,S.H,S.nx,[],[],none⟩
  | _=>⟨#[],[],[],[],0,[],[],none⟩
 | _=>⟨#[],[],[],[],0,[],[],none⟩
section
variable {P:Program} {Gl:AE} {f:FuncId} {n nm:Nat} {rv:AV} {H':List HE} {df:Option FuncId} {Γ:Cr P Gl f n nm rv H' df} {S:St} {R:Rs}
theorem uD (h:zQ Γ.cx (tM P Gl R)):GD Γ.cx R:=Bo (Γ:=Γ.cx) h
theorem G.dr (r:GD Γ.cx (mG P Gl n S).rs) (h:((mG P Gl n S).isDraw,P.follows .mixedOrders)=(true,true):=by kernel_rfl):GC Γ S:=by
 refine ot ?_
 injection h with h hm
 unfold nA.isDraw at h
 split at h
 ·rename_i S' hs
  rw [hs] at r ⊢
  rw [Bool.and_eq_true] at h
  obtain ⟨h1,h2⟩:=h
  obtain ⟨m,k,E,H,nx⟩:=S'
  cases m with
  | rg ops is=>cases h1
  | op ops i is o r=>cases h1
  | it=>
   simp only at h2
   split at h2
   ·rename_i id ops k
    refine ⟨fun W β a hI=> ?_⟩
    refine qr.of_wp (wp_region_any hm ?_)
    have p:lH (eI Γ.cx.Y β (TL H)) W β (eI Γ.cx.Y β (TL H)) {W with drawn:=W.drawn+1} β:=⟨fun b _ hx=>⟨rfl,hx⟩,fun _ _ h=>h⟩
    have hr:=hI.hr
    refine r.o (fun i x hx=>by cases hx) (fun p hp=>by cases hp) trivial _ β a ⟨⟨fun e he=>HE.ok_pers (hr.ok e he) p fun g hg=>⟨rfl,fun hf=>HE.nX (hr.ok e he) hf hg⟩,hr.sep,hr.out,hr.ylt⟩,hI.er.pers p,hI.gl.pers p.blk,hI.size,hI.defs,hI.le,hI.nx,hI.ext.trans ⟨rfl,rfl,rfl,Nat.le_refl _,fun _ _ _=>rfl,fun _ _ h=>h,fun _ h=> .inl h⟩,hI.keep⟩
   ·cases h2
 ·cases h
theorem D.nd {b:Bool} (hb:b=true) (r:GD Γ.cx (tM P Gl R).st) (h:(tM P Gl R).nb=some b:=by kernel_rfl):GD Γ.cx R:=by
 refine uD ?_
 unfold kQ.nb at h
 split at h
 ·rename_i b' S' hs
  injection h with h;subst h
  rw [hs] at r ⊢
  exact ⟨hb,r⟩
 ·cases h
theorem D.kn {b v:Bool} (hb:b=v) (r:GD Γ.cx ((tM P Gl R).stT v)) (h:(tM P Gl R).tb=some b:=by kernel_rfl):GD Γ.cx R:=by
 refine uD ?_
 unfold kQ.tb at h
 split at h
 ·rename_i t b' S' hs
  rw [hs] at r ⊢
  split at h
  ·rename_i b2 hl
   injection h with h;subst h
   refine ⟨v,r,fun w hw=> ?_⟩
   rw [hl] at hw;injection hw with hw;injection hw with hw;injection hw with hw
   rw [←hw,hb]
  ·cases h
 ·cases h
theorem D.fi (r:GC Γ (tM P Gl R).out) (h:(tM P Gl R).isFin n=true:=by kernel_rfl):GD Γ.cx R:=by
 refine uD ?_
 unfold kQ.isFin at h
 split at h
 ·rename_i R' hs
  rw [hs] at r ⊢
  rw [Bool.and_eq_true] at h
  intro _ hF hD W β a hI
  have hl:xV R'.ops []=Array.replicate R'.ops.size false:=rfl
  rw [←hl]
  have eT:TD R'.H R'.pr []=TL R'.H:=by funext e;simp [TD]
  refine Se (Γ:=Γ.cx) hF hD h.2 (fun W β a hI=>r.o W β a hI) R'.ops.size [] W β a List.nodup_nil (fun i h=>by cases h) (fun q h=>by cases h) (by simp) ⟨by rw [eT];exact hI.hr,?_,fun i h=>(by cases h),by rw [eT];exact hI.gl,hI.size,hI.defs,fun i h _=>hI.nx i h,by rw [eT];exact hI.ext,hI.keep,hI.le⟩
  rw [eT]
  exact fun p hp _=>hI.er p hp
 ·cases h
def Sf:AV→List Nat
 | .own id _ _=>[id]
 | .ptr id _ _=>[id]
 | _=>[]
def DX:Ct→List Nat
 | .cons a r=>Sf a++DX r
 | _=>[]
def Of:AV→List Nat
 | .own id _ _=>[id]
 | .ptr id _ _=>[id]
 | .agg x _=>DX x
 | .obj x _ _=>DX x
 | .tup x=>DX x
 | .fn _ x=>DX x
 | _=>[]
def Ft (H:List HE):List Nat→List Nat
 | []=>[]
 | i::r=>(match fd H i with | some e=>DX e.x | none=>[])++Ft H r
def wQ (H:List HE) (as:List AV):List HE:=
 let l:=as.flatMap Of
 let l:=l++Ft H l
 let l:=l++Ft H l
 H.filter fun e=>tx l e.id
def kQ.ck (n g mg:Nat) (fa:List AV) (fH fH':List HE):kQ→Bool
 | .call g' as R=>Nat.beq g g'&&DQ mg fa fH fH' as (wQ R.hp as) R.nw
 | _=>false
def kQ.lh (fa:List AV) (fH:List HE):kQ→List (Option AV)×List HE
 | .call _ as R=>DS fa fH as (wQ R.hp as) R.nw
 | _=>([],[])
def kQ.rh (fa:List AV) (fH:List HE):kQ→List (Option AV)×List HE
 | .call _ as R=>DU fa fH as (wQ R.hp as) R.nw
 | _=>([],[])
def kQ.aft (mg:Nat) (fa:List AV) (fH:List HE) (rv:AV) (fH':List HE):kQ→Rs
 | .call _ as R=> {R with pr:=R.pr++[⟨yq mg fa fH rv as (wQ R.hp as) R.nw,[],wQ R.hp as,DP mg fa fH fH' as (wQ R.hp as) R.nw⟩],pd:=none}
 | _=>⟨#[],[],[],[],0,[],[],none⟩
theorem D.ca {g mg:Nat} {fa:List AV} {fH:List HE} {rv':AV} {fH':List HE} (hc:AC P Gl g mg fa fH rv' fH') (r:GD Γ.cx ((tM P Gl R).aft mg fa fH rv' fH')) (h1:(tM P Gl R).ck n g mg fa fH fH'=true:=by kernel_rfl) (h2:(tM P Gl R).lh fa fH=(tM P Gl R).rh fa fH:=by kernel_rfl):GD Γ.cx R:=by
 refine uD ?_
 unfold kQ.ck at h1
 split at h1
 ·rename_i g' as R' hs
  rw [hs] at h2 r ⊢
  unfold kQ.lh kQ.rh at h2
  unfold kQ.aft at r
  simp only at r h2
  rw [Bool.and_eq_true] at h1
  obtain ⟨c0,c2⟩:=h1
  have c0:=Nat.eq_of_beq_eq_true c0
  subst c0
  rintro ⟨o,hpd,ho⟩ hF hD hP
  unfold IN at hP
  rw [hpd] at hP
  obtain ⟨o',ho',hw,hr,_⟩:=hP
  rw [ho] at ho';injection ho' with ho';subst ho'
  refine r.o (nI.snoc hF ⟨?_,fun z hz=> ?_⟩) (qK.snoc hD) trivial
  ·intro Y W β a Q K h3 h4 h5 h6 h7 h8
   have hw':=(nG h4).1 hw
   have hd:kY R'.ops R'.pr.length=o.dst:=by unfold kY;rw [ho];rfl
   simp only [List.append_nil] at h3 h4 h5 h8
   obtain ⟨us,k1,k2⟩:=hr _ W β a h4 h5
   unfold wpOp
   rw [ho]
   simp only [hw',if_true]
   refine .inl ?_
   unfold Oper.wp
   rw [k1]
   refine Calls.mono (Bc (d:=R'.nw) hc h3 k2 h5 h6 c2 h2) ?_
   rintro e W' ⟨u,rfl,β',j1,j2,j3,j4⟩
   have:=h8 u W' β' j1 j2 j3 j4
   rw [hd] at this
   exact this
  ·simp only [List.append_nil] at hz
   exact (List.mem_filter.1 hz).1
 ·cases h1
def kQ.aftl (fa:List AV) (rv:AV) (fH':List HE):kQ→Rs
 | .call _ as R=> {R with pr:=R.pr++[⟨yq 0 fa [] rv as (wQ R.hp as) R.nw,wQ R.hp as,[],fH'.map (HE.ren (m7 0 (kP 0 (ph (wQ R.hp as) R.nw [] fa as).1 R.nw) R.nw))⟩],pd:=none}
 | _=>⟨#[],[],[],[],0,[],[],none⟩
theorem D.cl {g:Nat} {fa:List AV} {rv':AV} {fH':List HE} (hc:AC P Gl g 0 fa [] rv' fH') (r:GD Γ.cx ((tM P Gl R).aftl fa rv' fH')) (h0:(RP rv'&&Sc fH')=true:=by kernel_rfl) (h1:(tM P Gl R).ck n g 0 fa [] fH'=true:=by kernel_rfl) (h2:(tM P Gl R).lh fa []=(tM P Gl R).rh fa []:=by kernel_rfl):GD Γ.cx R:=by
 refine uD ?_
 unfold kQ.ck at h1
 split at h1
 ·rename_i g' as R' hs
  rw [hs] at h2 r ⊢
  unfold kQ.lh kQ.rh at h2
  unfold kQ.aftl at r
  simp only at r h2
  rw [Bool.and_eq_true] at h1
  obtain ⟨c0,c2⟩:=h1
  have c0:=Nat.eq_of_beq_eq_true c0
  subst c0
  rintro ⟨o,hpd,ho⟩ hF hD hP
  unfold IN at hP
  rw [hpd] at hP
  obtain ⟨o',ho',hw,hr,_⟩:=hP
  rw [ho] at ho';injection ho' with ho';subst ho'
  refine r.o (nI.snoc hF ⟨?_,fun z hz=> ?_⟩) (qK.snoc hD) trivial
  ·intro Y W β a Q K h3 h4 h5 h6 h7 h8
   have hw':=(nG h4).1 hw
   have hd:kY R'.ops R'.pr.length=o.dst:=by unfold kY;rw [ho];rfl
   simp only [List.nil_append] at h3 h4 h5 h8
   obtain ⟨us,k1,k2⟩:=hr _ W β a h4 h5
   unfold wpOp
   rw [ho]
   simp only [hw',if_true]
   refine .inl ?_
   unfold Oper.wp
   rw [k1]
   refine Calls.mono (Bf (d:=R'.nw) hc h3 k2 h5 h6 h0 c2 h2) ?_
   rintro e W' ⟨u,rfl,β',j1,j2,j3,j4⟩
   have:=h8 u W' β' j1 j2 j3 j4
   rw [hd] at this
   exact this
  ·simp only [List.nil_append] at hz
   exact (List.mem_filter.1 hz).1
 ·cases h1
end
end Go.Scr.A
