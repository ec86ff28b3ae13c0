/- The abstract machine and what it says of the memory. -/
import Derived.Test.YtdemmfohkhpklaaGreatDoorXa2
set_option linter.unusedVariables false
set_option linter.unusedSimpArgs false
set_option linter.unnecessarySimpa false
namespace Go.Scr.A
variable {P:Program} {Gl:AE} {o:Oper} {E:AE} {H:List HE} {new:Nat}
theorem ER.pers {X X':eQ} {W W':World} {β β':Be} {a:Act} (p:lH X W β X' W' β') (h:ER X W β E a):ER X' W' β' E a:=fun q hq=>by
 obtain ⟨u,h1,h2⟩:=h q hq
 exact ⟨u,h1,h2.pers p⟩
theorem tt.pers {X X':eQ} {W W':World} (p: ∀b,b<W.heap.size→¬ X b→W'.heap[b]? =W.heap[b]? ∧¬ X' b) (h:tt X W Gl):tt X' W' Gl:=fun β q hq=>(h β q hq).pers ⟨p,fun _ _ h=>h⟩
theorem kU {β:Be} {T T':TS} (h: ∀e',T' e'→e'.fz=false→ ∃e,T e∧e.fz=false∧e.id=e'.id) {g:Nat} (hg:fI β T' g):fI β T g:=by
 obtain ⟨e',h1,h2,h3⟩:=hg
 obtain ⟨e,k1,k2,k3⟩:=h e' h1 h2
 exact ⟨e,k1,k2,by rw [k3];exact h3⟩
theorem nF {Y:eQ} {W:World} {β:Be} {T T':TS} (h: ∀e',T' e'→e'.fz=false→ ∃e,T e∧e.fz=false∧e.id=e'.id):lH (eI Y β T) W β (eI Y β T') W β:=
 ⟨fun b _ hX=>⟨rfl,fun h'=>hX (h'.imp (fun h=>h) (kU h))⟩,fun _ _ h=>h⟩
theorem HR.weak {Y:eQ} {W:World} {β:Be} {T T':TS} (src:HE→HE) (h:HR Y W β T) (hT: ∀e',T' e'→T (src e')∧(src e').id=e'.id∧(e'.fz=false→(src e').fz=false)∧e'.ok (eI Y β T') W β) (hi: ∀e e',T' e→T' e'→e≠e'→src e≠src e'):HR Y W β T':=by
 refine ⟨fun e he=>(hT e he).2.2.2,fun e e' h1 h2 hne hf g hg hg'=> ?_,fun e h1 hf g hg=> ?_,h.ylt⟩
 ·obtain ⟨k1,k2,k3,k4⟩:=hT e h1
  obtain ⟨j1,j2,j3,j4⟩:=hT e' h2
  exact h.sep _ _ k1 j1 (hi e e' h1 h2 hne) (k3 hf) g (by rw [k2];exact hg) (by rw [j2];exact hg')
 ·obtain ⟨k1,k2,k3,k4⟩:=hT e h1
  exact h.out _ k1 (k3 hf) g (by rw [k2];exact hg)
def HE.frz (e:HE):HE:= {e with fz:=true}
theorem HE.nX {X:eQ} {W:World} {β:Be} {x:HE} (h:x.ok X W β) (hf:x.fz=true) {g:Nat} (hg:ik β x.id=some g):¬ X g:=by
 obtain ⟨bi,cs,k1,k2,k3,k4,k5,k6,k7⟩:=h
 unfold ik at hg
 rw [k1,Option.bind_some] at hg
 rw [hg] at k7
 obtain ⟨cur,_,_,_,q⟩:=k7
 exact q hf
theorem HE.ok_X {X X':eQ} {W:World} {β:Be} {e e':HE} (h:e.ok X W β) (p:lH X W β X' W β) (hid:e'.id=e.id) (hty:e'.ty=e.ty) (hw:e'.w=0∨e'.w=e.w) (hx: ∀cs,CR X W β e.x cs→CR X W β e'.x cs) (hf:e'.fz=true→ ∀g,ik β e.id=some g→¬ X' g):e'.ok X' W β:=by
 obtain ⟨bi,cs,k1,k2,k3,k4,k5,k6,k7⟩:=h
 refine ⟨bi,cs,by rw [hid];exact k1,(hx cs k2).pers p,k3,k4,k5,?_,?_⟩
 ·rcases hw with hw | hw
  ·exact .inl hw
  ·rw [hw];exact k6
 ·have e1:ik β e.id=bi.b:=by unfold ik;rw [k1];rfl
  cases hg:bi.b with
  | none=>rw [hg] at k7;exact k7
  | some g=>
   rw [hg] at k7
   obtain ⟨cur,q1,q2,q3,q4⟩:=k7
   exact ⟨cur,by rw [hty];exact q1,q2,q3,fun h=>hf h g (by rw [e1,hg])⟩
theorem HR.frz {Y:eQ} {W:World} {β:Be} {e:HE} {R:TS} (h:HR Y W β (fun x=>x=e∨R x)) (hd: ∀x,R x→x.id≠e.id):HR Y W β (fun x=>x=e.frz∨R x):=by
 have sub: ∀e',(e'=e.frz∨R e')→e'.fz=false→ ∃x,(x=e∨R x)∧x.fz=false∧x.id=e'.id:=by
  rintro e' (rfl | h1) h2
  ·cases h2
  ·exact ⟨e',.inr h1,h2,rfl⟩
 have p:lH (eI Y β (fun x=>x=e∨R x)) W β (eI Y β (fun x=>x=e.frz∨R x)) W β:=nF sub
 have nX: ∀g,ik β e.id=some g→¬ eI Y β (fun x=>x=e.frz∨R x) g:=by
  intro g hg hX
  cases hfz:e.fz with
  | true=>exact HE.nX (h.ok e (.inl rfl)) hfz hg (hX.imp (fun h=>h) (kU sub))
  | false=>
   rcases hX with hy | ⟨x,h1,h2,h3⟩
   ·exact h.out e (.inl rfl) hfz g hg hy
   ·rcases h1 with rfl | h1
    ·cases h2
    ·exact h.sep x e (.inr h1) (.inl rfl) (fun he=>hd x h1 (by rw [he])) h2 g h3 hg
 refine h.weak (fun x=>if x.id=e.id then e else x) (fun e' he'=> ?_) fun x y hx hy hne=> ?_
 ·rcases he' with rfl | he'
  ·have:e.frz.id=e.id:=rfl
   simp only [this,if_true]
   exact ⟨.inl trivial,trivial,fun hh=>(by cases hh),HE.ok_X (h.ok e (.inl rfl)) p rfl rfl (.inr rfl) (fun cs h=>h) fun _=>nX⟩
  ·simp only [if_neg (hd e' he')]
   exact ⟨.inr he',trivial,fun h=>h,HE.ok_X (h.ok e' (.inr he')) p rfl rfl (.inr rfl) (fun cs h=>h) fun hf g hg hX=>HE.nX (h.ok e' (.inr he')) hf hg (hX.imp (fun h=>h) (kU sub))⟩
 ·rcases hx with rfl | hx<;>rcases hy with rfl | hy
  ·exact absurd rfl hne
  ·have:e.frz.id=e.id:=rfl
   simp only [this,if_true,if_neg (hd y hy)]
   exact fun he=>hd y hy (by rw [←he])
  ·have:e.frz.id=e.id:=rfl
   simp only [this,if_true,if_neg (hd x hx)]
   exact fun he=>hd x hx (by rw [he])
  ·simp only [if_neg (hd x hx),if_neg (hd y hy)];exact hne
theorem LN {e:HE} {R T':TS} {a:AV} (hd: ∀x,R x→x.id≠e.id) (h:Dp P Gl o E (fun x=>x=e.frz∨R x) new a T'):Dp P Gl o E (fun x=>x=e∨R x) new a T':=by
 intro Y W β ac hH hE hG hf
 have sub: ∀e',(e'=e.frz∨R e')→e'.fz=false→ ∃x,(x=e∨R x)∧x.fz=false∧x.id=e'.id:=by
  rintro e' (rfl | h1) h2
  ·cases h2
  ·exact ⟨e',.inr h1,h2,rfl⟩
 have p:lH (eI Y β (fun x=>x=e∨R x)) W β (eI Y β (fun x=>x=e.frz∨R x)) W β:=nF sub
 obtain ⟨u,W',β',h1,h2,h3,h4,h5⟩:=h Y W β ac (hH.frz hd) (hE.pers p) (hG.pers p.blk) hf
 exact ⟨u,W',β',h1,h2,h3,⟨h4.os,h4.tape,h4.output,h4.size,fun b hb hn=>h4.blk b hb fun ho=>hn (kU sub ho),h4.be,fun g hg=>(h4.own g hg).imp (kU sub) fun h=>h⟩,h5⟩
def qG (H:List HE) (i:Nat):List HE:=H.map fun e=>bif Nat.beq e.id i then e.frz else e
theorem E1 (e:HE) (i:Nat):(bif Nat.beq e.id i then e.frz else e).id=e.id:=by cases Nat.beq e.id i<;>rfl
theorem zM: ∀ {H:List HE} {i j:Nat},fd (qG H i) j=(fd H j).map fun e=>bif Nat.beq e.id i then e.frz else e
 | [],i,j=>rfl
 | e::r,i,j=>by
  show (bif Nat.beq (bif Nat.beq e.id i then e.frz else e).id j then some (bif Nat.beq e.id i then e.frz else e) else fd (qG r i) j)=_
  rw [E1]
  show _=(bif Nat.beq e.id j then some e else fd r j).map _
  cases Nat.beq e.id j with
  | true=>rfl
  | false=>exact zM
def DJ (e:HE):Ao→Ao
 | .v a rd use mk=>bif np use e.id&&(np mk e.id&& !(np rd e.id)) then .v a (rd.filter fun z=> !(Nat.beq z.id e.id)) (e::use) (e.frz::mk) else .bad
 | .nd b k=> .nd b (DJ e k)
 | _=> .bad
theorem E3 {e:HE} {rd:List HE} (z:HE):z∈rd.filter (fun z=> !(Nat.beq z.id e.id))↔z∈rd∧z.id≠e.id:=by
 rw [List.mem_filter]
 refine and_congr Iff.rfl ⟨fun h hid=> ?_,fun h=> ?_⟩
 ·rw [hid,Nat.beq_refl] at h;cases h
 ·cases hq:Nat.beq z.id e.id with
  | false=>rfl
  | true=>exact absurd (Nat.eq_of_beq_eq_true hq) h
theorem A3 {e:HE} (he:fd H e.id=some e): ∀ {r:Ao},r.inH (qG H e.id)→(DJ e r).inH H
 | .v a rd use mk,hi=>by
  unfold DJ
  cases hb:np use e.id&&(np mk e.id&& !(np rd e.id)) with
  | false=>trivial
  | true=>
   simp only [Bool.and_eq_true,Bool.not_eq_true'] at hb
   obtain ⟨b1,b2,b3⟩:=hb
   intro z hz
   rcases List.mem_cons.1 hz with rfl | hz
   ·exact he
   ·have hne:z.id≠e.id:=by
     rcases List.mem_append.1 hz with hz | hz
     ·exact mN b1 z hz
     ·exact ((E3 z).1 hz).2
    have:=hi z (by
     rcases List.mem_append.1 hz with hz | hz
     ·exact List.mem_append_left _ hz
     ·exact List.mem_append_right _ ((E3 z).1 hz).1)
    rw [zM] at this
    obtain ⟨y,k1,k2⟩:=Option.map_eq_some_iff.1 this
    have k3:=(gn k1).2
    have:Nat.beq y.id e.id=false:=by
     cases hq:Nat.beq y.id e.id with
     | false=>rfl
     | true=>exact absurd (by rw [←k3];exact Nat.eq_of_beq_eq_true hq) hne
    rw [this,cond_false] at k2
    rw [k1,k2]
 | .nd b k,hi=>A3 (r:=k) he hi
 | .call ..,_=>trivial
 | .ts ..,_=>trivial
 | .nq ..,_=>trivial
 | .fz ..,_=>trivial
 | .bad,_=>trivial
theorem A4 {e:HE} (he:fd H e.id=some e): ∀ {r:Ao},r.ok P Gl o E new→r.inH (qG H e.id)→(DJ e r).ok P Gl o E new
 | .v a rd use mk,h,hi=>by
  unfold DJ
  cases hb:np use e.id&&(np mk e.id&& !(np rd e.id)) with
  | false=>trivial
  | true=>
   simp only [Bool.and_eq_true,Bool.not_eq_true'] at hb
   obtain ⟨b1,b2,b3⟩:=hb
   have hfe:fd (qG H e.id) e.id=some e.frz:=by rw [zM,he];simp [Nat.beq_refl]
   have eqf: ∀z∈rd,z.id=e.id→z=e.frz:=fun z hz hid=>by
    have:=hi z (List.mem_append_right _ hz)
    rw [hid,hfe] at this;injection this with this;exact this.symm
   have hex:e.frz∈rd:=by
    refine Classical.byContradiction fun hn=> ?_
    have:np rd e.id=true:=List.all_eq_true.2 fun y hy=>by
     cases hq:Nat.beq y.id e.id with
     | false=>rfl
     | true=>exact absurd (by rw [←eqf y hy (Nat.eq_of_beq_eq_true hq)];exact hy) hn
    rw [b3] at this;cases this
   have sp: ∀(l:List HE),(TL (l++rd))=fun x=>x=e.frz∨(TL (l++rd.filter (fun z=> !(Nat.beq z.id e.id)))) x:=fun l=>by
    funext x
    refine propext ⟨fun h=> ?_,fun h=> ?_⟩
    ·rcases List.mem_append.1 h with h | h
     ·exact .inr (List.mem_append_left _ h)
     ·by_cases hid:x.id=e.id
      ·exact .inl (eqf x h hid)
      ·exact .inr (List.mem_append_right _ ((E3 x).2 ⟨h,hid⟩))
    ·rcases h with rfl | h
     ·exact List.mem_append_right _ hex
     ·rcases List.mem_append.1 h with h | h
      ·exact List.mem_append_left _ h
      ·exact List.mem_append_right _ ((E3 x).1 h).1
   have cs: ∀(z:HE) (l r:List HE),TL (z::l++r)=fun x=>x=z∨TL (l++r) x:=fun z l r=>by funext x;simp
   show Dp P Gl o E (TL (e::use++_)) new a (TL (e.frz::mk++_))
   rw [cs,cs]
   have h':Dp P Gl o E (TL (use++rd)) new a (TL (mk++rd)):=Ao.tri h
   rw [sp,sp] at h'
   refine LN (fun x hx=> ?_) h'
   rcases List.mem_append.1 hx with hx | hx
   ·exact mN b1 x hx
   ·exact ((E3 x).1 hx).2
 | .nd b k,h,hi=>fun hb=>A4 (r:=k) he (h hb) hi
 | .call ..,_,_=>trivial
 | .ts ..,_,_=>trivial
 | .nq ..,_,_=>trivial
 | .fz ..,_,_=>trivial
 | .bad,_,_=>trivial
variable (P Gl E o new)
def LO:Nat→List HE→Ao
 | 0,H=>match DH P Gl E H new o with
  | .fz _=> .bad
  | r=>r
 | n+1,H=>match DH P Gl E H new o with
  | .fz id=>match fd H id with
   | some e=>DJ e (LO n (qG H id))
   | none=> .bad
  | r=>r
variable {P Gl E o new}
theorem zN: ∀ {n:Nat} {H:List HE},(LO P Gl o E new n H).ok P Gl o E new∧(LO P Gl o E new n H).inH H
 | 0,H=>by
  unfold LO
  split
  ·exact ⟨trivial,trivial⟩
  ·exact ⟨AY,AZ⟩
 | n+1,H=>by
  unfold LO
  split
  ·rename_i id _
   split
   ·rename_i e he
    have h2:=(gn he).2
    subst h2
    obtain ⟨k1,k2⟩:=zN (n:=n) (H:=qG H e.id)
    exact ⟨A4 he k1 k2,A3 he k2⟩
   ·exact ⟨trivial,trivial⟩
  ·exact ⟨AY,AZ⟩
end Go.Scr.A
namespace Go.Scr.A
structure Cx where
 P:Program
 Gl:AE
 f:FuncId
 n:Nat
 nm:Nat
 Y:eQ
 W0:World
 O0:eQ
 β0:Be
 R:Ending→World→Prop
 df:Option FuncId
def Sa:Option FuncId→List Deferred→Prop
 | none,ds=>ds=[]
 | some f,ds=> ∃x y:Value,ds=[⟨.fn (.func f) #[],#[x,y]⟩]
inductive Md where
 | it
 | rg (ops:Array Oper) (is:List Nat)
 | op (ops:Array Oper) (i:Nat) (is:List Nat) (o:Oper) (r:Ao)
structure St where
 m:Md
 k:List Item
 E:AE
 H:List HE
 nx:Nat
def DK:Be:=fun _=>none
structure tI (Γ:Cx) (E:AE) (H:List HE) (nx:Nat) (W:World) (β:Be) (a:Act):Prop where
 hr:HR Γ.Y W β (TL H)
 er:ER (eI Γ.Y β (TL H)) W β E a
 gl:tt (eI Γ.Y β (TL H)) W Γ.Gl
 size:a.tmps.size=Γ.n
 defs:Sa Γ.df a.defers
 le:Γ.nm≤nx
 nx: ∀i,nx≤i→β i=none
 ext:qS Γ.W0 Γ.O0 DK W (fI β (TL H)) DK
 keep: ∀i,i<Γ.nm→β i=Γ.β0 i
def Qk (Γ:Cx) (k:List Item):Exit→Act→World→Prop:=fun e a' w'=>e= .normal∧qr Γ.P Γ.R Γ.f k a' w'
structure G (Γ:Cx) (S:St):Prop where
 o:match S.m with
  | .it=> ∀W β a,tI Γ S.E S.H S.nx W β a→qr Γ.P Γ.R Γ.f S.k a W
  | .rg ops is=> ∀W β a,tI Γ S.E S.H S.nx W β a→wpOps Γ.P ops (Qk Γ S.k) is a W
  | .op ops i is o r=>ops[i]? =some o→(∀W β a,tI Γ S.E S.H S.nx W β a→Region.wanted o (yielded ops a.tmps)=true)→r.ok Γ.P Γ.Gl o S.E S.nx→r.inH S.H→ ∀W β a,tI Γ S.E S.H S.nx W β a→wpOps Γ.P ops (Qk Γ S.k) (i::is) a W
def E4:AE→Nat→AE
 | [],_=>[]
 | (s,v)::r,t=>bif Nat.beq s t then E4 r t else (s,v)::E4 r t
theorem p9: ∀ {L:AE} {t:Nat} {p:Nat×AV},p∈E4 L t→p∈L∧p.1≠t
 | [],_,_,h=>by cases h
 | (s,u)::r,t,p,h=>by
  unfold E4 at h
  cases hb:Nat.beq s t with
  | true=>
   rw [hb] at h
   obtain ⟨h1,h2⟩:=p9 h
   exact ⟨List.mem_cons_of_mem _ h1,h2⟩
  | false=>
   rw [hb] at h
   rcases List.mem_cons.1 h with rfl | h
   ·exact ⟨List.mem_cons_self,fun e=>by rw [show (s,u).1=s from rfl] at e;subst e;rw [Nat.beq_refl] at hb;cases hb⟩
   ·obtain ⟨h1,h2⟩:=p9 h
    exact ⟨List.mem_cons_of_mem _ h1,h2⟩
def sJ (L:AE):Option Nat→AV→AE
 | some d,v=>(d,v)::E4 L d
 | none,_=>L
theorem ER.put {X:eQ} {W:World} {β:Be} {E:AE} {a:Act} (h:ER X W β E a) {d:Option Nat} {v:AV} {u:Value} (hv:VR X W β v u) (hd: ∀t,d=some t→t<a.tmps.size):ER X W β (sJ E d v) (a.put d u):=by
 cases d with
 | none=>exact h
 | some t=>
  have ht:=hd t rfl
  intro p hp
  rcases List.mem_cons.1 hp with rfl | hp
  ·exact ⟨u,by simp [Act.put,ht],hv⟩
  ·obtain ⟨h1,h2⟩:=p9 hp
   obtain ⟨w,h3,h4⟩:=h p h1
   refine ⟨w,?_,h4⟩
   simp only [Act.put]
   rw [Array.getElem?_setIfInBounds_ne (Ne.symm h2)]
   exact h3
def qa (use:List HE) (H:List HE):List HE:=H.filter fun e=>np use e.id
inductive Wn where
 | yes
 | no
 | ask (t:Nat) (b:Bool)
 | bad
def pg (ops:Array Oper) (E:AE) (o:Oper):Wn:=match o.guard with
 | none=> .yes
 | some (j,b)=>match (ops[j]?).bind (·.dst) with
  | none=> .bad
  | some t=>match tr E t with
   | some (.t c)=>bif c==b then .yes else .no
   | some (.c (.tuple _))=> .no
   | some (.c (.bool c))=> .ask t c
   | _=> .bad
theorem nG {X:eQ} {W:World} {β:Be} {E:AE} {a:Act} {ops:Array Oper} {o:Oper} (hE:ER X W β E a):(pg ops E o= .yes→Region.wanted o (yielded ops a.tmps)=true)∧(pg ops E o= .no→Region.wanted o (yielded ops a.tmps)=false):=by
 unfold pg Region.wanted
 split
 ·rename_i hg
  rw [hg]
  exact ⟨fun _=>rfl,fun h=>(by cases h)⟩
 ·rename_i j b hg
  rw [hg]
  split
  ·exact ⟨fun h=>(by cases h),fun h=>(by cases h)⟩
  ·rename_i t ht
   split
   ·rename_i c hl
    obtain ⟨u,h1,h2⟩:=hE _ (mj hl)
    cases h2
    have hy:yielded ops a.tmps j=some c:=by simp [yielded,ht];simp at h1;simp [h1]
    simp only [hy]
    cases c<;>cases b<;>exact ⟨fun h=>(by first | rfl | cases h),fun h=>(by first | rfl | cases h)⟩
   ·rename_i c hl
    obtain ⟨u,h1,h2⟩:=hE _ (mj hl)
    cases h2
    have hy:yielded ops a.tmps j=none:=by simp [yielded,ht];simp at h1;simp [h1]
    simp only [hy]
    exact ⟨fun h=>(by cases h),fun _=>by cases b<;>rfl⟩
   ·exact ⟨fun h=>(by cases h),fun h=>(by cases h)⟩
   ·exact ⟨fun h=>(by cases h),fun h=>(by cases h)⟩
inductive nA where
 | go (S:St)
 | need (b:Bool) (S:St)
 | test (t:Nat) (b:Bool) (S:St)
 | call (f:FuncId) (args:List AV) (d:Option Nat) (S:St)
 | loop (S:St)
 | draw (S:St)
 | ret (S:St)
 | nq (n:Nat) (S S':St)
 | defer (f:FuncId) (S:St)
 | bad
def E5 (o:Oper):Option FuncId:=match o.op,o.dst with
 | .defer c,none=>match c.callee,c.args.toList with
  | .value (.func f),[_,_]=>some f
  | _,_=>none
 | _,_=>none
def Ko (use mk:List HE) (nx:Nat):Nat:=match use,mk with
 | [],[]=>nx
 | _,_=>nx+16
def E6:Code→List Item→List Item
 | .seq a b,k=>E6 a (.code b::k)
 | .skip,k=>k
 | c,k=> .code c::k
def E7:List Item→List Item
 | .code c::k=>E6 c k
 | k=>k
def E8 (P:Program) (Gl:AE) (n:Nat) (S:St):nA:=match S.m with
 | .it=>match S.k with
  | []=> .ret S
  | .code .ret::_=> .ret S
  | .code .skip::k=> .go {S with k:=k}
  | .code (.label _)::k=> .loop {S with k:=k}
  | .inBlock _::k=> .go {S with k:=k}
  | .inScope _::k=> .go {S with k:=k}
  | .code (.seq x y)::k=> .go {S with k:= .code x:: .code y::k}
  | .code (.cond c x y)::k=>match pR Gl S.E c with
   | some (.t b)=> .go {S with k:= .code (match b with | true=>x | false=>y)::k}
   | some (.c (.bool b))=>match c with
    | .tmp t=> .test t b S
    | _=> .bad
   | _=> .bad
  | .code (.block id c)::k=> .go {S with k:= .code c:: .inBlock id::k}
  | .code (.loop c)::k=> .loop {S with k:= .code c:: .inLoop c::k}
  | .inLoop c::k=> .loop {S with k:= .code c:: .inLoop c::k}
  | .code (.scope c)::k=> .go {S with k:= .code c:: .inScope c::k}
  | .code (.exit id)::k=>match exitTo id k with
   | some k'=> .go {S with k:=k'}
   | none=> .bad
  | .code (.goto l)::k=>match gotoIn l k with
   | some k'=> .loop {S with k:=E7 k'}
   | none=> .bad
  | .code (.region _ ops false)::k=> .go {S with m:= .rg ops (List.range ops.size),k:=k}
  | .code (.region _ ops true)::k=> .draw S
  | _=> .bad
 | .rg _ []=> .go {S with m:= .it}
 | .rg ops (i::is)=>match ops[i]? with
  | none=> .bad
  | some o=>match pg ops S.E o with
   | .yes=>match E5 o with
    | some f=> .defer f {S with m:= .rg ops is}
    | none=> .go {S with m:= .op ops i is o (LO P Gl o S.E S.nx 4 S.H)}
   | .no=>bif pU n o.dst then .go {S with m:= .rg ops is,E:=sJ S.E o.dst (.c undef)} else .bad
   | .ask t b=> .test t b S
   | .bad=> .bad
 | .op ops i is o r=>match r with
  | .v a rd use mk=>bif pU n o.dst then .go {m:= .rg ops is,k:=S.k,E:=sJ S.E o.dst a,H:=mk++qa use S.H,nx:=Ko use mk S.nx} else .bad
  | .nd b k=> .need b {S with m:= .op ops i is o k}
  | .call f args=>bif pU n o.dst then .call f args o.dst {S with m:= .rg ops is} else .bad
  | .ts t b=> .test t b {S with m:= .rg ops (i::is)}
  | .fz _=> .bad
  | .nq m neq=>bif pU n o.dst then .nq m {m:= .rg ops is,k:=S.k,E:=sJ S.E o.dst (.t !neq),H:=S.H,nx:=S.nx} {m:= .rg ops is,k:=S.k,E:=sJ S.E o.dst (.t neq),H:=S.H,nx:=S.nx} else .bad
  | .bad=> .bad
def ID (P:Program) (Gl:AE) (n:Nat):Nat→St→nA
 | 0,S=> .go S
 | q+1,S=>match E8 P Gl n S with
  | .go S'=>ID P Gl n q S'
  | r=>r
section
variable {Γ:Cx} {S S':St} {E E':AE} {H H':List HE} {nx nx':Nat} {W W':World} {β β':Be} {a a':Act}
def ur (Γ:Cx) (f:FuncId) (args:List AV) (d:Option Nat) (S:St):Prop:=match S.m with
 | .rg ops is=> ∀W β a,tI Γ S.E S.H S.nx W β a→(∀t,d=some t→t<Γ.n)→ ∀us,mE (eI Γ.Y β (TL S.H)) W β args us→Calls Γ.P f us.toArray W (NZ fun u W'=>wpOps Γ.P ops (Qk Γ S.k) is (a.put d u) W')
 | _=>False
def E9 (Γ:Cx):nA→Prop
 | .go S=>G Γ S
 | .need b S=>b=true∧G Γ S
 | .test t _ S=> ∃b,G Γ {S with E:=sJ S.E (some t) (.t b)}∧ ∀v,tr S.E t=some (.c (.bool v))→v=b
 | .call f args d S=>ur Γ f args d S
 | .loop S=>G Γ S
 | .draw S=>G Γ S
 | .ret S=>G Γ S
 | .nq n S S'=>(n=0→G Γ S)∧G Γ S'
 | .defer f S=>Γ.df=none∧G {Γ with df:=some f} S
 | .bad=>False
theorem tI.en (h:tI Γ E H nx W β a) (hE:ER (eI Γ.Y β (TL H)) W β E' a') (hs:a'.tmps.size=a.tmps.size) (hd:a'.defers=a.defers):tI Γ E' H nx W β a':=
 ⟨h.hr,hE,h.gl,hs.trans h.size,by rw [hd];exact h.defs,h.le,h.nx,h.ext,h.keep⟩
theorem qb (a:Act) (d:Option Nat) (u:Value):(a.put d u).tmps.size=a.tmps.size:=by cases d<;>simp [Act.put]
theorem nH (a:Act) (d:Option Nat) (u:Value):(a.put d u).defers=a.defers:=by cases d<;>rfl
theorem tI.put (h:tI Γ E H nx W β a) {d:Option Nat} {v:AV} {u:Value} (hv:VR (eI Γ.Y β (TL H)) W β v u) (hd:pU Γ.n d=true):tI Γ (sJ E d v) H nx W β (a.put d u):=
 h.en (h.er.put hv fun t ht=>by rw [h.size];exact uf hd t ht) (qb _ _ _) (nH _ _ _)
theorem tI.test (h:tI Γ E H nx W β a) {t:Nat} {b:Bool} (hl:tr E t=some (.c (.bool b))):tI Γ (sJ E (some t) (.t b)) H nx W β a:=by
 refine h.en (fun p hp=> ?_) rfl rfl
 rcases List.mem_cons.1 hp with rfl | hp
 ·obtain ⟨u,h1,h2⟩:=h.er _ (mj hl)
  exact ⟨u,h1,h2⟩
 ·exact h.er p (p9 hp).1
theorem tI.op {o:Oper} {rd use mk:List HE} {v:AV} (h:tI Γ E H nx W β a) (ht:Dp Γ.P Γ.Gl o E (TL (use++rd)) nx v (TL (mk++rd))) (hi: ∀z∈use++rd,fd H z.id=some z):
 ∃u W' β',vc Γ.P o a W u W'∧tI Γ E (mk++qa use H) (nx+16) W' β' a∧VR (eI Γ.Y β' (TL (mk++qa use H))) W' β' v u:=by
 have hsub: ∀z,TL (use++rd) z→z∈H:=fun z hz=>(gn (hi z hz)).1
 have eT:TL H=TU (TL (use++rd)) (fun z=>z∈H∧z∉use++rd):=by
  funext z
  refine propext ⟨fun hz=> ?_,fun hz=>hz.elim (hsub z) And.left⟩
  by_cases hu:z∈use++rd
  ·exact .inl hu
  ·exact .inr ⟨hz,hu⟩
 have hdis: ∀z,TL (use++rd) z→(fun z=>z∈H∧z∉use++rd) z→False:=fun z h1 h2=>h2.2 h1
 have h0:=h.hr
 rw [eT] at h0
 have eX:eI Γ.Y β (TL H)=eI (eI Γ.Y β (fun z=>z∈H∧z∉use++rd)) β (TL (use++rd)):=by rw [eT,o8]
 obtain ⟨u,W',β',k1,k2,k3,k4,k5⟩:=ht (eI Γ.Y β (fun z=>z∈H∧z∉use++rd)) W β a (h0.part hdis) (by rw [←eX];exact h.er) (by rw [←eX];exact h.gl) (fun i h1 _=>h.nx i h1)
 obtain ⟨r1,r2,r3⟩:=h0.join hdis k2 k4
 rw [←eT] at r2
 have sub: ∀z,TL (mk++qa use H) z→TU (TL (mk++rd)) (fun z=>z∈H∧z∉use++rd) z:=by
  intro z hz
  rcases List.mem_append.1 hz with hz | hz
  ·exact .inl (List.mem_append_left _ hz)
  ·obtain ⟨q1,q2⟩:=List.mem_filter.1 hz
   by_cases hr:z∈rd
   ·exact .inl (List.mem_append_right _ hr)
   ·refine .inr ⟨q1,fun hm=> ?_⟩
    rcases List.mem_append.1 hm with hm | hm
    ·exact mN q2 z hm rfl
    ·exact hr hm
 have p2:lH (eI Γ.Y β' (TU (TL (mk++rd)) (fun z=>z∈H∧z∉use++rd))) W' β' (eI Γ.Y β' (TL (mk++qa use H))) W' β':=nF fun z h1 h2=>⟨z,sub z h1,h2,rfl⟩
 have p1:lH (eI Γ.Y β (TL H)) W β (eI Γ.Y β' (TU (TL (mk++rd)) (fun z=>z∈H∧z∉use++rd))) W' β':=r2.pers h.hr.ylt
 have hr':HR Γ.Y W' β' (TL (mk++qa use H)):=r1.weak (fun z=>z) (fun z hz=>⟨sub z hz,rfl,fun h=>h,HE.ok_X (r1.ok z (sub z hz)) p2 rfl rfl (.inr rfl) (fun _ h=>h) fun hf g hg hX=>HE.nX (r1.ok z (sub z hz)) hf hg (hX.imp (fun h=>h) (kU fun z h1 h2=>⟨z,sub z h1,h2,rfl⟩))⟩) fun _ _ _ _ h=>h
 refine ⟨u,W',β',k1,⟨hr',(h.er.pers p1).pers p2,(h.gl.pers p1.blk).pers p2.blk,h.size,h.defs,by have:=h.le;omega,fun i hi=> ?_,?_,fun i hi=> ?_⟩,VR.pers p2 (by rw [r3];exact k3)⟩
 ·rw [k5 i (.inr hi)];exact h.nx i (by omega)
 ·refine h.ext.trans ⟨r2.os,r2.tape,r2.output,r2.size,r2.blk,fun _ _ h=>h,fun g hg=>r2.own g (kU (fun z h1 h2=>⟨z,sub z h1,h2,rfl⟩) hg)⟩
 ·rw [k5 i (.inl (by have:=h.le;omega))];exact h.keep i hi
theorem qC {ops:Array Oper} {i:Nat} {o:Oper} {Q:Exit→Act→World→Prop} {K:Act→World→Prop} {u:Value} (P:Program) (ho:ops[i]? =some o) (hw:Region.wanted o (yielded ops a.tmps)=true) (hd:vc P o a W u W') (hK:K (a.put o.dst u) W'):wpOp P ops Q i K a W:=by
 unfold wpOp
 rw [ho]
 simp only [hw,if_true]
 refine .inl ?_
 unfold Oper.wp
 rcases hd with hd | ⟨hd,rfl⟩
 ·rw [hd];exact hK
 ·rw [hd];exact hK
theorem DL (H:List HE):qa [] H=H:=List.filter_eq_self.2 fun _ _=>rfl
theorem yo {P:Program} {R:Ending→World→Prop} {f:FuncId} {a:Act} {W:World}: ∀ {c:Code} {k:List Item},qr P R f (E6 c k) a W→qr P R f (.code c::k) a W
 | .seq x y,k,h=>qr.step (fun b cs=>step_seq) (yo (c:=x) h)
 | .skip,k,h=>qr.step (fun b cs=>step_skip) h
 | .region ..,k,h=>h
 | .cond ..,k,h=>h
 | .block ..,k,h=>h
 | .loop ..,k,h=>h
 | .scope ..,k,h=>h
 | .exit ..,k,h=>h
 | .goto ..,k,h=>h
 | .label ..,k,h=>h
 | .ret,k,h=>h
 | .rangeFunc ..,k,h=>h
 | .refuse ..,k,h=>h
theorem Fa {P:Program} {R:Ending→World→Prop} {f:FuncId} {a:Act} {W:World} {k:List Item} (h:qr P R f (E7 k) a W):qr P R f k a W:=by
 unfold E7 at h
 split at h
 ·exact yo h
 ·exact h
theorem DM {P:Program} {W:World} {a:Act} {o:Oper} {f:FuncId} (h:E5 o=some f): ∃u v:Value,(execOp a.eval o).run P W= .ok (.defer ⟨.fn (.func f) #[],#[u,v]⟩) W∧o.dst=none:=by
 unfold E5 at h
 split at h
 ·rename_i c ho hd
  split at h
  ·rename_i f' x y hc hl
   injection h with h;subst h
   obtain ⟨callee,args,ats⟩:=c
   simp only at hc hl
   subst hc
   have ha:args= #[x,y]:=by cases args;simpa using hl
   subst ha
   exact ⟨a.eval x,a.eval y,by simp [execOp,ho,resolve,Deferred.ofValue,Act.eval],hd⟩
  ·cases h
 ·cases h
theorem Fb (h:E9 Γ (E8 Γ.P Γ.Gl Γ.n S)):G Γ S:=by
 obtain ⟨m,k,E,H,nx⟩:=S
 unfold E8 at h
 cases m with
 | it=>
  refine ⟨fun W β a hI=> ?_⟩
  simp only at h
  split at h
  ·exact h.o W β a hI
  ·exact h.o W β a hI
  ·exact qr.step (fun b cs=>step_skip) (h.o W β a hI)
  ·exact qr.step (fun b cs=>step_label) (h.o W β a hI)
  ·exact qr.step (fun b cs=>step_inBlock) (h.o W β a hI)
  ·exact qr.step (fun b cs=>step_inScope) (h.o W β a hI)
  ·exact qr.step (fun b cs=>step_seq) (h.o W β a hI)
  ·rename_i c x y k
   split at h
   ·rename_i b hc
    have hb:=d7 hI.er hI.gl hc
    simp only [VR] at hb
    have:=h.o W β a hI
    exact qr.step (fun b' cs=>step_cond (by rw [hb])) (by cases b<;>exact this)
   ·rename_i b hc
    split at h
    ·rename_i t
     obtain ⟨b',h1,h2⟩:=h
     have hv:=h2 b hc
     subst hv
     exact h1.o W β a (hI.test hc)
    ·exact h.elim
   ·exact h.elim
  ·exact qr.step (fun b cs=>step_block) (h.o W β a hI)
  ·exact qr.step (fun b cs=>step_loop) (h.o W β a hI)
  ·exact qr.step (fun b cs=>step_inLoop) (h.o W β a hI)
  ·exact qr.step (fun b cs=>step_scope) (h.o W β a hI)
  ·split at h
   ·rename_i hx;exact qr.step (fun b cs=>step_exit hx) (h.o W β a hI)
   ·exact h.elim
  ·split at h
   ·rename_i hx;exact qr.step (fun b cs=>step_goto hx) (Fa (h.o W β a hI))
   ·exact h.elim
  ·exact qr.of_wp (wp_region (h.o W β a hI))
  ·exact h.o W β a hI
  ·exact h.elim
 | rg ops is=>
  refine ⟨fun W β a hI=> ?_⟩
  cases is with
  | nil=>exact ⟨rfl,h.o W β a hI⟩
  | cons i is=>
   simp only at h
   rw [wpOps_cons]
   split at h
   ·exact h.elim
   ·rename_i o ho
    split at h
    ·rename_i hw
     split at h
     ·rename_i f hf
      obtain ⟨g1,g2⟩:=h
      have hw':=(nG hI.er).1 hw
      obtain ⟨u,v,hx,hdst⟩:=DM (P:=Γ.P) (W:=W) (a:=a) hf
      unfold wpOp
      rw [ho]
      simp only [hw',if_true]
      refine .inl ?_
      unfold Oper.wp
      rw [hx]
      have hds:=hI.defs
      rw [g1] at hds
      have hds:a.defers=[]:=hds
      refine g2.o W β _ ⟨hI.hr,?_,hI.gl,?_,?_,hI.le,hI.nx,hI.ext,hI.keep⟩
      ·rw [hdst];exact hI.er
      ·rw [qb];exact hI.size
      ·rw [nH];exact ⟨u,v,by rw [hds]⟩
     obtain ⟨q1,q2⟩:=zN (P:=Γ.P) (Gl:=Γ.Gl) (o:=o) (E:=E) (new:=nx) (n:=4) (H:=H)
     have:=h.o ho (fun W β a hI=>(nG hI.er).1 hw) q1 q2 W β a hI
     rwa [wpOps_cons] at this
    ·rename_i hw
     cases hd:pU Γ.n o.dst with
     | false=>rw [hd] at h;exact h.elim
     | true=>
      rw [hd] at h
      have hw':=(nG hI.er).2 hw
      unfold wpOp
      rw [ho]
      simp only [hw']
      exact h.o W β _ (hI.put (v:= .c undef) rfl hd)
    ·rename_i t b hw
     obtain ⟨b',h1,h2⟩:=h
     unfold pg at hw
     split at hw
     ·cases hw
     ·split at hw
      ·cases hw
      ·split at hw
       ·rename_i c _;cases hq:c==_<;>rw [hq] at hw<;>cases hw
       ·cases hw
       ·rename_i c hl
        injection hw with e1 e2;subst e1;subst e2
        have:=h2 _ hl
        subst this
        have:=h1.o W β a (hI.test hl)
        rwa [wpOps_cons] at this
       ·cases hw
    ·exact h.elim
 | op ops i is o r=>
  refine ⟨fun ho hw hr hin W β a hI=> ?_⟩
  rw [wpOps_cons]
  cases r with
  | v v rd use mk=>
   simp only at h
   cases hd:pU Γ.n o.dst with
   | false=>rw [hd] at h;exact h.elim
   | true=>
    rw [hd] at h
    have gen:Ko use mk nx=nx+16→wpOp Γ.P ops (Qk Γ k) i (wpOps Γ.P ops (Qk Γ k) is) a W:=by
     intro hb
     obtain ⟨u,W',β',k1,k2,k3⟩:=hI.op (Ao.tri hr) hin
     refine qC _ ho (hw W β a hI) k1 ?_
     have:=h.o W' β' (a.put o.dst u)
     simp only [hb] at this
     exact this (k2.put k3 hd)
    cases use with
    | cons x l=>exact gen rfl
    | nil=>
     cases mk with
     | cons x l=>exact gen rfl
     | nil=>
      have hsub: ∀z,TL rd z→z∈H:=fun z hz=>(gn (hin z hz)).1
      have eT:TL H=TU (TL rd) (fun z=>z∈H∧z∉rd):=by
       funext z
       refine propext ⟨fun hz=> ?_,fun hz=>hz.elim (hsub z) And.left⟩
       by_cases hu:z∈rd
       ·exact .inl hu
       ·exact .inr ⟨hz,hu⟩
      have h0:=hI.hr
      rw [eT] at h0
      have eX:eI Γ.Y β (TL H)=eI (eI Γ.Y β (fun z=>z∈H∧z∉rd)) β (TL rd):=by rw [eT,o8]
      have hyd:Yd Γ.P Γ.Gl o E rd v:=hr
      obtain ⟨u,k1,k2⟩:=hyd (eI Γ.Y β (fun z=>z∈H∧z∉rd)) W β a (h0.part fun z h1 h2=>h2.2 h1) (by rw [←eX];exact hI.er) (by rw [←eX];exact hI.gl)
      rw [←eX] at k2
      refine qC _ ho (hw W β a hI) (.inl k1) ?_
      have:=h.o W β (a.put o.dst u)
      simp only [List.nil_append,DL] at this
      exact this (hI.put k2 hd)
  | nd b q=>
   obtain ⟨hb,h⟩:=h
   have:=h.o ho hw (hr hb) hin W β a hI
   rwa [wpOps_cons] at this
  | call f args=>
   simp only at h
   cases hd:pU Γ.n o.dst with
   | false=>rw [hd] at h;exact h.elim
   | true=>
    rw [hd] at h
    obtain ⟨us,k1,k2⟩:=hr _ W β a hI.er hI.gl
    have hc:=h W β a hI (uf hd) us k2
    unfold wpOp
    rw [ho]
    simp only [hw W β a hI,if_true]
    refine .inl ?_
    unfold Oper.wp
    rw [k1]
    refine Calls.mono hc ?_
    rintro e w2 ⟨v2,rfl,hv⟩
    exact hv
  | ts t b=>
   simp only at h
   obtain ⟨b',h1,h2⟩:=h
   have hl:tr E t=some (.c (.bool b)):=hr
   have:=h2 _ hl
   subst this
   have:=h1.o W β a (hI.test hl)
   rwa [wpOps_cons] at this
  | fz id=>exact h.elim
  | nq m neq=>
   simp only at h
   cases hd:pU Γ.n o.dst with
   | false=>rw [hd] at h;exact h.elim
   | true=>
    rw [hd] at h
    obtain ⟨h1,h2⟩:=h
    obtain ⟨b,k1,k2⟩:=hr _ W β a hI.er hI.gl
    refine qC _ ho (hw W β a hI) (.inl k1) ?_
    by_cases hb:b= !neq
    ·subst hb;exact (h1 (k2 rfl)).o W β (a.put o.dst (.bool !neq)) (hI.put rfl hd)
    ·have:b=neq:=by cases b<;>cases neq<;>simp_all
     subst this;exact h2.o W β (a.put o.dst (.bool b)) (hI.put rfl hd)
  | bad=>exact h.elim
theorem A7: ∀ {q:Nat} {S:St},E9 Γ (ID Γ.P Γ.Gl Γ.n q S)→G Γ S
 | 0,S,h=>h
 | q+1,S,h=>by
  unfold ID at h
  refine Fb ?_
  split at h
  ·rename_i S' hs
   rw [hs];exact A7 h
  ·exact h
end
end Go.Scr.A
namespace Go.Scr.A
section
variable {Y:eQ} {W:World} {β:Be} {H:List HE}
open Classical in
theorem HR.frzL (h:HR Y W β (TL H)) (i:Nat):HR Y W β (TL (qG H i))∧lH (eI Y β (TL H)) W β (eI Y β (TL (qG H i))) W β:=by
 have mem: ∀e',e'∈qG H i↔ ∃e∈H,(bif Nat.beq e.id i then e.frz else e)=e':=fun e'=>List.mem_map
 have sub: ∀e',TL (qG H i) e'→e'.fz=false→ ∃e,TL H e∧e.fz=false∧e.id=e'.id:=by
  intro e' h1 h2
  obtain ⟨e,h3,h4⟩:=(mem e').1 h1
  cases hb:Nat.beq e.id i with
  | true=>rw [hb] at h4;subst h4;cases h2
  | false=>rw [hb] at h4;subst h4;exact ⟨_,h3,h2,rfl⟩
 have p:lH (eI Y β (TL H)) W β (eI Y β (TL (qG H i))) W β:=nF sub
 refine ⟨?_,p⟩
 have nX: ∀e∈H,Nat.beq e.id i=true→ ∀g,ik β e.id=some g→¬ eI Y β (TL (qG H i)) g:=by
  intro e he hb g hg hX
  cases hfz:e.fz with
  | true=>exact HE.nX (h.ok e he) hfz hg (hX.imp (fun h=>h) (kU sub))
  | false=>
   rcases hX with hy | ⟨x,h1,h2,h3⟩
   ·exact h.out e he hfz g hg hy
   ·obtain ⟨x0,h4,h5⟩:=(mem x).1 h1
    cases hb2:Nat.beq x0.id i with
    | true=>rw [hb2] at h5;subst h5;cases h2
    | false=>
     rw [hb2] at h5;simp only [cond_false] at h5;subst h5
     exact h.sep e x0 he h4 (fun hh=>by rw [hh,hb2] at hb;cases hb) hfz g hg h3
 have ex: ∀e',TL (qG H i) e'→ ∃e∈H,(bif Nat.beq e.id i then e.frz else e)=e':=fun e' h=>(mem e').1 h
 refine h.weak (fun e'=>if h:TL (qG H i) e' then (ex e' h).choose else e') (fun e' he'=> ?_) fun x y hx hy hne=> ?_
 ·simp only [dif_pos he']
  obtain ⟨k1,k2⟩:=(ex e' he').choose_spec
  refine ⟨k1,?_,fun hf=> ?_,?_⟩
  ·conv=>rhs;rw [←k2]
   exact (E1 _ _).symm
  ·cases hb:Nat.beq (ex e' he').choose.id i with
   | true=>rw [hb] at k2;rw [←k2] at hf;cases hf
   | false=>rw [hb] at k2;rw [←k2] at hf;exact hf
  ·cases hb:Nat.beq (ex e' he').choose.id i with
   | true=>
    rw [hb] at k2
    rw [←k2]
    exact HE.ok_X (h.ok _ k1) p rfl rfl (.inr rfl) (fun _ h=>h) fun _ g hg=>nX _ k1 hb g hg
   | false=>
    rw [hb] at k2
    rw [←k2]
    exact HE.ok_X (h.ok _ k1) p rfl rfl (.inr rfl) (fun _ h=>h) fun hf g hg hX=>HE.nX (h.ok _ k1) hf hg (hX.imp (fun h=>h) (kU sub))
 ·simp only [dif_pos hx,dif_pos hy]
  intro he
  obtain ⟨k1,k2⟩:=(ex x hx).choose_spec
  obtain ⟨j1,j2⟩:=(ex y hy).choose_spec
  apply hne
  rw [←k2,←j2,he]
def oj (H:List HE):List Nat→List HE
 | []=>H
 | i::r=>oj (qG H i) r
theorem HR.frzA: ∀ {V:List Nat} {H:List HE},HR Y W β (TL H)→HR Y W β (TL (oj H V))∧lH (eI Y β (TL H)) W β (eI Y β (TL (oj H V))) W β
 | [],H,h=>⟨h,⟨fun b _ hx=>⟨rfl,hx⟩,fun _ _ h=>h⟩⟩
 | i::r,H,h=>by
  obtain ⟨h1,h2⟩:=h.frzL i
  obtain ⟨h3,h4⟩:=HR.frzA (V:=r) h1
  exact ⟨h3,⟨fun b hb hx=>⟨rfl,(h4.blk b hb (h2.blk b hb hx).2).2⟩,fun _ _ h=>h⟩⟩
def mi (β:Be) (d:Nat):Be:=fun j=>if d≤j∧j<d+16 then some ⟨none,0,0,0⟩ else β j
theorem Fc {d:Nat} (h: ∀j,d≤j→j<d+16→β j=none): ∀id bi,β id=some bi→mi β d id=some bi:=fun id bi hh=>by
 unfold mi
 rw [if_neg]
 ·exact hh
 ·rintro ⟨h1,h2⟩;rw [h id h1 h2] at hh;cases hh
theorem Fe (β:Be) (d:Nat) {i:Nat} (h:i<16):mi β d (d+i)=some ⟨none,0,0,0⟩:=by
 unfold mi;rw [if_pos ⟨by omega,by omega⟩]
theorem wH {d:Nat} (h: ∀j,d≤j→j<d+16→β j=none) (i:Nat):ik (mi β d) i=ik β i:=by
 unfold ik mi
 split
 ·rename_i hh;rw [h i hh.1 hh.2];rfl
 ·rfl
theorem HR.ex {d:Nat} (h:HR Y W β (TL H)) (hd: ∀j,d≤j→j<d+16→β j=none):HR Y W (mi β d) (TL H)∧lH (eI Y β (TL H)) W β (eI Y (mi β d) (TL H)) W (mi β d):=by
 have eX:eI Y (mi β d) (TL H)=eI Y β (TL H):=by
  funext g;unfold eI fI
  simp only [wH hd]
 have p:lH (eI Y β (TL H)) W β (eI Y (mi β d) (TL H)) W (mi β d):=⟨fun b _ hx=>⟨rfl,by rw [eX];exact hx⟩,Fc hd⟩
 refine ⟨⟨fun e he=>HE.ok_pers (h.ok e he) p fun g hg=>⟨rfl,fun hf=>by rw [eX];exact HE.nX (h.ok e he) hf hg⟩,fun e e' h1 h2 hne hf g hg=> ?_,fun e h1 hf g hg=> ?_,h.ylt⟩,p⟩
 ·rw [wH hd] at hg ⊢;exact h.sep e e' h1 h2 hne hf g hg
 ·rw [wH hd] at hg;exact h.out e h1 hf g hg
def ut:AV→Bool
 | .c (.slice none 0 0)=>true
 | .row .nil true=>true
 | _=>false
theorem DN {X:eQ} {v:AV} {u:Value} (h:ut v=true) (hv:VR X W β v u): ∃A,u= .slice A 0 0:=by
 unfold ut at h
 split at h
 ·cases hv;exact ⟨_,rfl⟩
 ·obtain ⟨A,n,c,cs,h1,h2,h3,h4,h5,h6⟩:=hv
  cases h2
  simp only [List.length_nil] at h3
  subst h3
  rw [h5 rfl] at h1
  exact ⟨A,h1⟩
 ·cases h
mutual
def pO (H:List HE) (d:Nat):AV→AV→AV
 | .c _,a=>match a with
  | .t b=> .c (.bool b)
  | a=>a
 | .row xt ft,a=>match LJ H a with
  | .ok (.row x f) _=> .row (oN H d xt x) (ft&&f)
  | _=>a
 | .own i none ft,a=>bif ut a&&Nat.blt i 16 then .own (d+i) none ft else match a with
  | .own id none f=> .own id none (ft&&f)
  | a=>a
 | .obj xt _ _,a=>match a with
  | .ptr id off ext=>match fd H id with
   | some e=>bif e.fz then .obj (oN H d xt e.x) off ext else a
   | none=>a
  | .obj x off ext=> .obj (oN H d xt x) off ext
  | a=>a
 | .agg xt _,a=>match a with
  | .agg x n=> .agg (oN H d xt x) n
  | a=>a
 | .tup xt,a=>match a with
  | .tup x=> .tup (oN H d xt x)
  | a=>a
 | .fn _ xt,a=>match a with
  | .fn f x=> .fn f (oN H d xt x)
  | a=>a
 | .fs _ _,a=>match a with
  | .fn f x=>bif x.cl then .fs f x else a
  | a=>a
 | .any,a=>bif tv a then .any else a
 | .op _ xt n,a=>match a with
  | .c (.pointer none)=> .op false .nil n
  | .obj x none m=>bif Nat.beq n m&&(oN H d xt x).cl then .op true (oN H d xt x) n else a
  | a=>a
 | _,a=>a
def oN (H:List HE) (d:Nat):Ct→Ct→Ct
 | .cons t r,x=>match x with
  | .cons a s=> .cons (pO H d t a) (oN H d r s)
  | x=>x
 | .R k _,x=>match x.toL with
  | some l=>match Km H l with
   | .ok l' _=>match qT k l' with
    | some xs=> .R k xs
    | none=>x
   | .fz _=>x
  | none=>x
 | .T k _,x=>match x.toL with
  | some l=>match Km H l with
   | .ok l' _=>match uh k l' with
    | some xs=> .T k xs
    | none=>x
   | .fz _=>x
  | none=>x
 | .N k _,x=>match x.toL with
  | some l=>match ug k l with
   | some xs=> .N k xs
   | none=>x
  | none=>x
 | .B _,x=>match x.toL with
  | some l=>match qs l with
   | some xs=> .B xs
   | none=>x
  | none=>x
 | _,x=>x
end
theorem Ff {X:eQ} {x:Ct} {f ft:Bool} {u:Value} (h:VR X W β (.row x f) u):VR X W β (.row x (ft&&f)) u:=by
 obtain ⟨A,n,c,cs,h1,h2,h3,h4,h5,h6⟩:=h
 exact ⟨A,n,c,cs,h1,h2,h3,h4,fun hh=>h5 (Bool.and_eq_true _ _▸hh).2,h6⟩
mutual
theorem tJ {d:Nat} (hH:HR Y W β (TL H)) (hd: ∀i,i<16→β (d+i)=some ⟨none,0,0,0⟩): ∀(t:AV) {a:AV} {u:Value},VR (eI Y β (TL H)) W β a u→VR (eI Y β (TL H)) W β (pO H d t a) u
 | .c v,a,u,h=>by
  unfold pO
  split
  ·cases h;rfl
  ·exact h
 | .row xt ft,a,u,h=>by
  unfold pO
  split
  ·rename_i x f rd hf
   obtain ⟨A,n,c,cs,h1,h2,h3,h4,h5,h6⟩:=Ff (ft:=ft) (zJ hf hH (fun e he=>(gn (zL hf e he)).1) h)
   exact ⟨A,n,c,cs,h1,nr hH hd xt h2,h3,h4,h5,h6⟩
  ·exact h
 | .own i none ft,a,u,h=>by
  unfold pO
  cases hn:ut a&&Nat.blt i 16 with
  | true=>
   rw [Bool.and_eq_true] at hn
   obtain ⟨A,rfl⟩:=DN hn.1 h
   have:=hd i (Nat.le_of_ble_eq_true hn.2)
   exact ⟨A,0,_,rfl,this,rfl,fun _=>rfl,fun h=>by omega⟩
  | false=>
   simp only [cond_false]
   split
   ·obtain ⟨A,c,bi,k1,k2,k3,k4,k5⟩:=h
    exact ⟨A,c,bi,k1,k2,k3,fun hh=>k4 (Bool.and_eq_true _ _▸hh).2,k5⟩
   ·exact h
 | .own i (some p) ft,a,u,h=>by unfold pO;exact h
 | .obj xt off ext,a,u,h=>by
  unfold pO
  split
  ·rename_i id off' ext'
   split
   ·rename_i e he
    cases hf:e.fz with
    | false=>exact h
    | true=>
     obtain ⟨g,bi,k1,k2,k3,k4⟩:=h
     have hm:=(gn he)
     have hok:=hH.ok e hm.1
     obtain ⟨cs,q1,q2,q3⟩:=HE.fzc hok hf (bi:=bi) (by rw [hm.2];exact k2)
     refine ⟨g,bi.o,cs,k1,nr hH hd xt q1,by omega,fun j v hj=> ?_⟩
     have hlt:=(List.getElem?_eq_some_iff.1 hj).1
     have hle:bi.n≤bi.cap:=by obtain ⟨bi',_,j1,_,_,j4,_⟩:=hok;rw [hm.2,k2] at j1;injection j1 with j1;subst j1;exact j4
     obtain ⟨g',r1,r2⟩:=q3 (by omega)
     rw [k3] at r1;injection r1 with r1;subst r1
     obtain ⟨r3,r4⟩:=r2 j v hj
     exact ⟨_,rfl,by rw [jI];exact r3,r4⟩
   ·exact h
  ·obtain ⟨g,o,cs,k1,k2,k3,k4⟩:=h
   exact ⟨g,o,cs,k1,nr hH hd xt k2,k3,k4⟩
  ·exact h
 | .agg xt n,a,u,h=>by
  unfold pO
  split
  ·obtain ⟨cs,k1,k2,k3⟩:=h
   exact ⟨cs,k1,nr hH hd xt k2,k3⟩
  ·exact h
 | .tup xt,a,u,h=>by
  unfold pO
  split
  ·obtain ⟨cs,k1,k2⟩:=h
   exact ⟨cs,k1,nr hH hd xt k2⟩
  ·exact h
 | .fn f xt,a,u,h=>by
  unfold pO
  split
  ·obtain ⟨cs,k1,k2⟩:=h
   exact ⟨cs,k1,nr hH hd xt k2⟩
  ·exact h
 | .fs f xt,a,u,h=>by
  unfold pO
  split
  ·rename_i f' x
   cases hc:x.cl with
   | false=>exact h
   | true=>
    obtain ⟨cs,k1,k2⟩:=h
    exact ⟨cs,k1,k2,hc⟩
  ·exact h
 | .any,a,u,h=>by
  unfold pO
  cases hc:tv a with
  | false=>exact h
  | true=>exact pa hc h
 | .op bt xt n,a,u,h=>by
  unfold pO
  split
  ·exact h
  ·rename_i x m
   cases hc:Nat.beq n m&&(oN H d xt x).cl with
   | false=>exact h
   | true=>
    rw [Bool.and_eq_true] at hc
    have hn:=Nat.eq_of_beq_eq_true hc.1
    subst hn
    obtain ⟨g,o,cs,k1,k2,k3,k4⟩:=h
    exact ⟨⟨g,o,cs,k1,nr hH hd xt k2,k3,k4⟩,hc.2⟩
  ·exact h
 | .t b,a,u,h=>by unfold pO;exact h
 | .ptr ..,a,u,h=>by unfold pO;exact h
theorem nr {d:Nat} (hH:HR Y W β (TL H)) (hd: ∀i,i<16→β (d+i)=some ⟨none,0,0,0⟩): ∀(t:Ct) {x:Ct} {cs:List Value},CR (eI Y β (TL H)) W β x cs→CR (eI Y β (TL H)) W β (oN H d t x) cs
 | .cons t r,x,cs,h=>by
  unfold oN
  split
  ·obtain ⟨v,cs',k1,k2,k3⟩:=h
   exact ⟨v,cs',k1,tJ hH hd t k2,nr hH hd r k3⟩
  ·exact h
 | .R k _,x,cs,h=>by
  unfold oN
  split
  ·rename_i l hl
   split
   ·rename_i l' rd hf
    split
    ·rename_i xs hx
     exact vm (wA (h.toL hl) hf hH fun e he=>(gn (wF hf e he)).1) hx
    ·exact h
   ·exact h
  ·exact h
 | .T k _,x,cs,h=>by
  unfold oN
  split
  ·rename_i l hl
   split
   ·rename_i l' rd hf
    split
    ·rename_i xs hx
     exact ya (wA (h.toL hl) hf hH fun e he=>(gn (wF hf e he)).1) hx
    ·exact h
   ·exact h
  ·exact h
 | .N k _,x,cs,h=>by
  unfold oN
  split
  ·rename_i l hl
   split
   ·rename_i xs hx
    have:=vj (h.toL hl) hx
    exact this
   ·exact h
  ·exact h
 | .B _,x,cs,h=>by
  unfold oN
  split
  ·rename_i l hl
   split
   ·rename_i xs hx
    have:=ui (h.toL hl) hx
    exact this
   ·exact h
  ·exact h
 | .S _,x,cs,h=>by unfold oN;exact h
 | .nil,x,cs,h=>by unfold oN;exact h
end
end
end Go.Scr.A
namespace Go.Scr.A
section
variable {Y:eQ} {W:World} {β:Be} {H:List HE}
def HE.ren (ρ:Nat→Nat) (e:HE):HE:= {e with id:=ρ e.id,x:=e.x.ren ρ}
theorem HE.ren_ok {X:eQ} {ρ:Nat→Nat} {e:HE}:(e.ren ρ).ok X W β↔e.ok X W (fun i=>β (ρ i)):=by
 unfold HE.ok HE.ren
 simp only [CR.ren]
theorem li {ρ:Nat→Nat} {fH:List HE}:fI β (TL (fH.map (HE.ren ρ)))=fI (fun i=>β (ρ i)) (TL fH):=by
 funext g
 refine propext ⟨?_,?_⟩
 ·rintro ⟨e,h1,h2,h3⟩
  obtain ⟨t,k1,k2⟩:=List.mem_map.1 h1
  subst k2
  exact ⟨t,k1,h2,h3⟩
 ·rintro ⟨t,h1,h2,h3⟩
  exact ⟨t.ren ρ,List.mem_map.2 ⟨t,h1,rfl⟩,h2,h3⟩
theorem HR.ren {ρ:Nat→Nat} {fH:List HE} (hi: ∀t t',t∈fH→t'∈fH→t≠t'→ρ t.id≠ρ t'.id):HR Y W β (TL (fH.map (HE.ren ρ)))↔HR Y W (fun i=>β (ρ i)) (TL fH):=by
 have eX:eI Y β (TL (fH.map (HE.ren ρ)))=eI Y (fun i=>β (ρ i)) (TL fH):=by unfold eI;rw [li]
 refine ⟨fun h=>⟨fun t ht=> ?_,fun t t' h1 h2 hne hf g hg=> ?_,fun t h1 hf g hg=> ?_,h.ylt⟩,fun h=>⟨fun e he=> ?_,fun e e' h1 h2 hne hf g hg=> ?_,fun e h1 hf g hg=> ?_,h.ylt⟩⟩
 ·rw [←eX];exact HE.ren_ok.1 (h.ok _ (List.mem_map.2 ⟨t,ht,rfl⟩))
 ·exact h.sep (t.ren ρ) (t'.ren ρ) (List.mem_map.2 ⟨t,h1,rfl⟩) (List.mem_map.2 ⟨t',h2,rfl⟩) (fun he=>hi t t' h1 h2 hne (congrArg HE.id he)) hf g hg
 ·exact h.out (t.ren ρ) (List.mem_map.2 ⟨t,h1,rfl⟩) hf g hg
 ·obtain ⟨t,k1,rfl⟩:=List.mem_map.1 he
  rw [eX];exact HE.ren_ok.2 (h.ok t k1)
 ·obtain ⟨t,k1,rfl⟩:=List.mem_map.1 h1
  obtain ⟨t',k2,rfl⟩:=List.mem_map.1 h2
  exact h.sep t t' k1 k2 (fun he=>hne (by rw [he])) hf g hg
 ·obtain ⟨t,k1,rfl⟩:=List.mem_map.1 h1
  exact h.out t k1 hf g hg
def oq (H:List HE) (ρ:Nat→Nat):List HE→List HE
 | []=>[]
 | t::r=>match fd H (ρ t.id) with
  | some _=>oq H ρ r
  | none=>⟨ρ t.id,false,t.ty,0,.nil⟩::oq H ρ r
theorem qU {ρ:Nat→Nat} {e:HE}: ∀ {fH:List HE},e∈oq H ρ fH→e.fz=false∧e.w=0∧e.x= .nil
 | [],h=>by cases h
 | t::r,h=>by
  unfold oq at h
  split at h
  ·exact qU h
  ·rcases List.mem_cons.1 h with rfl | h
   ·exact ⟨rfl,rfl,rfl⟩
   ·exact qU h
theorem HR.blank {B:List HE} (h:HR Y W β (TL H)) (hB: ∀e∈B,e.fz=false∧e.w=0∧e.x= .nil∧β e.id=some ⟨none,0,0,0⟩):HR Y W β (TL (B++H))∧eI Y β (TL (B++H))=eI Y β (TL H):=by
 have bn: ∀e∈B,ik β e.id=none:=fun e he=>by unfold ik;rw [(hB e he).2.2.2];rfl
 have eX:eI Y β (TL (B++H))=eI Y β (TL H):=by
  funext g
  refine propext ⟨?_,?_⟩
  ·rintro (hy | ⟨e,h1,h2,h3⟩)
   ·exact .inl hy
   ·rcases List.mem_append.1 h1 with h1 | h1
    ·rw [bn e h1] at h3;cases h3
    ·exact .inr ⟨e,h1,h2,h3⟩
  ·rintro (hy | ⟨e,h1,h2,h3⟩)
   ·exact .inl hy
   ·exact .inr ⟨e,List.mem_append_right _ h1,h2,h3⟩
 refine ⟨⟨fun e he=> ?_,fun e e' h1 h2 hne hf g hg hg'=> ?_,fun e h1 hf g hg=> ?_,h.ylt⟩,eX⟩
 ·rw [eX]
  rcases List.mem_append.1 he with he | he
  ·obtain ⟨k1,k2,k3,k4⟩:=hB e he
   exact ⟨_,[],k4,by rw [k3];rfl,rfl,Nat.le_refl _,Nat.zero_le _,.inl k2,rfl⟩
  ·exact h.ok e he
 ·rcases List.mem_append.1 h1 with h1 | h1
  ·rw [bn e h1] at hg;cases hg
  ·rcases List.mem_append.1 h2 with h2 | h2
   ·rw [bn e' h2] at hg';cases hg'
   ·exact h.sep e e' h1 h2 hne hf g hg hg'
 ·rcases List.mem_append.1 h1 with h1 | h1
  ·rw [bn e h1] at hg;cases hg
  ·exact h.out e h1 hf g hg
def DO (H:List HE) (d:Nat) (ρ:Nat→Nat) (t:HE):HE:=match fd H (ρ t.id) with
 | some e=>⟨ρ t.id,e.fz,e.ty,(match t.w with | 0=>0 | _+1=>e.w),oN H d t.x e.x⟩
 | none=>t
def lI (ids:List Nat) (H:List HE):List HE:=H.filter fun e=> !(ids.any fun i=>Nat.beq i e.id)
theorem jR {f:HE→Nat}: ∀ {l:List HE},oI (l.map f)=true→ ∀x y,x∈l→y∈l→x≠y→f x≠f y
 | [],_,x,y,hx,_,_=>by cases hx
 | a::r,h,x,y,hx,hy,hne=>by
  rw [List.map_cons] at h
  unfold oI at h
  cases hany:(r.map f).any (fun j=>Nat.beq (f a) j) with
  | true=>rw [hany] at h;cases h
  | false=>
   rw [hany] at h
   have out: ∀z∈r,f a≠f z:=fun z hz he=>by
    have:(r.map f).any (fun j=>Nat.beq (f a) j)=true:=List.any_eq_true.2 ⟨f z,List.mem_map.2 ⟨z,hz,rfl⟩,by rw [he];exact Nat.beq_refl _⟩
    rw [hany] at this;cases this
   rcases List.mem_cons.1 hx with e1 | k1<;>rcases List.mem_cons.1 hy with e2 | k2
   ·exact absurd (e1.trans e2.symm) hne
   ·rw [e1];exact out y k2
   ·rw [e2];exact fun he=>out x k1 he.symm
   ·exact jR h x y k1 k2 hne
theorem uw {ids:List Nat} {e:HE}:e∈lI ids H↔e∈H∧e.id∉ids:=by
 unfold lI
 rw [List.mem_filter]
 refine and_congr Iff.rfl ⟨fun h hm=> ?_,fun h=> ?_⟩
 ·have:(ids.any fun i=>Nat.beq i e.id)=true:=List.any_eq_true.2 ⟨_,hm,Nat.beq_refl _⟩
  rw [this] at h;cases h
 ·cases hq:ids.any fun i=>Nat.beq i e.id with
  | false=>rfl
  | true=>
   obtain ⟨i,h1,h2⟩:=List.any_eq_true.1 hq
   exact absurd (by rw [←Nat.eq_of_beq_eq_true h2];exact h1) h
open Classical in
theorem ry {d:Nat} {ρ:Nat→Nat} {fH:List HE} (h:HR Y W β (TL H)) (hd: ∀i,i<16→β (d+i)=some ⟨none,0,0,0⟩) (h1:fH.map (DO H d ρ)=fH.map (HE.ren ρ)) (h2:fH.all (fun t=>(fd H (ρ t.id)).isSome)=true) (h3:oI (fH.map fun t=>ρ t.id)=true) (keep:Bool):
 HR Y W β (TL (fH.map (HE.ren ρ)++bif keep then lI (fH.map fun t=>ρ t.id) H else []))∧lH (eI Y β (TL H)) W β (eI Y β (TL (fH.map (HE.ren ρ)++bif keep then lI (fH.map fun t=>ρ t.id) H else []))) W β:=by
 have inj:=jR h3
 have R: ∀e,e∈(bif keep then lI (fH.map fun t=>ρ t.id) H else [])→e∈H∧e.id∉fH.map fun t=>ρ t.id:=fun e he=>by
  cases keep with
  | true=>exact uw.1 he
  | false=>cases he
 have src: ∀t∈fH,∃e,fd H (ρ t.id)=some e∧t.ren ρ=⟨ρ t.id,e.fz,e.ty,(match t.w with | 0=>0 | _+1=>e.w),oN H d t.x e.x⟩:=fun t ht=>by
  have:=List.all_eq_true.1 h2 t ht
  obtain ⟨e,he⟩:=Option.isSome_iff_exists.1 this
  refine ⟨e,he,?_⟩
  have:DO H d ρ t=t.ren ρ:=by
   obtain ⟨i,hi,rfl⟩:=List.getElem_of_mem ht
   have:=congrArg (fun l=>l[i]?) h1
   simpa [hi] using this
  rw [←this];unfold DO;rw [he]
 have sub: ∀e',TL (fH.map (HE.ren ρ)++bif keep then lI (fH.map fun t=>ρ t.id) H else []) e'→e'.fz=false→ ∃e,TL H e∧e.fz=false∧e.id=e'.id:=by
  intro e' k1 k2
  rcases List.mem_append.1 k1 with k1 | k1
  ·obtain ⟨t,k3,rfl⟩:=List.mem_map.1 k1
   obtain ⟨e,k4,k5⟩:=src t k3
   have k6:=gn k4
   rw [k5] at k2
   exact ⟨e,k6.1,k2,k6.2⟩
  ·exact ⟨e',(R e' k1).1,k2,rfl⟩
 have p:lH (eI Y β (TL H)) W β (eI Y β (TL (fH.map (HE.ren ρ)++bif keep then lI (fH.map fun t=>ρ t.id) H else []))) W β:=nF sub
 refine ⟨?_,p⟩
 refine h.weak (fun e'=>if e'.id∈fH.map (fun t=>ρ t.id) then (fd H e'.id).getD e' else e') (fun e' he'=> ?_) fun x y hx hy hne=> ?_
 ·rcases List.mem_append.1 he' with k1 | k1
  ·obtain ⟨t,k3,rfl⟩:=List.mem_map.1 k1
   obtain ⟨e,k4,k5⟩:=src t k3
   have k6:=gn k4
   have hin:(t.ren ρ).id∈fH.map (fun t=>ρ t.id):=List.mem_map.2 ⟨t,k3,rfl⟩
   have s:(if (t.ren ρ).id∈fH.map (fun t=>ρ t.id) then (fd H (t.ren ρ).id).getD (t.ren ρ) else t.ren ρ)=e:=by
    rw [if_pos hin]
    show (fd H (ρ t.id)).getD _=e
    rw [k4];rfl
   simp only [s]
   refine ⟨k6.1,k6.2,fun hf=>by rw [k5] at hf;exact hf,?_⟩
   rw [k5]
   refine HE.ok_X (h.ok e k6.1) p k6.2.symm rfl ?_ (fun cs hc=>nr h hd t.x hc) fun hf g hg hX=>HE.nX (h.ok e k6.1) hf hg (hX.imp (fun h=>h) (kU sub))
   cases t.w with
   | zero=>exact .inl rfl
   | succ n=>exact .inr rfl
  ·obtain ⟨k2,k3⟩:=R e' k1
   simp only [if_neg k3]
   exact ⟨k2,trivial,fun h=>h,HE.ok_X (h.ok e' k2) p rfl rfl (.inr rfl) (fun _ h=>h) fun hf g hg hX=>HE.nX (h.ok e' k2) hf hg (hX.imp (fun h=>h) (kU sub))⟩
 ·have cl: ∀z,TL (fH.map (HE.ren ρ)++bif keep then lI (fH.map fun t=>ρ t.id) H else []) z→(∃t∈fH,z=t.ren ρ∧z.id∈fH.map (fun t=>ρ t.id)∧ ∃e,fd H z.id=some e∧e.id=z.id)∨(z.id∉fH.map (fun t=>ρ t.id)):=fun z hz=>by
   rcases List.mem_append.1 hz with k1 | k1
   ·obtain ⟨t,k3,rfl⟩:=List.mem_map.1 k1
    obtain ⟨e,k4,_⟩:=src t k3
    exact .inl ⟨t,k3,rfl,List.mem_map.2 ⟨t,k3,rfl⟩,e,k4,(gn k4).2⟩
   ·exact .inr (R z k1).2
  rcases cl x hx with ⟨t,a1,a2,a3,e,a4,a5⟩ | a1<;>rcases cl y hy with ⟨t',b1,b2,b3,e',b4,b5⟩ | b1
  ·simp only [if_pos a3,if_pos b3,a4,b4,Option.getD_some]
   intro he
   have:x.id=y.id:=by rw [←a5,←b5,he]
   by_cases htt:t=t'
   ·exact hne (by rw [a2,b2,htt])
   ·exact inj t t' a1 b1 htt (by rw [a2,b2] at this;exact this)
  ·simp only [if_pos a3,if_neg b1,a4,Option.getD_some]
   intro he
   exact b1 (by rw [←he,a5];exact a3)
  ·simp only [if_neg a1,if_pos b3,b4,Option.getD_some]
   intro he
   exact a1 (by rw [he,b5];exact b3)
  ·simp only [if_neg a1,if_neg b1];exact hne
end
end Go.Scr.A
