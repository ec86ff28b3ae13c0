/- The abstract machine and what it says of the memory. -/
import Derived.Test.YtdemmfohkhpklaaGreatDoorXb
set_option linter.unusedVariables false
set_option linter.unusedSimpArgs false
namespace Go.Scr.A
mutual
inductive AV where
 | c (v:Value)
 | t (b:Bool)
 | row (x:Ct) (f:Bool)
 | own (id:Nat) (p:Option (Nat×Nat)) (f:Bool)
 | ptr (id:Nat) (off:Option Nat) (ext:Nat)
 | obj (x:Ct) (off:Option Nat) (ext:Nat)
 | agg (x:Ct) (n:Nat)
 | tup (x:Ct)
 | fn (f:FuncId) (x:Ct)
 | fs (f:FuncId) (x:Ct)
 | any
 | op (b:Bool) (x:Ct) (n:Nat)
inductive Ct where
 | N (k:IntKind) (xs:List Int)
 | B (xs:List Bool)
 | S (xs:List ByteArray)
 | R (k:IntKind) (xss:List (List Int))
 | T (k:IntKind) (xss:List (List (List Int)))
 | nil
 | cons (a:AV) (r:Ct)
end
mutual
def AV.cl:AV→Bool
 | .c _=>true
 | .t _=>true
 | .row x _=>x.cl
 | .own .. =>false
 | .ptr .. =>false
 | .obj x _ _=>x.cl
 | .agg x _=>x.cl
 | .tup x=>x.cl
 | .fn _ x=>x.cl
 | .fs .. =>true
 | .any=>true
 | .op .. =>true
def Ct.cl:Ct→Bool
 | .cons a r=>a.cl&&r.cl
 | _=>true
end
structure BI where
 b:Option Nat
 n:Nat
 cap:Nat
 o:Nat
abbrev Be:=Nat→Option BI
abbrev eQ:=Nat→Prop
def Ct.len:Ct→Nat
 | .N _ xs=>xs.length
 | .B xs=>xs.length
 | .S xs=>xs.length
 | .R _ xs=>xs.length
 | .T _ xs=>xs.length
 | .nil=>0
 | .cons _ r=>r.len+1
def Fz (X:eQ) (W:World) (A:Option Addr) (cs:List Value):Prop:= ∀(j:Nat) (v:Value),cs[j]? =some v→ ∃a,A=some a∧W.cell? (a.add j)=some v∧¬ X a.block
def qJ (xs:List ByteArray):List Value:=xs.map .string
def Em (X:eQ) (W:World) (k:IntKind) (xs:List Int) (u:Value):Prop:= ∃A c,u= .slice A xs.length c∧xs.length≤c∧Fz X W A (nums k xs)
def Eu (X:eQ) (W:World) (k:IntKind) (xs:List (List Int)) (u:Value):Prop:= ∃A c,u= .slice A xs.length c∧xs.length≤c∧ ∃us:List Value,us.length=xs.length∧(∀(j:Nat) (ys:List Int) (w:Value),xs[j]? =some ys→us[j]? =some w→Em X W k ys w)∧Fz X W A us
mutual
def VR (X:eQ) (W:World) (β:Be):AV→Value→Prop
 | .c v,u=>u=v
 | .t b,u=>u= .bool b
 | .row x f,u=> ∃A n c cs,u= .slice A n c∧CR X W β x cs∧cs.length=n∧n≤c∧(f=true→c=n)∧Fz X W A cs
 | .own id none f,u=> ∃A c bi,u= .slice A bi.n c∧β id=some bi∧c=bi.cap∧(f=true→c=bi.n)∧(0<c→A=bi.b.map fun g=>⟨g,bi.o,none⟩)
 | .own id (some (lo,hi)) f,u=> ∃A c bi,u= .slice A (hi-lo) c∧β id=some bi∧lo≤hi∧hi≤bi.n∧hi-lo≤c∧(f=true→c=hi-lo)∧(f=false→c=bi.cap-lo)∧(0<c→A=bi.b.map fun g=>⟨g,bi.o+lo,none⟩)
 | .ptr id off ext,u=> ∃g bi,u= .pointer (some ⟨g,bi.o+off.getD 0,none⟩)∧β id=some bi∧bi.b=some g∧off.getD 0+ext≤bi.n
 | .obj x off ext,u=> ∃g o cs,u= .pointer (some ⟨g,o+off.getD 0,none⟩)∧CR X W β x cs∧off.getD 0+ext≤cs.length∧Fz X W (some ⟨g,o,none⟩) cs
 | .agg x n,u=> ∃cs,u= .agg cs.toArray∧CR X W β x cs∧cs.length=n
 | .tup x,u=> ∃cs,u= .tuple cs.toArray∧CR X W β x cs
 | .fn f x,u=> ∃cs,u= .func (.func f) cs.toArray #[]∧CR X W β x cs
 | .fs f x,u=> ∃cs,u= .func (.func f) cs.toArray #[]∧CR X W β x cs∧x.cl=true
 | .any,u=>pV u=true
 | .op false _ _,u=>u= .pointer none
 | .op true x n,u=>(∃g o cs,u= .pointer (some ⟨g,o+(none:Option Nat).getD 0,none⟩)∧CR X W β x cs∧(none:Option Nat).getD 0+n≤cs.length∧Fz X W (some ⟨g,o,none⟩) cs)∧x.cl=true
def CR (X:eQ) (W:World) (β:Be):Ct→List Value→Prop
 | .N k xs,cs=>cs=nums k xs
 | .B xs,cs=>cs=ly xs
 | .S xs,cs=>cs=qJ xs
 | .R k xss,cs=>cs.length=xss.length∧ ∀(j:Nat) (xs:List Int) (u:Value),xss[j]? =some xs→cs[j]? =some u→Em X W k xs u
 | .T k xss,cs=>cs.length=xss.length∧ ∀(j:Nat) (xs:List (List Int)) (u:Value),xss[j]? =some xs→cs[j]? =some u→Eu X W k xs u
 | .nil,cs=>cs=[]
 | .cons a r,cs=> ∃v cs',cs=v::cs'∧VR X W β a v∧CR X W β r cs'
end
structure lH (X:eQ) (W:World) (β:Be) (X':eQ) (W':World) (β':Be):Prop where
 blk: ∀b,b<W.heap.size→¬ X b→W'.heap[b]? =W.heap[b]? ∧¬ X' b
 be: ∀id bi,β id=some bi→β' id=some bi
section
variable {X X':eQ} {W W':World} {β β':Be}
theorem H3 {a:Addr} {v:Value} (h:W.cell? a=some v):a.block<W.heap.size:=World.block_lt_of_cell? W _ h
theorem Fz.pers (p:lH X W β X' W' β') {A:Option Addr} {cs:List Value} (h:Fz X W A cs):Fz X' W' A cs:=by
 intro j v hj
 obtain ⟨a,h1,h2,h3⟩:=h j v hj
 have hb:(a.add j).block=a.block:=by unfold Addr.add;split<;>rfl
 have:=p.blk a.block (by rw [←hb];exact H3 h2) h3
 exact ⟨a,h1,(World.cell?_of_block (by rw [hb];exact this.1)).trans h2,this.2⟩
theorem Em.pers (p:lH X W β X' W' β') {k:IntKind} {xs:List Int} {u:Value} (h:Em X W k xs u):Em X' W' k xs u:=by
 obtain ⟨A,c,h1,h2,h3⟩:=h
 exact ⟨A,c,h1,h2,h3.pers p⟩
theorem Eu.pers (p:lH X W β X' W' β') {k:IntKind} {xs:List (List Int)} {u:Value} (h:Eu X W k xs u):Eu X' W' k xs u:=by
 obtain ⟨A,c,h1,h2,us,h3,h4,h5⟩:=h
 exact ⟨A,c,h1,h2,us,h3,fun j ys w a b=>(h4 j ys w a b).pers p,h5.pers p⟩
mutual
theorem VR.pers (p:lH X W β X' W' β'): ∀ {a:AV} {u:Value},VR X W β a u→VR X' W' β' a u
 | .c v,u,h=>h
 | .t b,u,h=>h
 | .row x f,u,h=>by
  obtain ⟨A,n,c,cs,h1,h2,h3,h4,h5,h6⟩:=h
  exact ⟨A,n,c,cs,h1,CR.pers p h2,h3,h4,h5,h6.pers p⟩
 | .own id none f,u,h=>by
  obtain ⟨A,c,bi,h1,h2,h3⟩:=h
  exact ⟨A,c,bi,h1,p.be _ _ h2,h3⟩
 | .own id (some (lo,hi)) f,u,h=>by
  obtain ⟨A,c,bi,h1,h2,h3⟩:=h
  exact ⟨A,c,bi,h1,p.be _ _ h2,h3⟩
 | .ptr id off ext,u,h=>by
  obtain ⟨g,bi,h1,h2,h3⟩:=h
  exact ⟨g,bi,h1,p.be _ _ h2,h3⟩
 | .obj x off ext,u,h=>by
  obtain ⟨g,o,cs,h1,h2,h3,h4⟩:=h
  exact ⟨g,o,cs,h1,CR.pers p h2,h3,h4.pers p⟩
 | .agg x n,u,h=>by obtain ⟨cs,h1,h2,h3⟩:=h;exact ⟨cs,h1,CR.pers p h2,h3⟩
 | .tup x,u,h=>by obtain ⟨cs,h1,h2⟩:=h;exact ⟨cs,h1,CR.pers p h2⟩
 | .fn f x,u,h=>by obtain ⟨cs,h1,h2⟩:=h;exact ⟨cs,h1,CR.pers p h2⟩
 | .fs f x,u,h=>by obtain ⟨cs,h1,h2,h3⟩:=h;exact ⟨cs,h1,CR.pers p h2,h3⟩
 | .any,u,h=>h
 | .op false _ _,u,h=>h
 | .op true x n,u,h=>by
  obtain ⟨⟨g,o,cs,h1,h2,h3,h4⟩,h5⟩:=h
  exact ⟨⟨g,o,cs,h1,CR.pers p h2,h3,h4.pers p⟩,h5⟩
theorem CR.pers (p:lH X W β X' W' β'): ∀ {x:Ct} {cs:List Value},CR X W β x cs→CR X' W' β' x cs
 | .N k xs,cs,h=>h
 | .B xs,cs,h=>h
 | .S xs,cs,h=>h
 | .R k xss,cs,h=>⟨h.1,fun j xs u h1 h2=>(h.2 j xs u h1 h2).pers p⟩
 | .T k xss,cs,h=>⟨h.1,fun j xs u h1 h2=>(h.2 j xs u h1 h2).pers p⟩
 | .nil,cs,h=>h
 | .cons a r,cs,h=>by
  obtain ⟨v,cs',h1,h2,h3⟩:=h
  exact ⟨v,cs',h1,VR.pers p h2,CR.pers p h3⟩
end
theorem CR.len: ∀ {x:Ct} {cs:List Value},CR X W β x cs→cs.length=x.len
 | .N k xs,cs,h=>by cases h;simp [nums,Ct.len]
 | .B xs,cs,h=>by cases h;simp [ly,Ct.len]
 | .S xs,cs,h=>by cases h;simp [qJ,Ct.len]
 | .R k xss,cs,h=>h.1
 | .T k xss,cs,h=>h.1
 | .nil,cs,h=>by cases h;rfl
 | .cons a r,cs,h=>by
  obtain ⟨v,cs',rfl,_,h3⟩:=h
  simp [Ct.len,CR.len h3]
mutual
def AV.ren (ρ:Nat→Nat):AV→AV
 | .c v=> .c v
 | .t b=> .t b
 | .row x f=> .row (x.ren ρ) f
 | .own id p f=> .own (ρ id) p f
 | .ptr id off ext=> .ptr (ρ id) off ext
 | .obj x off ext=> .obj (x.ren ρ) off ext
 | .agg x n=> .agg (x.ren ρ) n
 | .tup x=> .tup (x.ren ρ)
 | .fn f x=> .fn f (x.ren ρ)
 | .fs f x=> .fs f x
 | .any=> .any
 | .op b x n=> .op b x n
def Ct.ren (ρ:Nat→Nat):Ct→Ct
 | .N k xs=> .N k xs
 | .B xs=> .B xs
 | .S xs=> .S xs
 | .R k xs=> .R k xs
 | .T k xs=> .T k xs
 | .nil=> .nil
 | .cons a r=> .cons (a.ren ρ) (r.ren ρ)
end
mutual
theorem VR.clo {β':Be}: ∀ {a:AV} {u:Value},a.cl=true→VR X W β a u→VR X W β' a u
 | .c v,u,_,h=>h
 | .t b,u,_,h=>h
 | .row x f,u,hc,h=>by
  obtain ⟨A,n,c,cs,h1,h2,h3⟩:=h
  exact ⟨A,n,c,cs,h1,CR.clo hc h2,h3⟩
 | .own ..,u,hc,h=>by cases hc
 | .ptr ..,u,hc,h=>by cases hc
 | .obj x off ext,u,hc,h=>by
  obtain ⟨g,o,cs,h1,h2,h3⟩:=h
  exact ⟨g,o,cs,h1,CR.clo hc h2,h3⟩
 | .agg x n,u,hc,h=>by obtain ⟨cs,h1,h2,h3⟩:=h;exact ⟨cs,h1,CR.clo hc h2,h3⟩
 | .tup x,u,hc,h=>by obtain ⟨cs,h1,h2⟩:=h;exact ⟨cs,h1,CR.clo hc h2⟩
 | .fn f x,u,hc,h=>by obtain ⟨cs,h1,h2⟩:=h;exact ⟨cs,h1,CR.clo hc h2⟩
 | .fs f x,u,hc,h=>by obtain ⟨cs,h1,h2,h3⟩:=h;exact ⟨cs,h1,CR.clo h3 h2,h3⟩
 | .any,u,hc,h=>h
 | .op false _ _,u,_,h=>h
 | .op true x n,u,_,h=>by
  obtain ⟨⟨g,o,cs,h1,h2,h3,h4⟩,h5⟩:=h
  exact ⟨⟨g,o,cs,h1,CR.clo h5 h2,h3,h4⟩,h5⟩
theorem CR.clo {β':Be}: ∀ {x:Ct} {cs:List Value},x.cl=true→CR X W β x cs→CR X W β' x cs
 | .N k xs,cs,_,h=>h
 | .B xs,cs,_,h=>h
 | .S xs,cs,_,h=>h
 | .R k xss,cs,_,h=>h
 | .T k xss,cs,_,h=>h
 | .nil,cs,_,h=>h
 | .cons a r,cs,hc,h=>by
  obtain ⟨v,cs',h1,h2,h3⟩:=h
  have hc:a.cl=true∧r.cl=true:=by
   have:(a.cl&&r.cl)=true:=hc
   simpa using this
  exact ⟨v,cs',h1,VR.clo hc.1 h2,CR.clo hc.2 h3⟩
end
mutual
theorem VR.ren {ρ:Nat→Nat}: ∀ {a:AV} {u:Value},VR X W β (a.ren ρ) u↔VR X W (fun i=>β (ρ i)) a u
 | .c v,u=>Iff.rfl
 | .t b,u=>Iff.rfl
 | .row x f,u=>by simp only [AV.ren,VR,CR.ren]
 | .own id none f,u=>Iff.rfl
 | .own id (some (lo,hi)) f,u=>Iff.rfl
 | .ptr id off ext,u=>Iff.rfl
 | .obj x off ext,u=>by simp only [AV.ren,VR,CR.ren]
 | .agg x n,u=>by simp only [AV.ren,VR,CR.ren]
 | .tup x,u=>by simp only [AV.ren,VR,CR.ren]
 | .fn f x,u=>by simp only [AV.ren,VR,CR.ren]
 | .fs f x,u=>⟨fun ⟨cs,h1,h2,h3⟩=>⟨cs,h1,CR.clo h3 h2,h3⟩,fun ⟨cs,h1,h2,h3⟩=>⟨cs,h1,CR.clo h3 h2,h3⟩⟩
 | .any,u=>Iff.rfl
 | .op false _ _,u=>Iff.rfl
 | .op true x n,u=>⟨fun ⟨⟨g,o,cs,h1,h2,h3,h4⟩,h5⟩=>⟨⟨g,o,cs,h1,CR.clo h5 h2,h3,h4⟩,h5⟩,fun ⟨⟨g,o,cs,h1,h2,h3,h4⟩,h5⟩=>⟨⟨g,o,cs,h1,CR.clo h5 h2,h3,h4⟩,h5⟩⟩
theorem CR.ren {ρ:Nat→Nat}: ∀ {x:Ct} {cs:List Value},CR X W β (x.ren ρ) cs↔CR X W (fun i=>β (ρ i)) x cs
 | .N k xs,cs=>Iff.rfl
 | .B xs,cs=>Iff.rfl
 | .S xs,cs=>Iff.rfl
 | .R k xss,cs=>Iff.rfl
 | .T k xss,cs=>Iff.rfl
 | .nil,cs=>Iff.rfl
 | .cons a r,cs=>by simp only [Ct.ren,CR,VR.ren,CR.ren]
end
end
structure HE where
 id:Nat
 fz:Bool
 ty:TypeId
 w:Nat
 x:Ct
abbrev TS:=HE→Prop
def ik (β:Be) (id:Nat):Option Nat:=(β id).bind (·.b)
def fI (β:Be) (T:TS):eQ:=fun g=> ∃e,T e∧e.fz=false∧ik β e.id=some g
def eI (Y:eQ) (β:Be) (T:TS):eQ:=fun g=>Y g∨fI β T g
def HE.ok (X:eQ) (W:World) (β:Be) (e:HE):Prop:=
 ∃bi cs,β e.id=some bi∧CR X W β e.x cs∧cs.length=bi.n∧bi.n≤bi.cap∧bi.cap≤maxLen∧(e.w=0∨bi.n=e.w∧bi.cap=e.w)∧
  match bi.b with
  | none=>bi.cap=0
  | some g=> ∃cur,W.heap[g]? =some (.cells cur e.ty (0,0))∧cur.size=bi.o+bi.cap∧(cur.toList.drop bi.o).take bi.n=cs∧(e.fz=true→¬ X g)
structure HR (Y:eQ) (W:World) (β:Be) (T:TS):Prop where
 ok: ∀e,T e→e.ok (eI Y β T) W β
 sep: ∀e e',T e→T e'→e≠e'→e.fz=false→ ∀g,ik β e.id=some g→ik β e'.id≠some g
 out: ∀e,T e→e.fz=false→ ∀g,ik β e.id=some g→¬ Y g
 ylt: ∀g,Y g→g<W.heap.size
structure qS (W:World) (O:eQ) (β:Be) (W':World) (O':eQ) (β':Be):Prop where
 os:W'.os=W.os
 tape:W'.tape=W.tape
 output:W'.output=W.output
 size:W.heap.size≤W'.heap.size
 blk: ∀b,b<W.heap.size→¬ O b→W'.heap[b]? =W.heap[b]?
 be: ∀id bi,β id=some bi→β' id=some bi
 own: ∀g,O' g→O g∨W.heap.size≤g
theorem qS.refl (W:World) (O:eQ) (β:Be):qS W O β W O β:=⟨rfl,rfl,rfl,Nat.le_refl _,fun _ _ _=>rfl,fun _ _ h=>h,fun _ h=> .inl h⟩
theorem qS.trans {W W1 W2:World} {O O1 O2:eQ} {β β1 β2:Be} (h:qS W O β W1 O1 β1) (k:qS W1 O1 β1 W2 O2 β2):qS W O β W2 O2 β2:=
 ⟨k.os.trans h.os,k.tape.trans h.tape,k.output.trans h.output,Nat.le_trans h.size k.size,
  fun b hb hO=>(k.blk b (Nat.lt_of_lt_of_le hb h.size) fun h1=>(h.own b h1).elim hO fun h2=>absurd hb (Nat.not_lt.2 h2)).trans (h.blk b hb hO),
  fun id bi hh=>k.be _ _ (h.be _ _ hh),
  fun g hg=>(k.own g hg).elim (fun h1=>h.own g h1) fun h1=> .inr (Nat.le_trans h.size h1)⟩
section
variable {Y:eQ} {W W':World} {β β':Be} {T T' R:TS}
theorem qS.pers (h:qS W (fI β T) β W' (fI β' T') β') (hy: ∀g,Y g→g<W.heap.size):lH (eI Y β T) W β (eI Y β' T') W' β':=
 ⟨fun b hb hX=>⟨h.blk b hb fun ho=>hX (.inr ho),fun hX'=>hX'.elim (fun hy=>hX (.inl hy)) fun ho=>(h.own b ho).elim (fun ho=>hX (.inr ho)) fun hge=>absurd hb (Nat.not_lt.2 hge)⟩,h.be⟩
def TU (T R:TS):TS:=fun e=>T e∨R e
theorem o8:eI Y β (TU T R)=eI (eI Y β R) β T:=by
 funext g
 refine propext ⟨?_,?_⟩
 ·rintro (h | ⟨e,h | h,h2⟩)
  ·exact .inl (.inl h)
  ·exact .inr ⟨e,h,h2⟩
  ·exact .inl (.inr ⟨e,h,h2⟩)
 ·rintro ((h | ⟨e,h,h2⟩) | ⟨e,h,h2⟩)
  ·exact .inl h
  ·exact .inr ⟨e,.inr h,h2⟩
  ·exact .inr ⟨e,.inl h,h2⟩
theorem HE.lt {X:eQ} {e:HE} (h:e.ok X W β) {g:Nat} (hg:ik β e.id=some g):g<W.heap.size:=by
 obtain ⟨bi,cs,h1,h2,h3,h4,h5,_,h6⟩:=h
 unfold ik at hg
 rw [h1,Option.bind_some] at hg
 rw [hg] at h6
 obtain ⟨cur,h7,_⟩:=h6
 exact (Array.getElem?_eq_some_iff.1 h7).1
theorem HR.part (h:HR Y W β (TU T R)) (hd: ∀e,T e→R e→False):HR (eI Y β R) W β T:=by
 refine ⟨fun e he=> ?_,fun e e' h1 h2=>h.sep e e' (.inl h1) (.inl h2),fun e he hf g hg hX=> ?_,fun g hg=> ?_⟩
 ·have:=h.ok e (.inl he);rwa [o8] at this
 ·rcases hX with hy | ⟨e',h1,h2,h3⟩
  ·exact h.out e (.inl he) hf g hg hy
  ·exact h.sep e e' (.inl he) (.inr h1) (fun hh=>hd e he (by rw [hh];exact h1)) hf g hg h3
 ·rcases hg with hy | ⟨e',h1,h2,h3⟩
  ·exact h.ylt g hy
  ·exact HE.lt (h.ok e' (.inr h1)) h3
theorem HE.ok_pers {X X':eQ} {e:HE} (h:e.ok X W β) (p:lH X W β X' W' β') (hb: ∀g,ik β e.id=some g→W'.heap[g]? =W.heap[g]? ∧(e.fz=true→¬ X' g)):e.ok X' W' β':=by
 obtain ⟨bi,cs,h1,h2,h3,h4,h5,hw,h6⟩:=h
 refine ⟨bi,cs,p.be _ _ h1,h2.pers p,h3,h4,h5,hw,?_⟩
 have e1:ik β e.id=bi.b:=by unfold ik;rw [h1];rfl
 cases hg:bi.b with
 | none=>rw [hg] at h6;exact h6
 | some g=>
  rw [hg] at h6
  obtain ⟨cur,h7,h8,h9,h10⟩:=h6
  have:=hb g (by rw [e1,hg])
  exact ⟨cur,this.1.trans h7,h8,h9,this.2⟩
theorem xZ (hbe: ∀id bi,β id=some bi→β' id=some bi) {e:HE} {X:eQ} (h:e.ok X W β):ik β' e.id=ik β e.id:=by
 obtain ⟨bi,cs,h1,_⟩:=h
 unfold ik;rw [h1,hbe _ _ h1]
theorem HR.join (h:HR Y W β (TU T R)) (hd: ∀e,T e→R e→False) (h':HR (eI Y β R) W' β' T') (hc:qS W (fI β T) β W' (fI β' T') β'):
 HR Y W' β' (TU T' R)∧qS W (fI β (TU T R)) β W' (fI β' (TU T' R)) β'∧eI Y β' (TU T' R)=eI (eI Y β R) β' T':=by
 have hp:=h.part hd
 have be1: ∀e,R e→ik β' e.id=ik β e.id:=fun e he=>xZ hc.be (h.ok e (.inr he))
 have eX:eI Y β' (TU T' R)=eI (eI Y β R) β' T':=by
  funext g
  refine propext ⟨?_,?_⟩
  ·rintro (h1 | ⟨e,h1 | h1,h2,h3⟩)
   ·exact .inl (.inl h1)
   ·exact .inr ⟨e,h1,h2,h3⟩
   ·exact .inl (.inr ⟨e,h1,h2,by rw [←be1 e h1];exact h3⟩)
  ·rintro ((h1 | ⟨e,h1,h2,h3⟩) | ⟨e,h1,h2,h3⟩)
   ·exact .inl h1
   ·exact .inr ⟨e,.inr h1,h2,by rw [be1 e h1];exact h3⟩
   ·exact .inr ⟨e,.inl h1,h2,h3⟩
 have pe:lH (eI (eI Y β R) β T) W β (eI (eI Y β R) β' T') W' β':=hc.pers hp.ylt
 have rblk: ∀e,R e→ ∀g,ik β e.id=some g→W'.heap[g]? =W.heap[g]? ∧¬ fI β T g:=by
  intro e he g hg
  have hn:¬ fI β T g:=by
   rintro ⟨e',h1,h2,h3⟩
   exact h.sep e' e (.inl h1) (.inr he) (fun hh=>hd e (by rw [←hh];exact h1) he) h2 g h3 hg
  exact ⟨hc.blk g (HE.lt (h.ok e (.inr he)) hg) hn,hn⟩
 refine ⟨⟨?_,?_,?_,fun g hg=>Nat.lt_of_lt_of_le (h.ylt g hg) hc.size⟩,⟨hc.os,hc.tape,hc.output,hc.size,fun b hb hO=>hc.blk b hb fun ⟨e,h1,h2⟩=>hO ⟨e,.inl h1,h2⟩,hc.be,?_⟩,eX⟩
 ·rintro e (he | he)
  ·rw [eX];exact h'.ok e he
  ·rw [eX]
   have h1:=h.ok e (.inr he)
   rw [o8] at h1
   refine HE.ok_pers h1 pe fun g hg=>⟨(rblk e he g hg).1,fun hf=> ?_⟩
   refine (pe.blk g (HE.lt h1 hg) ?_).2
   obtain ⟨bi,cs,k1,_,_,_,_,_,k6⟩:=h1
   have e1:ik β e.id=bi.b:=by unfold ik;rw [k1];rfl
   rw [e1] at hg;rw [hg] at k6
   obtain ⟨_,_,_,_,k⟩:=k6
   exact k hf
 ·rintro e e' (h1 | h1) (h2 | h2) hne hf g hg hg'
  ·exact h'.sep e e' h1 h2 hne hf g hg hg'
  ·rw [be1 e' h2] at hg'
   rcases hc.own g ⟨e,h1,hf,hg⟩ with ho | ho
   ·exact (rblk e' h2 g hg').2 ho
   ·exact absurd (HE.lt (h.ok e' (.inr h2)) hg') (Nat.not_lt.2 ho)
  ·rw [be1 e h1] at hg
   by_cases hf':e'.fz=false
   ·rcases hc.own g ⟨e',h2,hf',hg'⟩ with ho | ho
    ·exact (rblk e h1 g hg).2 ho
    ·exact absurd (HE.lt (h.ok e (.inr h1)) hg) (Nat.not_lt.2 ho)
   ·have h3:=h'.ok e' h2
    obtain ⟨bi,cs,k1,_,_,_,_,_,k6⟩:=h3
    have e1:ik β' e'.id=bi.b:=by unfold ik;rw [k1];rfl
    rw [e1] at hg';rw [hg'] at k6
    obtain ⟨_,_,_,_,k⟩:=k6
    exact k (by simpa using hf') (.inl (.inr ⟨e,h1,hf,hg⟩))
  ·rw [be1 e h1] at hg;rw [be1 e' h2] at hg'
   exact h.sep e e' (.inr h1) (.inr h2) hne hf g hg hg'
 ·rintro e (he | he) hf g hg hy
  ·exact h'.out e he hf g hg (.inl hy)
  ·rw [be1 e he] at hg
   exact h.out e (.inr he) hf g hg hy
 ·rintro g ⟨e,h1 | h1,h2,h3⟩
  ·exact (hc.own g ⟨e,h1,h2,h3⟩).imp (fun ⟨e',k1,k2⟩=>⟨e',.inl k1,k2⟩) id
  ·exact .inl ⟨e,.inr h1,h2,by rw [←be1 e h1];exact h3⟩
end
end Go.Scr.A
namespace Go.Scr.A
section
variable {X:eQ} {W:World} {β:Be}
def Ct.take:Ct→Nat→Ct
 | .N k xs,n=> .N k (xs.take n)
 | .B xs,n=> .B (xs.take n)
 | .S xs,n=> .S (xs.take n)
 | .R k xs,n=> .R k (xs.take n)
 | .T k xs,n=> .T k (xs.take n)
 | .nil,_=> .nil
 | .cons _ _,0=> .nil
 | .cons a r,n+1=> .cons a (r.take n)
def Ct.drop:Ct→Nat→Ct
 | .N k xs,n=> .N k (xs.drop n)
 | .B xs,n=> .B (xs.drop n)
 | .S xs,n=> .S (xs.drop n)
 | .R k xs,n=> .R k (xs.drop n)
 | .T k xs,n=> .T k (xs.drop n)
 | .nil,_=> .nil
 | .cons a r,0=> .cons a r
 | .cons _ r,n+1=>r.drop n
def Ct.cut (x:Ct) (lo hi:Nat):Ct:=(x.take hi).drop lo
theorem CR.take: ∀ {x:Ct} {n:Nat} {cs:List Value},CR X W β x cs→CR X W β (x.take n) (cs.take n)
 | .N k xs,n,cs,h=>by cases h;simp [Ct.take,CR,nums]
 | .B xs,n,cs,h=>by cases h;simp [Ct.take,CR,ly]
 | .S xs,n,cs,h=>by cases h;simp [Ct.take,CR,qJ]
 | .R k xs,n,cs,h=>by
  obtain ⟨h1,h2⟩:=h
  show CR X W β (.R k (xs.take n)) _
  refine ⟨by simp [h1],fun j ys u h3 h4=> ?_⟩
  rw [List.getElem?_take] at h3 h4
  split at h3
  ·rename_i hj;rw [if_pos hj] at h4;exact h2 j ys u h3 h4
  ·cases h3
 | .T k xs,n,cs,h=>by
  obtain ⟨h1,h2⟩:=h
  show CR X W β (.T k (xs.take n)) _
  refine ⟨by simp [h1],fun j ys u h3 h4=> ?_⟩
  rw [List.getElem?_take] at h3 h4
  split at h3
  ·rename_i hj;rw [if_pos hj] at h4;exact h2 j ys u h3 h4
  ·cases h3
 | .nil,n,cs,h=>by cases h;simp [Ct.take,Ct.drop,CR]
 | .cons a r,0,cs,h=>rfl
 | .cons a r,n+1,cs,h=>by
  obtain ⟨v,cs',rfl,h2,h3⟩:=h
  exact ⟨v,cs'.take n,rfl,h2,CR.take h3⟩
theorem CR.drop: ∀ {x:Ct} {n:Nat} {cs:List Value},CR X W β x cs→CR X W β (x.drop n) (cs.drop n)
 | .N k xs,n,cs,h=>by cases h;simp [Ct.drop,CR,nums]
 | .B xs,n,cs,h=>by cases h;simp [Ct.drop,CR,ly]
 | .S xs,n,cs,h=>by cases h;simp [Ct.drop,CR,qJ]
 | .R k xs,n,cs,h=>by
  obtain ⟨h1,h2⟩:=h
  show CR X W β (.R k (xs.drop n)) _
  refine ⟨by simp [h1],fun j ys u h3 h4=> ?_⟩
  rw [List.getElem?_drop] at h3 h4
  exact h2 _ ys u h3 h4
 | .T k xs,n,cs,h=>by
  obtain ⟨h1,h2⟩:=h
  show CR X W β (.T k (xs.drop n)) _
  refine ⟨by simp [h1],fun j ys u h3 h4=> ?_⟩
  rw [List.getElem?_drop] at h3 h4
  exact h2 _ ys u h3 h4
 | .nil,n,cs,h=>by cases h;simp [Ct.take,Ct.drop,CR]
 | .cons a r,0,cs,h=>h
 | .cons a r,n+1,cs,h=>by
  obtain ⟨v,cs',rfl,h2,h3⟩:=h
  exact CR.drop (x:=r) (n:=n) h3
theorem CR.cut {x:Ct} {cs:List Value} (lo hi:Nat) (h:CR X W β x cs):CR X W β (x.cut lo hi) ((cs.take hi).drop lo):=CR.drop (CR.take h)
def AV.nrm:AV→AV
 | .op true x n=> .obj x none n
 | .op false _ _=> .c (.pointer none)
 | a=>a
theorem VR.nrm {a:AV} {u:Value} (h:VR X W β a u):VR X W β a.nrm u:=by
 unfold AV.nrm
 split
 ·exact h.1
 ·exact h
 ·exact h
def S5 (xs:List ByteArray) (i:Nat):ByteArray:=xs.getD i ByteArray.empty
def Ct.cell:Ct→Nat→Option AV
 | .N k xs,i=>some (.c (.int k (xs.getD i 0)))
 | .B xs,i=>some (.c (.bool (xs.getD i false)))
 | .S xs,i=>some (.c (.string (S5 xs i)))
 | .R k xs,i=>some (.row (.N k (xs.getD i [])) false)
 | .T k xs,i=>some (.row (.R k (xs.getD i [])) false)
 | .nil,_=>none
 | .cons a _,0=>some a.nrm
 | .cons _ r,i+1=>r.cell i
theorem Eu.vr {k:IntKind} {xs:List (List Int)} {u:Value} (h:Eu X W k xs u):VR X W β (.row (.R k xs) false) u:=by
 obtain ⟨A,c,h1,h2,us,h3,h4,h5⟩:=h
 exact ⟨A,xs.length,c,us,h1,⟨h3,h4⟩,h3,h2,fun h=>(by cases h),h5⟩
theorem Em.vr {k:IntKind} {xs:List Int} {u:Value} (h:Em X W k xs u):VR X W β (.row (.N k xs) false) u:=by
 obtain ⟨A,c,h1,h2,h3⟩:=h
 refine ⟨A,xs.length,c,nums k xs,h1,rfl,by simp [nums],h2,?_,h3⟩
 intro h;cases h
theorem o9 {α:Type} {xs:List α} {i:Nat} (d:α) (h:i<xs.length):xs[i]? =some (xs.getD i d):=by simp [h]
theorem CR.cell: ∀ {x:Ct} {i:Nat} {cs:List Value} {a:AV},CR X W β x cs→i<cs.length→x.cell i=some a→ ∃v,cs[i]? =some v∧VR X W β a v
 | .N k xs,i,cs,a,h,hi,ha=>by
  cases h;injection ha with ha;subst ha
  simp only [nums,List.length_map] at hi
  exact ⟨_,by simp only [nums,List.getElem?_map,o9 0 hi,Option.map_some],rfl⟩
 | .B xs,i,cs,a,h,hi,ha=>by
  cases h;injection ha with ha;subst ha
  simp only [ly,List.length_map] at hi
  exact ⟨_,by simp only [ly,List.getElem?_map,o9 false hi,Option.map_some],rfl⟩
 | .S xs,i,cs,a,h,hi,ha=>by
  cases h;injection ha with ha;subst ha
  simp only [qJ,List.length_map] at hi
  exact ⟨_,by simp only [qJ,List.getElem?_map,o9 ByteArray.empty hi,Option.map_some,S5],rfl⟩
 | .R k xs,i,cs,a,h,hi,ha=>by
  injection ha with ha;subst ha
  exact ⟨cs[i],by simp [hi],(h.2 i _ _ (o9 [] (by rw [←h.1];exact hi)) (List.getElem?_eq_getElem hi)).vr⟩
 | .T k xs,i,cs,a,h,hi,ha=>by
  injection ha with ha;subst ha
  exact ⟨cs[i],by simp [hi],(h.2 i _ _ (o9 [] (by rw [←h.1];exact hi)) (List.getElem?_eq_getElem hi)).vr⟩
 | .nil,i,cs,a,h,hi,ha=>by cases ha
 | .cons b r,0,cs,a,h,hi,ha=>by
  obtain ⟨v,cs',rfl,h2,h3⟩:=h
  injection ha with ha;subst ha
  exact ⟨v,rfl,h2.nrm⟩
 | .cons b r,i+1,cs,a,h,hi,ha=>by
  obtain ⟨v,cs',rfl,h2,h3⟩:=h
  obtain ⟨u,h4,h5⟩:=CR.cell h3 (by simpa using hi) ha
  exact ⟨u,by simpa using h4,h5⟩
def kB (k k':IntKind):Bool:=decide (k=k')
theorem pW {k k':IntKind} (h:kB k k'=true):k=k':=of_decide_eq_true h
def Ct.set:Ct→Nat→AV→Option Ct
 | .N k xs,i,a=>match a with
  | .c (.int k' v)=>bif kB k k' then some (.N k (xs.set i v)) else none
  | _=>none
 | .B xs,i,a=>match a with
  | .c (.bool b)=>some (.B (xs.set i b))
  | .t b=>some (.B (xs.set i b))
  | _=>none
 | .S xs,i,a=>match a with
  | .c (.string b)=>some (.S (xs.set i b))
  | _=>none
 | .R k xs,i,a=>match a with
  | .row (.N k' ys) _=>bif kB k k' then some (.R k (xs.set i ys)) else none
  | .row .nil _=>some (.R k (xs.set i []))
  | .c (.slice none 0 0)=>some (.R k (xs.set i []))
  | _=>none
 | .T k xs,i,a=>match a with
  | .row (.R k' ys) _=>bif kB k k' then some (.T k (xs.set i ys)) else none
  | .row .nil _=>some (.T k (xs.set i []))
  | .c (.slice none 0 0)=>some (.T k (xs.set i []))
  | _=>none
 | .nil,_,_=>none
 | .cons _ r,0,b=>some (.cons b r)
 | .cons a r,i+1,b=>match r.set i b with
  | some r'=>some (.cons a r')
  | none=>none
theorem VR.fzN {k:IntKind} {ys:List Int} {f:Bool} {v:Value} (h:VR X W β (.row (.N k ys) f) v):Em X W k ys v:=by
 obtain ⟨A,n,c,cs,h1,h2,h3,h4,h5,h6⟩:=h
 cases h2
 simp only [nums,List.length_map] at h3
 subst h3
 exact ⟨A,c,h1,h4,h6⟩
theorem VR.fzR {k:IntKind} {ys:List (List Int)} {f:Bool} {v:Value} (h:VR X W β (.row (.R k ys) f) v):Eu X W k ys v:=by
 obtain ⟨A,n,c,cs,h1,⟨h2,h2'⟩,h3,h4,h5,h6⟩:=h
 have:n=ys.length:=by omega
 subst this
 exact ⟨A,c,h1,h4,cs,h2,h2',h6⟩
theorem VR.fzrnil {k:IntKind} {f:Bool} {v:Value} (h:VR X W β (.row .nil f) v):Eu X W k [] v:=by
 obtain ⟨A,n,c,cs,h1,h2,h3,h4,h5,h6⟩:=h
 cases h2
 simp only [List.length_nil] at h3
 subst h3
 exact ⟨A,c,h1,h4,[],rfl,(fun j ys w h=>by cases h),h6⟩
theorem LG {k:IntKind}:Eu X W k [] (.slice none 0 0):=⟨none,0,rfl,Nat.le_refl _,[],rfl,fun j ys w h=>(by cases h),fun j v h=>by cases h⟩
theorem VR.fznil {k:IntKind} {f:Bool} {v:Value} (h:VR X W β (.row .nil f) v):Em X W k [] v:=by
 obtain ⟨A,n,c,cs,h1,h2,h3,h4,h5,h6⟩:=h
 cases h2
 simp only [List.length_nil] at h3
 subst h3
 exact ⟨A,c,h1,h4,h6⟩
theorem N0 {k:IntKind}:Em X W k [] (.slice none 0 0):=⟨none,0,rfl,Nat.le_refl _,fun j v h=>by cases h⟩
theorem Ev {k:IntKind} {xs:List (List Int)} {cs:List Value} {ys:List Int} {v:Value} {i:Nat} (h:CR X W β (.R k xs) cs) (hv:Em X W k ys v):CR X W β (.R k (xs.set i ys)) (cs.set i v):=by
 obtain ⟨h1,h2⟩:=h
 refine ⟨by simp [h1],fun j zs u h3 h4=> ?_⟩
 rw [List.getElem?_set] at h3 h4
 split at h3
 ·rename_i hij
  subst hij
  rw [if_pos rfl] at h4
  split at h3
  ·split at h4
   ·injection h3 with h3;injection h4 with h4;subst h3;subst h4;exact hv
   ·cases h4
  ·cases h3
 ·rename_i hij
  rw [if_neg hij] at h4
  exact h2 j zs u h3 h4
theorem Ew {k:IntKind} {xs:List (List (List Int))} {cs:List Value} {ys:List (List Int)} {v:Value} {i:Nat} (h:CR X W β (.T k xs) cs) (hv:Eu X W k ys v):CR X W β (.T k (xs.set i ys)) (cs.set i v):=by
 obtain ⟨h1,h2⟩:=h
 refine ⟨by simp [h1],fun j zs u h3 h4=> ?_⟩
 rw [List.getElem?_set] at h3 h4
 split at h3
 ·rename_i hij
  subst hij
  rw [if_pos rfl] at h4
  split at h3
  ·split at h4
   ·injection h3 with h3;injection h4 with h4;subst h3;subst h4;exact hv
   ·cases h4
  ·cases h3
 ·rename_i hij
  rw [if_neg hij] at h4
  exact h2 j zs u h3 h4
theorem CR.set: ∀ {x:Ct} {i:Nat} {a:AV} {y:Ct} {cs:List Value} {v:Value},CR X W β x cs→VR X W β a v→x.set i a=some y→CR X W β y (cs.set i v)
 | .N k xs,i,a,y,cs,v,h,hv,hs=>by
  unfold Ct.set at hs
  split at hs
  ·rename_i k' z
   cases hk:kB k k' with
   | false=>rw [hk] at hs;cases hs
   | true=>
    rw [hk] at hs;injection hs with hs;subst hs
    have:=pW hk;subst this
    cases hv;cases h;simp [CR,nums]
  ·cases hs
 | .B xs,i,a,y,cs,v,h,hv,hs=>by
  unfold Ct.set at hs
  split at hs
  ·injection hs with hs;subst hs;cases hv;cases h;simp [CR,ly]
  ·injection hs with hs;subst hs;cases hv;cases h;simp [CR,ly]
  ·cases hs
 | .S xs,i,a,y,cs,v,h,hv,hs=>by
  unfold Ct.set at hs
  split at hs
  ·injection hs with hs;subst hs;cases hv;cases h;simp [CR,qJ]
  ·cases hs
 | .R k xs,i,a,y,cs,v,h,hv,hs=>by
  unfold Ct.set at hs
  split at hs
  ·rename_i k' ys f
   cases hk:kB k k' with
   | false=>rw [hk] at hs;cases hs
   | true=>
    rw [hk] at hs;injection hs with hs;subst hs
    have:=pW hk;subst this
    exact Ev h hv.fzN
  ·injection hs with hs;subst hs;exact Ev h hv.fznil
  ·injection hs with hs;subst hs;cases hv;exact Ev h N0
  ·cases hs
 | .T k xs,i,a,y,cs,v,h,hv,hs=>by
  unfold Ct.set at hs
  split at hs
  ·rename_i k' ys f
   cases hk:kB k k' with
   | false=>rw [hk] at hs;cases hs
   | true=>
    rw [hk] at hs;injection hs with hs;subst hs
    have:=pW hk;subst this
    exact Ew h hv.fzR
  ·injection hs with hs;subst hs;exact Ew h hv.fzrnil
  ·injection hs with hs;subst hs;cases hv;exact Ew h LG
  ·cases hs
 | .nil,i,a,y,cs,v,h,hv,hs=>by cases hs
 | .cons b r,0,a,y,cs,v,h,hv,hs=>by
  unfold Ct.set at hs
  injection hs with hs;subst hs
  obtain ⟨w,cs',rfl,h2,h3⟩:=h
  exact ⟨v,cs',rfl,hv,h3⟩
 | .cons b r,i+1,a,y,cs,v,h,hv,hs=>by
  unfold Ct.set at hs
  split at hs
  ·rename_i r' hr
   injection hs with hs;subst hs
   obtain ⟨w,cs',rfl,h2,h3⟩:=h
   exact ⟨w,cs'.set i v,rfl,h2,CR.set h3 hv hr⟩
  ·cases hs
def Ct.app:Ct→Ct→Option Ct
 | .nil,y=>some y
 | .N k xs,y=>match y with
  | .nil=>some (.N k xs)
  | .N k' ys=>bif kB k k' then some (.N k (xs++ys)) else none
  | _=>none
 | .B xs,y=>match y with
  | .nil=>some (.B xs)
  | .B ys=>some (.B (xs++ys))
  | _=>none
 | .S xs,y=>match y with
  | .nil=>some (.S xs)
  | .S ys=>some (.S (xs++ys))
  | _=>none
 | .R k xs,y=>match y with
  | .nil=>some (.R k xs)
  | .R k' ys=>bif kB k k' then some (.R k (xs++ys)) else none
  | _=>none
 | .T k xs,y=>match y with
  | .nil=>some (.T k xs)
  | .T k' ys=>bif kB k k' then some (.T k (xs++ys)) else none
  | _=>none
 | .cons a r,y=>match r.app y with
  | some z=>some (.cons a z)
  | none=>none
theorem CR.app: ∀ {x y z:Ct} {cs ds:List Value},CR X W β x cs→CR X W β y ds→x.app y=some z→CR X W β z (cs++ds)
 | .nil,y,z,cs,ds,h1,h2,h=>by injection h with h;subst h;cases h1;exact h2
 | .N k xs,y,z,cs,ds,h1,h2,h=>by
  unfold Ct.app at h
  split at h
  ·injection h with h;subst h;cases h1;cases h2;simp [CR]
  ·rename_i k' ys
   cases hk:kB k k' with
   | false=>rw [hk] at h;cases h
   | true=>rw [hk] at h;injection h with h;subst h;have:=pW hk;subst this;cases h1;cases h2;simp [CR,nums]
  ·cases h
 | .B xs,y,z,cs,ds,h1,h2,h=>by
  unfold Ct.app at h
  split at h
  ·injection h with h;subst h;cases h1;cases h2;simp [CR]
  ·injection h with h;subst h;cases h1;cases h2;simp [CR,ly]
  ·cases h
 | .S xs,y,z,cs,ds,h1,h2,h=>by
  unfold Ct.app at h
  split at h
  ·injection h with h;subst h;cases h1;cases h2;simp [CR]
  ·injection h with h;subst h;cases h1;cases h2;simp [CR,qJ]
  ·cases h
 | .R k xs,y,z,cs,ds,h1,h2,h=>by
  unfold Ct.app at h
  split at h
  ·injection h with h;subst h;cases h2;simpa using h1
  ·rename_i k' ys
   cases hk:kB k k' with
   | false=>rw [hk] at h;cases h
   | true=>
    rw [hk] at h;injection h with h;subst h;have:=pW hk;subst this
    obtain ⟨e1,f1⟩:=h1
    obtain ⟨e2,f2⟩:=h2
    refine ⟨by simp [e1,e2],fun j zs u h3 h4=> ?_⟩
    rw [List.getElem?_append] at h3 h4
    split at h3
    ·rename_i hj
     rw [if_pos (by omega)] at h4
     exact f1 j zs u h3 h4
    ·rename_i hj
     rw [if_neg (by omega),e1] at h4
     exact f2 _ zs u h3 h4
  ·cases h
 | .T k xs,y,z,cs,ds,h1,h2,h=>by
  unfold Ct.app at h
  split at h
  ·injection h with h;subst h;cases h2;simpa using h1
  ·rename_i k' ys
   cases hk:kB k k' with
   | false=>rw [hk] at h;cases h
   | true=>
    rw [hk] at h;injection h with h;subst h;have:=pW hk;subst this
    obtain ⟨e1,f1⟩:=h1
    obtain ⟨e2,f2⟩:=h2
    refine ⟨by simp [e1,e2],fun j zs u h3 h4=> ?_⟩
    rw [List.getElem?_append] at h3 h4
    split at h3
    ·rename_i hj
     rw [if_pos (by omega)] at h4
     exact f1 j zs u h3 h4
    ·rename_i hj
     rw [if_neg (by omega),e1] at h4
     exact f2 _ zs u h3 h4
  ·cases h
 | .cons a r,y,z,cs,ds,h1,h2,h=>by
  unfold Ct.app at h
  split at h
  ·rename_i z' hz
   injection h with h;subst h
   obtain ⟨w,cs',rfl,h5,h6⟩:=h1
   exact ⟨w,cs'++ds,rfl,h5,CR.app h6 h2 hz⟩
  ·cases h
def bE:List AV→Ct
 | []=> .nil
 | a::r=> .cons a (bE r)
inductive mE (X:eQ) (W:World) (β:Be):List AV→List Value→Prop
 | nil:mE X W β [] []
 | cons {a:AV} {v:Value} {l:List AV} {cs:List Value}:VR X W β a v→mE X W β l cs→mE X W β (a::l) (v::cs)
theorem mE.len {l:List AV} {cs:List Value} (h:mE X W β l cs):cs.length=l.length:=by induction h<;>simp_all
theorem mE.of {l:List AV} {cs:List Value} (h:mE X W β l cs):CR X W β (bE l) cs:=by
 induction h with
 | nil=>rfl
 | cons h1 _ ih=>exact ⟨_,_,rfl,h1,ih⟩
theorem mE.pers {X':eQ} {W':World} {β':Be} (p:lH X W β X' W' β') {l:List AV} {cs:List Value} (h:mE X W β l cs):mE X' W' β' l cs:=by
 induction h with
 | nil=>exact .nil
 | cons h1 _ ih=>exact .cons (h1.pers p) ih
def ug (k:IntKind):List AV→Option (List Int)
 | []=>some []
 | .c (.int k' n)::r=>bif kB k k' then (match ug k r with | some l=>some (n::l) | none=>none) else none
 | _=>none
def qs:List AV→Option (List Bool)
 | []=>some []
 | .c (.bool n)::r=>match qs r with | some l=>some (n::l) | none=>none
 | .t n::r=>match qs r with | some l=>some (n::l) | none=>none
 | _=>none
def wq:List AV→Option (List ByteArray)
 | []=>some []
 | .c (.string n)::r=>match wq r with | some l=>some (n::l) | none=>none
 | _=>none
def qT (k:IntKind):List AV→Option (List (List Int))
 | []=>some []
 | .row (.N k' xs) _::r=>bif kB k k' then (match qT k r with | some l=>some (xs::l) | none=>none) else none
 | .row .nil _::r=>match qT k r with | some l=>some ([]::l) | none=>none
 | .c (.slice none 0 0)::r=>match qT k r with | some l=>some ([]::l) | none=>none
 | _=>none
def uh (k:IntKind):List AV→Option (List (List (List Int)))
 | []=>some []
 | .row (.R k' xs) _::r=>bif kB k k' then (match uh k r with | some l=>some (xs::l) | none=>none) else none
 | .row .nil _::r=>match uh k r with | some l=>some ([]::l) | none=>none
 | .c (.slice none 0 0)::r=>match uh k r with | some l=>some ([]::l) | none=>none
 | _=>none
theorem vj {k:IntKind} {l:List AV} {cs:List Value} (h:mE X W β l cs): ∀ {xs:List Int},ug k l=some xs→cs=nums k xs:=by
 induction h with
 | nil=>intro xs h;injection h with h;subst h;rfl
 | @cons a v l cs h1 _ ih=>
  intro xs h
  unfold ug at h
  split at h
  ·rename_i e;cases e
  ·rename_i k' n r e
   injection e with e1 e2;subst e1;subst e2
   cases hk:kB k k' with
   | false=>rw [hk] at h;cases h
   | true=>
    rw [hk] at h;have:=pW hk;subst this
    simp only [cond_true] at h
    split at h
    ·rename_i l' hl
     injection h with h;subst h
     rw [ih hl,h1];rfl
    ·cases h
  ·cases h
theorem ui {l:List AV} {cs:List Value} (h:mE X W β l cs): ∀ {xs:List Bool},qs l=some xs→cs=ly xs:=by
 induction h with
 | nil=>intro xs h;injection h with h;subst h;rfl
 | @cons a v l cs h1 _ ih=>
  intro xs h
  unfold qs at h
  split at h
  ·rename_i e;cases e
  ·rename_i n r e
   injection e with e1 e2;subst e1;subst e2
   split at h
   ·rename_i l' hl
    injection h with h;subst h
    rw [ih hl,h1];rfl
   ·cases h
  ·rename_i n r e
   injection e with e1 e2;subst e1;subst e2
   split at h
   ·rename_i l' hl
    injection h with h;subst h
    rw [ih hl,h1];rfl
   ·cases h
  ·cases h
theorem Dn {l:List AV} {cs:List Value} (h:mE X W β l cs): ∀ {xs:List ByteArray},wq l=some xs→cs=qJ xs:=by
 induction h with
 | nil=>intro xs h;injection h with h;subst h;rfl
 | @cons a v l cs h1 _ ih=>
  intro xs h
  unfold wq at h
  split at h
  ·rename_i e;cases e
  ·rename_i n r e
   injection e with e1 e2;subst e1;subst e2
   split at h
   ·rename_i l' hl
    injection h with h;subst h
    rw [ih hl,h1];rfl
   ·cases h
  ·cases h
theorem N1 {k:IntKind}:CR X W β (.R k []) []:=⟨rfl,fun j xs u h=>by cases h⟩
theorem zz {k:IntKind} {xs:List Int} {xss:List (List Int)} {v:Value} {cs:List Value} (h:Em X W k xs v) (h2:CR X W β (.R k xss) cs):CR X W β (.R k (xs::xss)) (v::cs):=
 ⟨by simp [h2.1],fun j ys u h3 h4=>by
  cases j with
  | zero=>injection h3 with h3;injection h4 with h4;subst h3;subst h4;exact h
  | succ j=>exact h2.2 j ys u h3 h4⟩
theorem vm {k:IntKind} {l:List AV} {cs:List Value} (h:mE X W β l cs): ∀ {xs:List (List Int)},qT k l=some xs→CR X W β (.R k xs) cs:=by
 induction h with
 | nil=>intro xs h;injection h with h;subst h;exact N1
 | @cons a v l cs h1 _ ih=>
  intro xs h
  unfold qT at h
  split at h
  ·rename_i e;cases e
  ·rename_i k' n f r e
   injection e with e1 e2;subst e1;subst e2
   cases hk:kB k k' with
   | false=>rw [hk] at h;cases h
   | true=>
    rw [hk] at h;have:=pW hk;subst this
    simp only [cond_true] at h
    split at h
    ·rename_i l' hl
     injection h with h;subst h
     exact zz h1.fzN (ih hl)
    ·cases h
  ·rename_i f r e
   injection e with e1 e2;subst e1;subst e2
   split at h
   ·rename_i l' hl
    injection h with h;subst h
    exact zz h1.fznil (ih hl)
   ·cases h
  ·rename_i r e
   injection e with e1 e2;subst e1;subst e2
   split at h
   ·rename_i l' hl
    injection h with h;subst h
    cases h1
    exact zz N0 (ih hl)
   ·cases h
  ·cases h
theorem N2 {k:IntKind}:CR X W β (.T k []) []:=⟨rfl,fun j xs u h=>by cases h⟩
theorem zA {k:IntKind} {xs:List (List Int)} {xss:List (List (List Int))} {v:Value} {cs:List Value} (h:Eu X W k xs v) (h2:CR X W β (.T k xss) cs):CR X W β (.T k (xs::xss)) (v::cs):=
 ⟨by simp [h2.1],fun j ys u h3 h4=>by
  cases j with
  | zero=>injection h3 with h3;injection h4 with h4;subst h3;subst h4;exact h
  | succ j=>exact h2.2 j ys u h3 h4⟩
theorem ya {k:IntKind} {l:List AV} {cs:List Value} (h:mE X W β l cs): ∀ {xs:List (List (List Int))},uh k l=some xs→CR X W β (.T k xs) cs:=by
 induction h with
 | nil=>intro xs h;injection h with h;subst h;exact N2
 | @cons a v l cs h1 _ ih=>
  intro xs h
  unfold uh at h
  split at h
  ·rename_i e;cases e
  ·rename_i k' n f r e
   injection e with e1 e2;subst e1;subst e2
   cases hk:kB k k' with
   | false=>rw [hk] at h;cases h
   | true=>
    rw [hk] at h;have:=pW hk;subst this
    simp only [cond_true] at h
    split at h
    ·rename_i l' hl
     injection h with h;subst h
     exact zA h1.fzR (ih hl)
    ·cases h
  ·rename_i f r e
   injection e with e1 e2;subst e1;subst e2
   split at h
   ·rename_i l' hl
    injection h with h;subst h
    exact zA h1.fzrnil (ih hl)
   ·cases h
  ·rename_i r e
   injection e with e1 e2;subst e1;subst e2
   split at h
   ·rename_i l' hl
    injection h with h;subst h
    cases h1
    exact zA LG (ih hl)
   ·cases h
  ·cases h
inductive Ek where
 | n (k:IntKind)
 | b
 | s
 | r (k:IntKind)
 | t (k:IntKind)
 | o
def Do:Ek→List AV→Option Ct
 | .n k,l=>match ug k l with | some xs=>some (.N k xs) | none=>none
 | .b,l=>match qs l with | some xs=>some (.B xs) | none=>none
 | .s,l=>match wq l with | some xs=>some (.S xs) | none=>none
 | .r k,l=>match qT k l with | some xs=>some (.R k xs) | none=>none
 | .t k,l=>match uh k l with | some xs=>some (.T k xs) | none=>none
 | .o,l=>some (bE l)
theorem qt {e:Ek} {l:List AV} {cs:List Value} {x:Ct} (h:mE X W β l cs) (hm:Do e l=some x):CR X W β x cs:=by
 unfold Do at hm
 split at hm
 ·split at hm
  ·rename_i hx;injection hm with hm;subst hm;exact vj h hx
  ·cases hm
 ·split at hm
  ·rename_i hx;injection hm with hm;subst hm;exact ui h hx
  ·cases hm
 ·split at hm
  ·rename_i hx;injection hm with hm;subst hm;exact Dn h hx
  ·cases hm
 ·split at hm
  ·rename_i hx;injection hm with hm;subst hm;exact vm h hx
  ·cases hm
 ·split at hm
  ·rename_i hx;injection hm with hm;subst hm;exact ya h hx
  ·cases hm
 ·injection hm with hm;subst hm;exact h.of
end
end Go.Scr.A
namespace Go.Scr.A
abbrev AE:=List (Nat×AV)
def tr:AE→Nat→Option AV
 | [],_=>none
 | (s,v)::r,t=>bif Nat.beq s t then some v else tr r t
theorem mj: ∀ {L:AE} {t:Nat} {v:AV},tr L t=some v→(t,v)∈L
 | [],_,_,h=>by cases h
 | (s,u)::r,t,v,h=>by
  unfold tr at h
  cases hb:Nat.beq s t with
  | true=>
   rw [hb] at h
   simp only [cond_true,Option.some.injEq] at h
   have:=Nat.eq_of_beq_eq_true hb
   subst this;subst h
   exact List.mem_cons_self
  | false=>
   rw [hb] at h
   exact List.mem_cons_of_mem _ (mj h)
def cv (v:Value):AV:= .c v
def ER (X:eQ) (W:World) (β:Be) (E:AE) (a:Act):Prop:= ∀p∈E,∃u,a.tmps[p.1]? =some u∧VR X W β p.2 u
def tt (X:eQ) (W:World) (Gl:AE):Prop:= ∀β,∀p∈Gl,VR X W β p.2 (.pointer (some ⟨p.1,0,none⟩))
def pR (Gl E:AE):Operand→Option AV
 | .tmp t=>tr E t
 | .const v=>some (cv v)
 | .global g=>tr Gl g
 | .func f=>some (.fn f .nil)
section
variable {X:eQ} {W:World} {β:Be} {Gl E:AE} {a:Act}
theorem Ex (v:Value):VR X W β (cv v) v:=rfl
theorem d7 (hE:ER X W β E a) (hG:tt X W Gl) {x:Operand} {v:AV} (h:pR Gl E x=some v):VR X W β v (a.eval x):=by
 cases x with
 | tmp t=>
  obtain ⟨u,h1,h2⟩:=hE _ (mj h)
  have e:a.eval (.tmp t)=u:=by simp [Act.eval,h1]
  rw [e];exact h2
 | const w=>injection h with h;subst h;exact Ex w
 | global g=>exact hG β _ (mj h)
 | func f=>injection h with h;subst h;exact ⟨[],rfl,rfl⟩
end
abbrev TL (l:List HE):TS:=fun e=>e∈l
variable (P:Program) (Gl:AE) (o:Oper) (E:AE)
def vc (a:Act) (W:World) (u:Value) (W':World):Prop:=
 (execOp a.eval o).run P W= .ok (.value u) W'∨((execOp a.eval o).run P W= .ok .skip W'∧u=undef)
def Dp (T:TS) (new:Nat) (v:AV) (T':TS):Prop:=
 ∀(Y:eQ) (W:World) (β:Be) (a:Act),HR Y W β T→ER (eI Y β T) W β E a→tt (eI Y β T) W Gl→(∀i,new≤i→i<new+16→β i=none)→
  ∃u W' β',vc P o a W u W'∧HR Y W' β' T'∧VR (eI Y β' T') W' β' v u∧qS W (fI β T) β W' (fI β' T') β'∧(∀i,i<new∨new+16≤i→β' i=β i)
def Yd (rd:List HE) (v:AV):Prop:=
 ∀(Y:eQ) (W:World) (β:Be) (a:Act),HR Y W β (TL rd)→ER (eI Y β (TL rd)) W β E a→tt (eI Y β (TL rd)) W Gl→
  ∃u,(execOp a.eval o).run P W= .ok (.value u) W∧VR (eI Y β (TL rd)) W β v u
variable {P Gl o E}
theorem Yd.tri {rd:List HE} {v:AV} (h:Yd P Gl o E rd v) (new:Nat):Dp P Gl o E (TL rd) new v (TL rd):=by
 intro Y W β a hH hE hG hf
 obtain ⟨u,h1,h2⟩:=h Y W β a hH hE hG
 exact ⟨u,W,β,.inl h1,hH,h2,qS.refl _ _ _,fun _ _=>rfl⟩
inductive Ao where
 | v (a:AV) (rd use mk:List HE)
 | nd (b:Bool) (k:Ao)
 | call (f:FuncId) (args:List AV)
 | ts (t:Nat) (b:Bool)
 | fz (id:Nat)
 | nq (n:Nat) (neq:Bool)
 | bad
variable (P Gl o E)
def Ao.ok (new:Nat):Ao→Prop
 | .v a rd [] []=>Yd P Gl o E rd a
 | .v a rd use mk=>Dp P Gl o E (TL (use++rd)) new a (TL (mk++rd))
 | .nd b k=>b=true→k.ok new
 | .call f args=> ∀(X:eQ) (W:World) (β:Be) (a:Act),ER X W β E a→tt X W Gl→ ∃us,(execOp a.eval o).run P W= .ok (.enter f us.toArray) W∧mE X W β args us
 | .ts t b=>tr E t=some (.c (.bool b))
 | .nq n neq=> ∀(X:eQ) (W:World) (β:Be) (a:Act),ER X W β E a→tt X W Gl→ ∃b:Bool,(execOp a.eval o).run P W= .ok (.value (.bool b)) W∧(b= !neq→n=0)
 | _=>True
def Ao.yd:Ao→Prop
 | .v a rd [] []=>Yd P Gl o E rd a
 | .nd b k=>b=true→k.yd
 | .v .. =>False
 | .call .. =>False
 | .ts t b=>tr E t=some (.c (.bool b))
 | .nq n neq=> ∀(X:eQ) (W:World) (β:Be) (a:Act),ER X W β E a→tt X W Gl→ ∃b:Bool,(execOp a.eval o).run P W= .ok (.value (.bool b)) W∧(b= !neq→n=0)
 | _=>True
variable {P Gl o E}
theorem Ao.ok_of_yd {new:Nat}: ∀ {r:Ao},r.yd P Gl o E→r.ok P Gl o E new
 | .v a rd [] [],h=>h
 | .v a rd (_::_) _,h=>h.elim
 | .v a rd [] (_::_),h=>h.elim
 | .nd b k,h=>fun hb=>Ao.ok_of_yd (h hb)
 | .call ..,h=>h.elim
 | .ts ..,h=>h
 | .nq ..,h=>h
 | .fz ..,_=>trivial
 | .bad,_=>trivial
theorem Ao.tri {new:Nat} {a:AV} {rd use mk:List HE} (h:(Ao.v a rd use mk).ok P Gl o E new):Dp P Gl o E (TL (use++rd)) new a (TL (mk++rd)):=by
 cases use with
 | nil=>
  cases mk with
  | nil=>exact Yd.tri h new
  | cons x l=>exact h
 | cons x l=>exact h
theorem Ao.of_tri {new:Nat} {a:AV} {rd use mk:List HE} (h:Dp P Gl o E (TL (use++rd)) new a (TL (mk++rd))) (hm:mk≠[]):(Ao.v a rd use mk).ok P Gl o E new:=by
 cases use with
 | nil=>
  cases mk with
  | nil=>exact absurd rfl hm
  | cons x l=>exact h
 | cons x l=>exact h
def tu (v:Option AV):Ao:=match v with | some a=> .v a [] [] [] | none=> .bad
def tG (P:Program) {α:Type}:Sem α→Option α
 | .pure a=>some a
 | .program k=>tG P (k P)
 | _=>none
theorem sW {α:Type} {a:α} {w:World} {s:Sem α} (h:tG P s=some a):s.run P w= .ok a w:=by
 induction s with
 | pure b=>injection h with h;subst h;rfl
 | program k ih=>exact ih P h
 | _=>cases h
def Dq (Gl E:AE) (x:Operand):Option Value:=match pR Gl E x with
 | some (.c v)=>some v
 | some (.t b)=>some (.bool b)
 | _=>none
def Dr (Gl E:AE):List Operand→Bool
 | []=>true
 | x::r=>match Dq Gl E x with
  | some _=>Dr Gl E r
  | none=>false
theorem vn: ∀ {xs:List Operand},Dr Gl E xs=true→ ∀x∈xs,∃v,Dq Gl E x=some v
 | [],_,x,hx=>by cases hx
 | y::r,h,x,hx=>by
  unfold Dr at h
  split at h
  ·rename_i v hv
   rcases List.mem_cons.1 hx with rfl | hx
   ·exact ⟨v,hv⟩
   ·exact vn h x hx
  ·cases h
theorem H4 {X:eQ} {W:World} {β:Be} {a:Act} (hE:ER X W β E a) (hG:tt X W Gl) {x:Operand} {v:Value} (h:Dq Gl E x=some v):a.eval x=v:=by
 unfold Dq at h
 split at h
 ·rename_i u hu;injection h with h;subst h;exact d7 hE hG hu
 ·rename_i b hu;injection h with h;subst h;exact d7 hE hG hu
 ·cases h
def nE (P:Program) (Gl E:AE) (o:Oper):Ao:=
 bif Er o.op then bif Dr Gl E o.op.operands.toList then
  match tG P (execOp (fun x=>(Dq Gl E x).getD undef) o) with
  | some (.value v)=> .v (.c v) [] [] []
  | _=> .bad
 else .bad else .bad
theorem rn:(nE P Gl E o).yd P Gl o E:=by
 unfold nE
 cases h1:Er o.op with
 | false=>trivial
 | true=>
  cases h2:Dr Gl E o.op.operands.toList with
  | false=>trivial
  | true=>
   simp only [cond_true]
   split
   ·rename_i v hv
    intro Y W β a hH hE hG
    refine ⟨v,?_,rfl⟩
    rw [execOp_congr o (ρ':=fun x=>(Dq Gl E x).getD undef) (fun cs b e=>by rw [e] at h1;cases h1) fun x hx=> ?_]
    ·exact sW hv
    ·obtain ⟨u,hu⟩:=vn h2 x (by simpa using hx)
     rw [hu,Option.getD_some,H4 hE hG hu]
   ·trivial
section
variable {T:TS} {Y:eQ} {W:World} {β:Be} {a:Act}
def fd:List HE→Nat→Option HE
 | [],_=>none
 | e::r,i=>bif Nat.beq e.id i then some e else fd r i
theorem gn: ∀ {H:List HE} {i:Nat} {e:HE},fd H i=some e→e∈H∧e.id=i
 | [],_,_,h=>by cases h
 | e::r,i,e',h=>by
  unfold fd at h
  cases hb:Nat.beq e.id i with
  | true=>rw [hb] at h;injection h with h;subst h;exact ⟨List.mem_cons_self,Nat.eq_of_beq_eq_true hb⟩
  | false=>rw [hb] at h;obtain ⟨h1,h2⟩:=gn h;exact ⟨List.mem_cons_of_mem _ h1,h2⟩
def sX (H:List HE):AV→Option (Ct×Bool×List HE)
 | .row x f=>some (x,f,[])
 | .own id none f=>match fd H id with
  | some e=>some (e.x,f,[e])
  | none=>none
 | .own id (some (lo,hi)) f=>match fd H id with
  | some e=>some (e.x.cut lo hi,f,[e])
  | none=>none
 | .c (.slice none 0 0)=>some (.nil,true,[])
 | _=>none
theorem jI (g o j:Nat):(⟨g,o,none⟩:Addr).add j=⟨g,o+j,none⟩:=by unfold Addr.add;split<;>simp_all
theorem qu {g j:Nat} {cur:Array Value} {ty:TypeId} {fr:Nat×Nat} {v:Value} (h:W.heap[g]? =some (.cells cur ty fr)) (hv:cur[j]? =some v):W.cell? ⟨g,j,none⟩=some v:=by
 simp [World.cell?,h,hv]
theorem pX {H:List HE} {v:AV} {u:Value} {x:Ct} {f:Bool} {rd:List HE} (h:sX H v=some (x,f,rd)) (hH:HR Y W β T) (hT: ∀e∈rd,T e) (hv:VR (eI Y β T) W β v u):
 ∃A c cs,u= .slice A cs.length c∧CR (eI Y β T) W β x cs∧cs.length≤c∧(f=true→c=cs.length)∧ ∀(j:Nat) (v:Value),cs[j]? =some v→ ∃a,A=some a∧W.cell? (a.add j)=some v:=by
 unfold sX at h
 split at h
 ·injection h with h;injection h with h1 h2;injection h2 with h2 h3;subst h1;subst h2;subst h3
  obtain ⟨A,n,c,cs,h1,h2,h3,h4,h5,h6⟩:=hv
  subst h3
  exact ⟨A,c,cs,h1,h2,h4,h5,fun j v hj=>by obtain ⟨a,k1,k2,_⟩:=h6 j v hj;exact ⟨a,k1,k2⟩⟩
 ·rename_i id f'
  split at h
  ·rename_i e he
   injection h with h;injection h with h1 h2;injection h2 with h2 h3;subst h1;subst h2;subst h3
   obtain ⟨A,c,bi,k1,k2,k3,k4,k5⟩:=hv
   obtain ⟨bi',cs,j1,j2,j3,j4,j5,_,j6⟩:=hH.ok e (hT e (by simp))
   rw [(gn he).2,k2] at j1
   injection j1 with j1;subst j1
   refine ⟨A,c,cs,by rw [j3];exact k1,j2,by rw [j3,k3];exact j4,by rw [j3];exact k4,fun j v hj=> ?_⟩
   have hlt:=(List.getElem?_eq_some_iff.1 hj).1
   have hA:=k5 (by omega)
   cases hb:bi.b with
   | none=>rw [hb] at j6;omega
   | some g=>
    rw [hb] at j6 hA
    obtain ⟨cur,q1,q2,q3,_⟩:=j6
    refine ⟨⟨g,bi.o,none⟩,hA,?_⟩
    rw [jI]
    refine qu q1 ?_
    rw [←q3,List.getElem?_take] at hj
    split at hj
    ·rw [List.getElem?_drop] at hj;simpa using hj
    ·cases hj
  ·cases h
 ·rename_i id lo hi f'
  split at h
  ·rename_i e he
   injection h with h;injection h with h1 h2;injection h2 with h2 h3;subst h1;subst h2;subst h3
   obtain ⟨A,c,bi,k1,k2,k3,k4,k5,k6,k7,k8⟩:=hv
   obtain ⟨bi',cs,j1,j2,j3,j4,j5,_,j6⟩:=hH.ok e (hT e (by simp))
   rw [(gn he).2,k2] at j1
   injection j1 with j1;subst j1
   have hl:((cs.take hi).drop lo).length=hi-lo:=by simp;omega
   refine ⟨A,c,(cs.take hi).drop lo,by rw [hl];exact k1,j2.cut lo hi,by rw [hl];exact k5,by rw [hl];exact k6,fun j v hj=> ?_⟩
   have hlt:=(List.getElem?_eq_some_iff.1 hj).1
   have hA:=k8 (by omega)
   cases hb:bi.b with
   | none=>rw [hb] at j6;omega
   | some g=>
    rw [hb] at j6 hA
    obtain ⟨cur,q1,q2,q3,_⟩:=j6
    refine ⟨⟨g,bi.o+lo,none⟩,hA,?_⟩
    rw [jI]
    refine qu q1 ?_
    rw [List.getElem?_drop,List.getElem?_take] at hj
    split at hj
    ·rw [←q3,List.getElem?_take] at hj
     split at hj
     ·rw [List.getElem?_drop,←Nat.add_assoc] at hj;simpa using hj
     ·cases hj
    ·cases hj
  ·cases h
 ·injection h with h;injection h with h1 h2;injection h2 with h2 h3;subst h1;subst h2;subst h3
  cases hv
  exact ⟨none,0,[],rfl,rfl,Nat.le_refl _,fun _=>rfl,fun j v h=>by cases h⟩
 ·cases h
def vo (H:List HE):AV→Option (Ct×Option Nat×Nat×Nat×List HE)
 | .ptr id off ext=>match fd H id with
  | some e=>some (e.x,off,ext,e.w,[e])
  | none=>none
 | .obj x off ext=>some (x,off,ext,0,[])
 | _=>none
theorem yb {H:List HE} {v:AV} {u:Value} {x:Ct} {off:Option Nat} {ext w:Nat} {rd:List HE} (h:vo H v=some (x,off,ext,w,rd)) (hH:HR Y W β T) (hT: ∀e∈rd,T e) (hv:VR (eI Y β T) W β v u):
 ∃g o cs,u= .pointer (some ⟨g,o+off.getD 0,none⟩)∧CR (eI Y β T) W β x cs∧off.getD 0+ext≤cs.length∧(w=0∨cs.length=w)∧ ∀(j:Nat) (v:Value),cs[j]? =some v→W.cell? ⟨g,o+j,none⟩=some v:=by
 unfold vo at h
 split at h
 ·rename_i id off' ext'
  split at h
  ·rename_i e he
   injection h with h;injection h with h1 h2;injection h2 with h2 h3;injection h3 with h3 h4;injection h4 with h4 h5;subst h1;subst h2;subst h3;subst h4;subst h5
   obtain ⟨g,bi,k1,k2,k3,k4⟩:=hv
   obtain ⟨bi',cs,j1,j2,j3,j4,j5,jw,j6⟩:=hH.ok e (hT e (by simp))
   rw [(gn he).2,k2] at j1
   injection j1 with j1;subst j1
   rw [k3] at j6
   obtain ⟨cur,q1,q2,q3,_⟩:=j6
   refine ⟨g,bi.o,cs,k1,j2,by rw [j3];exact k4,by rw [j3];exact jw.imp (fun h=>h) And.left,fun j v hj=> ?_⟩
   refine qu q1 ?_
   rw [←q3,List.getElem?_take] at hj
   split at hj
   ·rw [List.getElem?_drop] at hj;simpa using hj
   ·cases hj
  ·cases h
 ·injection h with h;injection h with h1 h2;injection h2 with h2 h3;injection h3 with h3 h4;injection h4 with h4 h5;subst h1;subst h2;subst h3;subst h4;subst h5
  obtain ⟨g,o,cs,k1,k2,k3,k4⟩:=hv
  refine ⟨g,o,cs,k1,k2,k3,.inl rfl,fun j v hj=> ?_⟩
  obtain ⟨a,e1,e2,_⟩:=k4 j v hj
  injection e1 with e1;subst e1
  rwa [jI] at e2
 ·cases h
end
def H5 (P:Program) (t:TypeId) (x:Ct) (off:Option Nat) (ext w:Nat):Option AV:=
 bif lf P t then (bif Nat.ble 1 ext then x.cell (off.getD 0) else none) else
  match P.info? t with
  | some info=>bif Nat.ble info.size ext then (match off with
   | none=>bif Nat.beq info.size w&& !(Nat.beq w 0) then some (.agg x info.size) else some (.agg (x.take info.size) info.size)
   | some off=>some (.agg (x.cut off (off+info.size)) info.size)) else none
  | none=>none
theorem N3 {P:Program} {t:TypeId} {W:World} {info:TypeInfo} (h:lf P t=false) (hi:P.info? t=some info) (hu:(P.underlying t).isSome=true):(isAgg t).run P W= .ok true W:=by
 unfold lf at h
 cases hu':P.underlying t with
 | none=>rw [hu'] at hu;cases hu
 | some d=>
  rw [hu'] at h
  simp only [isAgg,underlying,program,bind,Sem.bind,pure,Sem.run,hu']
  cases d<;>first | rfl | cases h
theorem yc {P:Program} {t:TypeId} {c:Ct} {off:Option Nat} {ext w g o':Nat} {r:AV} {X:eQ} {W:World} {β:Be} {cs:List Value} (hu:(P.underlying t).isSome=true) (hr:H5 P t c off ext w=some r) (h2:CR X W β c cs) (h3:off.getD 0+ext≤cs.length) (h4:w=0∨cs.length=w)
 (h5: ∀(j:Nat) (v:Value),cs[j]? =some v→W.cell? ⟨g,o'+j,none⟩=some v): ∃v,(loadVar t ⟨g,o'+off.getD 0,none⟩).run P W= .ok v W∧VR X W β r v:=by
 unfold H5 at hr
 cases hs:lf P t with
 | true=>
  rw [hs,cond_true] at hr
  cases hb:Nat.ble 1 ext with
  | false=>rw [hb] at hr;cases hr
  | true=>
   rw [hb,cond_true] at hr
   have hle:=Nat.le_of_ble_eq_true hb
   obtain ⟨v,k1,k2⟩:=h2.cell (by omega) hr
   exact ⟨v,wn hs (h5 _ v k1),k2⟩
 | false=>
  rw [hs,cond_false] at hr
  split at hr
  ·rename_i info hi
   cases hb:Nat.ble info.size ext with
   | false=>rw [hb] at hr;cases hr
   | true=>
    rw [hb,cond_true] at hr
    have hle:=Nat.le_of_ble_eq_true hb
    have hl:((cs.take (off.getD 0+info.size)).drop (off.getD 0)).length=info.size:=by simp;omega
    have hld:=run_loadCells_list (P:=P) (w:=W) ⟨g,o'+off.getD 0,none⟩ ((cs.take (off.getD 0+info.size)).drop (off.getD 0)) (fun j v hj=>by
     rw [List.getElem?_drop,List.getElem?_take] at hj
     split at hj
     ·rw [jI,Nat.add_assoc];exact h5 _ v hj
     ·cases hj)
    rw [hl] at hld
    have hrun:(loadVar t ⟨g,o'+off.getD 0,none⟩).run P W= .ok (.agg ((cs.take (off.getD 0+info.size)).drop (off.getD 0)).toArray) W:=by
     simp [loadVar,N3 hs hi hu,sizeOf,typeInfo,hi,hld]
    refine ⟨_,hrun,?_⟩
    cases off with
    | some off=>
     injection hr with hr;subst hr
     exact ⟨_,rfl,h2.cut _ _,hl⟩
    | none=>
     simp only [Option.getD_none,Nat.zero_add] at hl h3 ⊢
     cases hc:Nat.beq info.size w&& !(Nat.beq w 0) with
     | false=>
      simp only [hc] at hr
      injection hr with hr;subst hr
      exact ⟨cs.take info.size,by simp,h2.take,by simp;omega⟩
     | true=>
      simp only [hc] at hr
      injection hr with hr;subst hr
      simp only [Bool.and_eq_true,Bool.not_eq_true'] at hc
      have e2:=Nat.eq_of_beq_eq_true hc.1
      have e3:w≠0:=fun e=>by rw [e] at hc;cases hc.2
      have e4:cs.length=info.size:=by rw [e2];exact h4.resolve_left e3
      exact ⟨cs,by simp [←e4],h2,e4⟩
  ·cases hr
def AH (P:Program) (Gl E:AE) (H:List HE) (t:TypeId) (x:Operand):Ao:=
 bif (P.underlying t).isSome then
 match pR Gl E x with
 | some v=>match vo H v with
  | some (c,off,ext,w,rd)=>match H5 P t c off ext w with
   | some r=> .v r rd [] []
   | none=> .bad
  | none=> .bad
 | none=> .bad
 else .bad
theorem Ey {H:List HE} {t:TypeId} {x:Operand} (ho:o.op= .load t x):(AH P Gl E H t x).yd P Gl o E:=by
 unfold AH
 cases hu:(P.underlying t).isSome with
 | false=>trivial
 | true=>
  simp only [cond_true]
  split
  ·rename_i v hv
   split
   ·rename_i c off ext w rd hp
    split
    ·rename_i r hr
     intro Y W β a hH hE hG
     obtain ⟨g,o',cs,h1,h2,h3,h4,h5⟩:=yb hp hH (fun e he=>he) (d7 hE hG hv)
     obtain ⟨v,k1,k2⟩:=yc hu hr h2 h3 h4 h5
     refine ⟨v,?_,k2⟩
     simp only [execOp,ho,h1]
     refine gp ?_
     simp only [Instr.loadAt,Instr.sureAddr,bind,Sem.bind,pure]
     exact k1
    ·trivial
   ·trivial
  ·trivial
end Go.Scr.A
set_option linter.unnecessarySimpa false
namespace Go.Scr.A
variable {P:Program} {Gl:AE} {o:Oper} {E:AE} {H:List HE}
theorem Yd.of {rd:List HE} {v:AV} (h: ∀(Y:eQ) (W:World) (β:Be) (a:Act),HR Y W β (TL rd)→ER (eI Y β (TL rd)) W β E a→tt (eI Y β (TL rd)) W Gl→ ∃u,(execOp a.eval o).run P W= .ok (.value u) W∧VR (eI Y β (TL rd)) W β v u):Yd P Gl o E rd v:=h
def Dt:Operand→Bool
 | .const _=>true
 | _=>false
def wr (x:Operand) (b:Bool) (k:Ao):Ao:=bif Dt x then (match b with | true=>k | false=> .bad) else .nd b k
theorem pY {x:Operand} {b:Bool} {k:Ao} (h:b=true→k.yd P Gl o E):(wr x b k).yd P Gl o E:=by
 unfold wr
 cases Dt x with
 | true=>
  cases b with
  | true=>exact h rfl
  | false=>trivial
 | false=>exact h
def sC (Gl E:AE) (x:Operand):Option Int:=match pR Gl E x with
 | some (.c (.int _ i))=>some i
 | _=>none
theorem mV {X:eQ} {W:World} {β:Be} {a:Act} (hE:ER X W β E a) (hG:tt X W Gl) {x:Operand} {i:Int} (h:sC Gl E x=some i): ∃k,a.eval x= .int k i:=by
 unfold sC at h
 split at h
 ·rename_i k j hv;injection h with h;subst h;exact ⟨k,d7 hE hG hv⟩
 ·cases h
def Ez (i:Nat):AV→Option AV
 | .row x _=>some (.obj x (some i) 1)
 | .own id none _=>some (.ptr id (some i) 1)
 | .own id (some (lo,_)) _=>some (.ptr id (some (lo+i)) 1)
 | _=>none
def oh (H:List HE) (v:AV):Option (Nat×List HE):=match v with
 | .row x _=>some (x.len,[])
 | .own id none _=>match fd H id with
  | some e=>some (e.x.len,[e])
  | none=>none
 | .own id (some (lo,hi)) _=>match fd H id with
  | some e=>some (hi-lo,[e])
  | none=>none
 | .c (.slice none 0 0)=>some (0,[])
 | _=>none
theorem H6 {W:World} {a:Addr} {v:Value} (h:W.cell? a=some v):a.spot=none:=by
 unfold World.cell? at h
 split at h
 ·split at h
  ·cases h
  ·rename_i hs;simpa using hs
 ·cases h
section
variable {T:TS} {Y:eQ} {W:World} {β:Be} {u:Value} {v:AV} {n:Nat} {rd:List HE}
theorem sD (h:oh H v=some (n,rd)) (hH:HR Y W β T) (hT: ∀e∈rd,T e) (hv:VR (eI Y β T) W β v u): ∃A c,u= .slice A n c∧n≤c:=by
 unfold oh at h
 split at h
 ·injection h with h;injection h with h1 h2;subst h1
  obtain ⟨A,n,c,cs,h1,h2,h3,h4,_⟩:=hv
  exact ⟨A,c,by rw [h1,←h2.len,h3],by rw [←h2.len,h3];exact h4⟩
 ·split at h
  ·rename_i e he
   injection h with h;injection h with h1 h2;subst h1;subst h2
   obtain ⟨A,c,bi,k1,k2,k3,_⟩:=hv
   obtain ⟨bi',cs,j1,j2,j3,j4,_⟩:=hH.ok e (hT e (by simp))
   rw [(gn he).2,k2] at j1
   injection j1 with j1;subst j1
   exact ⟨A,c,by rw [k1,←j2.len,j3],by rw [←j2.len,j3,k3];exact j4⟩
  ·cases h
 ·split at h
  ·injection h with h;injection h with h1 h2;subst h1
   obtain ⟨A,c,bi,k1,k2,k3,k4,k5,_⟩:=hv
   exact ⟨A,c,k1,k5⟩
  ·cases h
 ·injection h with h;injection h with h1 h2;subst h1
  cases hv
  exact ⟨none,0,rfl,Nat.le_refl _⟩
 ·cases h
theorem Du {w:AV} {i:Nat} (h:oh H v=some (n,rd)) (hp:Ez i v=some w) (hi:i<n) (hH:HR Y W β T) (hT: ∀e∈rd,T e) (hv:VR (eI Y β T) W β v u):
 ∃a c,u= .slice (some a) n c∧VR (eI Y β T) W β w (.pointer (some (a.add i))):=by
 unfold oh at h
 split at h
 ·injection h with h;injection h with h1 h2;subst h1
  injection hp with hp;subst hp
  obtain ⟨A,n,c,cs,h1,h2,h3,h4,h5,h6⟩:=hv
  have hl:=h2.len
  have hlt:0<cs.length:=by omega
  obtain ⟨a,k1,k2,k3⟩:=h6 0 cs[0] (List.getElem?_eq_getElem hlt)
  have hs:a.spot=none:=H6 (a:=a) (by simpa [Addr.add] using k2)
  obtain ⟨g,of,sp⟩:=a
  simp only at hs;subst hs
  refine ⟨⟨g,of,none⟩,c,by rw [h1,k1,←hl,h3],?_⟩
  rw [jI]
  exact ⟨g,of,cs,rfl,h2,by simp;omega,by rw [←k1];exact h6⟩
 ·split at h
  ·rename_i id f e he
   injection h with h;injection h with h1 h2;subst h1;subst h2
   injection hp with hp;subst hp
   obtain ⟨A,c,bi,k1,k2,k3,k4,k5⟩:=hv
   obtain ⟨bi',cs,j1,j2,j3,j4,j5,_,j6⟩:=hH.ok e (hT e (by simp))
   rw [(gn he).2,k2] at j1
   injection j1 with j1;subst j1
   have hl:=j2.len
   have hA:=k5 (by omega)
   cases hb:bi.b with
   | none=>rw [hb] at j6;omega
   | some g=>
    rw [hb] at hA
    refine ⟨⟨g,bi.o,none⟩,c,by rw [k1,←hl,j3,hA];rfl,?_⟩
    rw [jI]
    exact ⟨g,bi,rfl,k2,hb,by simp;omega⟩
  ·cases h
 ·rename_i id lo hi' f
  split at h
  ·rename_i e he
   injection h with h;injection h with h1 h2;subst h1;subst h2
   injection hp with hp;subst hp
   obtain ⟨A,c,bi,k1,k2,k3,k4,k5,k6,k7,k8⟩:=hv
   obtain ⟨bi',cs,j1,j2,j3,j4,j5,_,j6⟩:=hH.ok e (hT e (by simp))
   rw [(gn he).2,k2] at j1
   injection j1 with j1;subst j1
   have hA:=k8 (by omega)
   cases hb:bi.b with
   | none=>rw [hb] at j6;omega
   | some g=>
    rw [hb] at hA
    refine ⟨⟨g,bi.o+lo,none⟩,c,by rw [k1,hA];rfl,?_⟩
    rw [jI,Nat.add_assoc]
    exact ⟨g,bi,rfl,k2,hb,by simp;omega⟩
  ·cases h
 ·cases hp
 ·cases h
end
def RK (P:Program) (t:TypeId):Nat:=match P.underlying t with
 | some (.slice _)=>1
 | some (.array _ _)=>2
 | some (.struct _)=>3
 | some .string=>4
 | _=>0
def wt (off:Option Nat) (i sz:Nat):Option Nat:=match off with
 | none=>some (bif Nat.beq sz 1 then i else i*sz)
 | some k=>some (k+bif Nat.beq sz 1 then i else i*sz)
def zB (len sz i:Nat):AV→Option AV
 | .ptr id off ext=>bif Nat.ble (len*sz) ext then some (.ptr id (wt off i sz) sz) else none
 | .obj x off ext=>bif Nat.ble (len*sz) ext then some (.obj x (wt off i sz) sz) else none
 | _=>none
theorem qw (off:Option Nat) (i sz:Nat):(wt off i sz).getD 0=off.getD 0+i*sz:=by
 have:(bif Nat.beq sz 1 then i else i*sz)=i*sz:=by
  cases h:Nat.beq sz 1 with
  | false=>rfl
  | true=>have:=Nat.eq_of_beq_eq_true h;subst this;simp
 cases off<;>simp [wt,this]
theorem Dv {X:eQ} {W:World} {β:Be} {len sz i:Nat} {v w:AV} {u:Value} (h:zB len sz i v=some w) (hi:i<len) (hv:VR X W β v u): ∃a,u= .pointer (some a)∧VR X W β w (.pointer (some (a.add (i*sz)))):=by
 have hle:i*sz+sz≤len*sz:=by rw [←Nat.succ_mul];exact Nat.mul_le_mul_right _ hi
 unfold zB at h
 split at h
 ·rename_i id off ext
  cases hb:Nat.ble (len*sz) ext with
  | false=>rw [hb] at h;cases h
  | true=>
   rw [hb] at h;injection h with h;subst h
   have:=Nat.le_of_ble_eq_true hb
   obtain ⟨g,bi,k1,k2,k3,k4⟩:=hv
   refine ⟨_,k1,?_⟩
   rw [jI]
   exact ⟨g,bi,by rw [qw,Nat.add_assoc],k2,k3,by rw [qw];omega⟩
 ·rename_i x off ext
  cases hb:Nat.ble (len*sz) ext with
  | false=>rw [hb] at h;cases h
  | true=>
   rw [hb] at h;injection h with h;subst h
   have:=Nat.le_of_ble_eq_true hb
   obtain ⟨g,o,cs,k1,k2,k3,k4⟩:=hv
   refine ⟨_,k1,?_⟩
   rw [jI]
   exact ⟨g,o,cs,by rw [qw,Nat.add_assoc],k2,by rw [qw];omega,k4⟩
 ·cases h
def H7 (P:Program) (Gl E:AE) (H:List HE) (t:TypeId) (x ix:Operand):Ao:=
 match pR Gl E x,sC Gl E ix with
 | some v,some i=>match P.underlying t with
  | some (.slice e)=>match P.info? e with
   | some info=>bif Nat.beq info.size 1 then (match oh H v,Ez i.toNat v with
    | some (n,rd),some w=>wr ix (decide (0≤i)) (.nd (decide (i<(n:Int))) (.v w rd [] []))
    | _,_=> .bad) else .bad
   | none=> .bad
  | some (.array len e)=>match P.info? e with
   | some info=>match zB len info.size i.toNat v with
    | some w=>wr ix (decide (0≤i)) (wr ix (decide (i<(len:Int))) (.v w [] [] []))
    | none=> .bad
   | none=> .bad
  | _=> .bad
 | _,_=> .bad
theorem H8 {t:TypeId} {x ix:Operand} (ho:o.op= .indexAddr t x ix):(H7 P Gl E H t x ix).yd P Gl o E:=by
 unfold H7
 split
 ·rename_i v i hv hi
  split
  ·rename_i e hu
   split
   ·rename_i info hinf
    cases hs:Nat.beq info.size 1 with
    | false=>trivial
    | true=>
     have hs:=Nat.eq_of_beq_eq_true hs
     simp only [cond_true]
     split
     ·rename_i n rd w hr hw
      refine pY fun h0=>fun h1=>Yd.of fun Y W β a hH hE hG=> ?_
      have h0:=of_decide_eq_true h0
      have h1:=of_decide_eq_true h1
      obtain ⟨a',c,e1,e2⟩:=Du hr hw (by omega) hH (fun e he=>he) (d7 hE hG hv)
      obtain ⟨k,e3⟩:=mV hE hG hi
      refine ⟨_,?_,e2⟩
      simp only [execOp,ho,e1,e3]
      exact gp (xX hu hinf hs h0 h1)
     ·trivial
   ·trivial
  ·rename_i len e hu
   split
   ·rename_i info hinf
    split
    ·rename_i w hw
     refine pY fun h0=>pY fun h1=>Yd.of fun Y W β a hH hE hG=> ?_
     have h0:=of_decide_eq_true h0
     have h1:=of_decide_eq_true h1
     obtain ⟨a',e1,e2⟩:=Dv hw (by omega) (d7 hE hG hv)
     obtain ⟨k,e3⟩:=mV hE hG hi
     refine ⟨_,?_,e2⟩
     simp only [execOp,ho,e1,e3]
     refine gp ?_
     simp [Instr.indexAt,Instr.sureAddr,asIntOf,underlying,sizeOf,typeInfo,program,bind,Sem.bind,pure,Sem.run,hu,hinf,h0,h1]
    ·trivial
   ·trivial
  ·trivial
 ·trivial
def zC (off sz:Nat):AV→Option AV
 | .ptr id none ext=>bif Nat.ble (off+sz) ext then some (.ptr id (some off) sz) else none
 | .ptr id (some k) ext=>bif Nat.ble (off+sz) ext then some (.ptr id (some (k+off)) sz) else none
 | .obj x none ext=>bif Nat.ble (off+sz) ext then some (.obj x (some off) sz) else none
 | .obj x (some k) ext=>bif Nat.ble (off+sz) ext then some (.obj x (some (k+off)) sz) else none
 | _=>none
theorem Dw {X:eQ} {W:World} {β:Be} {off sz:Nat} {v w:AV} {u:Value} (h:zC off sz v=some w) (hv:VR X W β v u): ∃a,u= .pointer (some a)∧VR X W β w (.pointer (some (a.add off))):=by
 unfold zC at h
 split at h
 ·cases hb:Nat.ble (off+sz) _ with
  | false=>rw [hb] at h;cases h
  | true=>
   rw [hb] at h;injection h with h;subst h
   have:=Nat.le_of_ble_eq_true hb
   obtain ⟨g,bi,k1,k2,k3,k4⟩:=hv
   refine ⟨_,k1,?_⟩
   rw [jI]
   exact ⟨g,bi,by simp,k2,k3,by simp at k4 ⊢;omega⟩
 ·cases hb:Nat.ble (off+sz) _ with
  | false=>rw [hb] at h;cases h
  | true=>
   rw [hb] at h;injection h with h;subst h
   have:=Nat.le_of_ble_eq_true hb
   obtain ⟨g,bi,k1,k2,k3,k4⟩:=hv
   refine ⟨_,k1,?_⟩
   rw [jI]
   exact ⟨g,bi,by simp,k2,k3,by simp at k4 ⊢;omega⟩
 ·cases hb:Nat.ble (off+sz) _ with
  | false=>rw [hb] at h;cases h
  | true=>
   rw [hb] at h;injection h with h;subst h
   have:=Nat.le_of_ble_eq_true hb
   obtain ⟨g,o,cs,k1,k2,k3,k4⟩:=hv
   refine ⟨_,k1,?_⟩
   rw [jI]
   exact ⟨g,o,cs,by simp,k2,by simp at k3 ⊢;omega,k4⟩
 ·cases hb:Nat.ble (off+sz) _ with
  | false=>rw [hb] at h;cases h
  | true=>
   rw [hb] at h;injection h with h;subst h
   have:=Nat.le_of_ble_eq_true hb
   obtain ⟨g,o,cs,k1,k2,k3,k4⟩:=hv
   refine ⟨_,k1,?_⟩
   rw [jI]
   exact ⟨g,o,cs,by simp [Nat.add_assoc],k2,by simp at k3 ⊢;omega,k4⟩
 ·cases h
def H9 (P:Program) (Gl E:AE) (t:TypeId) (x:Operand) (n:Nat):Ao:=
 match pR Gl E x with
 | some v=>match P.underlying t with
  | some (.struct fs)=>match fs[n]? with
   | some f=>match P.info? f.type with
    | some info=>bif Nat.beq info.size 0 then .bad else tu (zC f.offset info.size v)
    | none=> .bad
   | none=> .bad
  | _=> .bad
 | none=> .bad
theorem Ia {t:TypeId} {x:Operand} {n:Nat} (ho:o.op= .fieldAddr t x n):(H9 P Gl E t x n).yd P Gl o E:=by
 unfold H9
 split
 ·rename_i v hv
  split
  ·rename_i fs hu
   split
   ·rename_i f hf
    split
    ·rename_i info hi
     cases hz:Nat.beq info.size 0 with
     | true=>trivial
     | false=>
      have hz:info.size≠0:=fun e=>by rw [e] at hz;cases hz
      simp only [cond_false]
      unfold tu
      split
      ·rename_i w hw
       refine Yd.of fun Y W β a hH hE hG=> ?_
       obtain ⟨a',e1,e2⟩:=Dw hw (d7 hE hG hv)
       refine ⟨_,?_,e2⟩
       simp only [execOp,ho,e1]
       refine gp ?_
       simp [Instr.fieldAt,Instr.sureAddr,fieldPlace,run_underlying hu,hf,sizeOf,typeInfo,hi,hz]
      ·trivial
    ·trivial
   ·trivial
  ·trivial
 ·trivial
def Ib (P:Program) (Gl E:AE) (H:List HE) (t:TypeId) (x:Operand) (o:Oper):Ao:=
 match pR Gl E x with
 | some (.c _)=>nE P Gl E o
 | some v=>match RK P t with
  | 1=>match oh H v with
   | some (n,rd)=> .v (.c (.int .i64 (n:Int))) rd [] []
   | none=> .bad
  | _=> .bad
 | none=> .bad
theorem Kk {t:TypeId} (h:RK P t=1): ∃e,P.underlying t=some (.slice e):=by
 unfold RK at h
 split at h<;>first | exact ⟨_,by assumption⟩ | cases h
theorem Ic {t:TypeId} {x:Operand} (ho:o.op= .call ⟨.builtin .len,#[x],#[t]⟩):(Ib P Gl E H t x o).yd P Gl o E:=by
 unfold Ib
 split
 ·exact rn
 ·rename_i v _ hv
  split
  ·rename_i hk
   obtain ⟨e,hu⟩:=Kk hk
   split
   ·rename_i n rd hr
    refine Yd.of fun Y W β a hH hE hG=> ?_
    obtain ⟨A,c,e1,_⟩:=sD hr hH (fun e he=>he) (d7 hE hG hv)
    refine ⟨_,?_,rfl⟩
    simp [execOp,ho,resolve,invoke,builtin,Builtin.len_,run_underlying hu,e1,goInt]
   ·trivial
  ·trivial
 ·trivial
def Ie (P:Program) (Gl E:AE) (H:List HE) (t:TypeId) (x:Operand):Ao:=
 match pR Gl E x with
 | some v=>match RK P t with
  | 1=>match sX H v with
   | some (c,true,rd)=> .v (.c (.int .i64 (c.len:Int))) rd [] []
   | _=> .bad
  | _=> .bad
 | none=> .bad
theorem If {t:TypeId} {x:Operand} (ho:o.op= .call ⟨.builtin .cap,#[x],#[t]⟩):(Ie P Gl E H t x).yd P Gl o E:=by
 unfold Ie
 split
 ·rename_i v hv
  split
  ·rename_i hk
   obtain ⟨e,hu⟩:=Kk hk
   split
   ·rename_i x rd hr
    refine Yd.of fun Y W β a hH hE hG=> ?_
    obtain ⟨A,c,cs,e1,e2,e3,e4,_⟩:=pX hr hH (fun e he=>he) (d7 hE hG hv)
    have:=e4 rfl
    subst this
    refine ⟨_,?_,rfl⟩
    simp [execOp,ho,resolve,invoke,builtin,Builtin.cap_,run_underlying hu,e1,goInt,e2.len]
   ·trivial
  ·trivial
 ·trivial
end Go.Scr.A
