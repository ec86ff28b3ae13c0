/- The abstract machine and what it says of the memory. -/
import Derived.Test.YtdemmfohkhpklaaGreatDoorXa1
import Derived.Laws.CopyRow
import Derived.ArgAppend
import Derived.Lib.AppendZeros
import Derived.Lib.AppendZerosOnto
set_option linter.unusedVariables false
set_option linter.unusedSimpArgs false
set_option linter.unnecessarySimpa false
namespace Go.Scr.A
variable {P:Program} {Gl:AE} {o:Oper} {E:AE} {H:List HE} {new:Nat}
def AR:Operand→Operand→Bool
 | .tmp s,.tmp t=>Nat.beq s t
 | .const (.int _ a),.const (.int _ b)=>decide (a=b)
 | _,_=>false
def un (n:Nat):Ek→Option Ct
 | .n k=>some (.N k (List.replicate n 0))
 | .b=>some (.B (List.replicate n false))
 | .s=>some (.S (List.replicate n ByteArray.empty))
 | .r k=>some (.R k (List.replicate n []))
 | .t k=>some (.T k (List.replicate n []))
 | .o=>none
def rx:Ek→Value→Bool
 | .n k,.int k' 0=>kB k k'
 | .b,.bool false=>true
 | .r _,.slice none 0 0=>true
 | .t _,.slice none 0 0=>true
 | _,_=>false
theorem sF {X:eQ} {W:World} {β:Be} {n:Nat} {e:Ek} {x:Ct} {z:Value} (h:un n e=some x) (hz:rx e z=true):CR X W β x (List.replicate n z):=by
 unfold rx at hz
 split at hz
 ·have:=pW hz;subst this
  injection h with h;subst h
  simp [CR,nums]
 ·injection h with h;subst h
  simp [CR,ly]
 ·injection h with h;subst h
  refine ⟨by simp,fun j xs u h3 h4=> ?_⟩
  rw [List.getElem?_replicate] at h3 h4
  split at h3
  ·rename_i hj
   rw [if_pos hj] at h4
   injection h3 with h3;injection h4 with h4;subst h3;subst h4
   exact ⟨none,0,rfl,Nat.le_refl _,fun j v h=>by cases h⟩
  ·cases h3
 ·injection h with h;subst h
  refine ⟨by simp,fun j xs u h3 h4=> ?_⟩
  rw [List.getElem?_replicate] at h3 h4
  split at h3
  ·rename_i hj
   rw [if_pos hj] at h4
   injection h3 with h3;injection h4 with h4;subst h3;subst h4
   exact LG
  ·cases h3
 ·cases hz
theorem uo {x:Operand} {b:Bool} {k:Ao} (h:b=true→k.ok P Gl o E new):(wr x b k).ok P Gl o E new:=by
 unfold wr
 cases Dt x with
 | true=>
  cases b with
  | true=>exact h rfl
  | false=>trivial
 | false=>exact h
def AS (P:Program) (Gl E:AE) (new:Nat) (t:TypeId) (l c:Operand):Ao:=match P.underlying t with
 | some (.slice e)=>match P.info? e with
  | some info=>match info.zero,sC Gl E l,sC Gl E c with
   | some z,some i,some j=>bif Nat.beq info.size 1&&(Nat.ble info.bytes 64&&(pV z&&rx (zI P 4 e) z)) then
    (match un i.toNat (zI P 4 e) with
    | some x=>match AR l c with
     | true=>wr l (decide (0≤i)) (wr l (decide (i≤1000000000)) (bif AR l c then .v (.own new none true) [] [] [⟨new,false,e,0,x⟩] else .bad))
     | false=>wr l (decide (0≤i)) (wr c (decide (i≤j)) (wr c (decide (j≤1000000000)) (.v (.own new none false) [] [] [⟨new,false,e,0,x⟩])))
    | none=> .bad) else .bad
   | _,_,_=> .bad
  | none=> .bad
 | _=> .bad
theorem ES {l c:Operand} (h:AR l c=true) {i j:Int} (hl:sC Gl E l=some i) (hc:sC Gl E c=some j):i=j:=by
 unfold AR at h
 split at h
 ·have:=Nat.eq_of_beq_eq_true h;subst this
  rw [hl] at hc;injection hc
 ·have:=of_decide_eq_true h;subst this
  unfold sC pR cv at hl hc
  simp at hl hc
  rw [←hl,←hc]
 ·cases h
theorem AT {t e:TypeId} {info:TypeInfo} {z:Value} {l c:Operand} {i j:Int} {x:Ct} {f:Bool} (ho:o.op= .makeSlice t l c) (hu:P.underlying t=some (.slice e)) (hi:P.info? e=some info) (hz:info.zero=some z) (hs:info.size=1) (hb:info.bytes≤64)
 (h1:pV z=true) (h2:rx (zI P 4 e) z=true) (hx:un i.toNat (zI P 4 e)=some x) (hl:sC Gl E l=some i) (hc:sC Gl E c=some j) (h0:0≤i) (hij:i≤j) (hj:j≤1000000000) (hf:f=true→i=j):
 (Ao.v (.own new none f) [] [] [⟨new,false,e,0,x⟩]).ok P Gl o E new:=by
 refine qz rfl rfl fun Y W β a hH hE hG=> ?_
 obtain ⟨kl,e1⟩:=mV hE hG hl
 obtain ⟨kc,e2⟩:=mV hE hG hc
 have hr:=run_make (P:=P) W t e info z hu hi hz kl kc i j h0 hij (by
  have:(info.bytes:Int)*j≤64*1000000000:=Int.mul_le_mul (by omega) hj (by omega) (by omega)
  omega) (by omega)
 have e3:z.cells= #[z]:=kG h1
 rw [hs,Nat.mul_one,e3] at hr
 have e4:(madeCells #[z] j.toNat)=(List.replicate j.toNat z).toArray:=by rw [←toList_madeCells_one z j.toNat]
 rw [e4] at hr
 refine ⟨.slice (some ⟨W.heap.size,0,none⟩) i.toNat j.toNat,_,(List.replicate j.toNat z).toArray,List.replicate i.toNat z,j.toNat,.inl ?_,ru.of W _ e,sF hx h2,by simp;omega,by simp [maxLen];omega,.inl rfl,by simp,by simp;omega,
  fun X' W' β' hb=>⟨some ⟨W.heap.size,0,none⟩,j.toNat,_,?_,hb,rfl,fun hf'=> ?_,fun _=>rfl⟩⟩
 ·simp only [execOp,ho,e1,e2]
  exact gp hr
 ·simp
 ·have:=hf hf';subst this;simp
theorem ET {t:TypeId} {l c:Operand} (ho:o.op= .makeSlice t l c):(AS P Gl E new t l c).ok P Gl o E new:=by
 unfold AS
 split
 ·rename_i e hu
  split
  ·rename_i info hi
   split
   ·rename_i z i j hz hl hc
    cases hb:Nat.beq info.size 1&&(Nat.ble info.bytes 64&&(pV z&&rx (zI P 4 e) z)) with
    | false=>trivial
    | true=>
     simp only [Bool.and_eq_true] at hb
     obtain ⟨b1,b2,b3,b4⟩:=hb
     simp only [cond_true]
     split
     ·rename_i x hx
      split
      ·rename_i hst
       refine uo fun h0=>uo fun h1=> ?_
       rw [hst,cond_true]
       have heq:=ES hst hl hc
       have h0:=of_decide_eq_true h0
       have h1:=of_decide_eq_true h1
       exact AT ho hu hi hz (Nat.eq_of_beq_eq_true b1) (Nat.le_of_ble_eq_true b2) b3 b4 hx hl hc h0 (by omega) (by omega) (fun _=>heq)
      ·refine uo fun h0=>uo fun h1=>uo fun h2=> ?_
       exact AT ho hu hi hz (Nat.eq_of_beq_eq_true b1) (Nat.le_of_ble_eq_true b2) b3 b4 hx hl hc (of_decide_eq_true h0) (of_decide_eq_true h1) (of_decide_eq_true h2) (fun h=>by cases h)
     ·trivial
   ·trivial
  ·trivial
 ·trivial
def Ct.ones:Ct→Bool
 | .cons a r=>tv a&&r.ones
 | _=>true
theorem AU {v:Value} (h:pV v=true):v.oneCell'=true:=by cases v<;>first | rfl | cases h
theorem CR.ones {X:eQ} {W:World} {β:Be}: ∀ {x:Ct} {cs:List Value},x.ones=true→CR X W β x cs→ ∀v∈cs,v.oneCell'=true
 | .N k xs,cs,_,h=>by cases h;intro v hv;simp [nums] at hv;obtain ⟨a,_,rfl⟩:=hv;rfl
 | .B xs,cs,_,h=>by cases h;intro v hv;simp [ly] at hv;rcases hv with ⟨_,rfl⟩ | ⟨_,rfl⟩<;>rfl
 | .S xs,cs,_,h=>by cases h;intro v hv;simp [qJ] at hv;obtain ⟨a,_,rfl⟩:=hv;rfl
 | .R k xs,cs,_,h=>by
  intro v hv
  obtain ⟨i,hi,rfl⟩:=List.getElem_of_mem hv
  obtain ⟨A,c,h1,_⟩:=h.2 i _ _ (o9 [] (by rw [←h.1];exact hi)) (List.getElem?_eq_getElem hi)
  rw [h1];rfl
 | .T k xs,cs,_,h=>by
  intro v hv
  obtain ⟨i,hi,rfl⟩:=List.getElem_of_mem hv
  obtain ⟨A,c,h1,_⟩:=h.2 i _ _ (o9 [] (by rw [←h.1];exact hi)) (List.getElem?_eq_getElem hi)
  rw [h1];rfl
 | .nil,cs,_,h=>by cases h;intro v hv;cases hv
 | .cons a r,cs,ho,h=>by
  obtain ⟨v,cs',rfl,h2,h3⟩:=h
  unfold Ct.ones at ho
  rw [Bool.and_eq_true] at ho
  intro w hw
  rcases List.mem_cons.1 hw with rfl | hw
  ·exact AU (pa ho.1 h2)
  ·exact CR.ones ho.2 h3 w hw
def np (l:List HE) (i:Nat):Bool:=l.all fun x=> !(Nat.beq x.id i)
theorem mN {l:List HE} {i:Nat} (h:np l i=true): ∀x∈l,x.id≠i:=fun x hx he=>by
 have:=List.all_eq_true.1 h x hx
 rw [he,Nat.beq_refl] at this;cases this
def N7:Ct→Bool
 | .R _ _=>true
 | .T _ _=>true
 | _=>false
def Fv.of (b:Bool) (H:List HE) (v:AV):Fv:=bif b then LJ H v else .ok v []
theorem Fv.of_ok {T:TS} {Y:eQ} {W:World} {β:Be} {b:Bool} {v w:AV} {u:Value} {rd:List HE} (h:Fv.of b H v= .ok w rd) (hH:HR Y W β T) (hT: ∀e∈rd,T e) (hv:VR (eI Y β T) W β v u):VR (eI Y β T) W β w u:=by
 cases b with
 | true=>exact zJ h hH hT hv
 | false=>injection h with h1 h2;subst h1;exact hv
def LL (x:Ct) (w:Nat) (off:Option Nat) (c:Ct) (n:Nat):Option Ct:=match off with
 | none=>bif Nat.beq n w&& !(Nat.beq w 0) then some c else c.app (x.drop n)
 | some off=>match (x.take off).app c with
  | some y=>y.app (x.drop (off+n))
  | none=>none
theorem Iu {X:eQ} {W:World} {β:Be} {x c y:Ct} {w n:Nat} {off:Option Nat} {cs ds:List Value} (h:LL x w off c n=some y) (hx:CR X W β x cs) (hc:CR X W β c ds) (hw:w=0∨cs.length=w) (hn:ds.length=n) (hle:off.getD 0+n≤cs.length):
 CR X W β y (cs.take (off.getD 0)++ds++cs.drop (off.getD 0+n)):=by
 unfold LL at h
 split at h
 ·cases hb:Nat.beq n w&& !(Nat.beq w 0) with
  | true=>
   rw [hb] at h;injection h with h;subst h
   simp only [Bool.and_eq_true,Bool.not_eq_true'] at hb
   have e1:=Nat.eq_of_beq_eq_true hb.1
   have e2:w≠0:=fun e=>by rw [e] at hb;cases hb.2
   have e3:=hw.resolve_left e2
   have:cs.drop (0+n)=[]:=List.drop_eq_nil_of_le (by omega)
   simp only [Option.getD_none,this,List.take_zero,List.nil_append,List.append_nil];exact hc
  | false=>
   rw [hb] at h
   simp only [Option.getD_none,List.take_zero,List.nil_append,Nat.zero_add]
   exact hc.app hx.drop h
 ·split at h
  ·rename_i off y' hy
   exact (hx.take.app hc hy).app hx.drop h
  ·cases h
theorem DE {W:World} {g of b:Nat} {cur:Array Value} {ty:TypeId} {cs ds:List Value} (hg:W.heap[g]? =some (.cells cur ty (0,0))) (hcs:(cur.toList.drop b).take cs.length=cs) (hcl:b+cs.length≤cur.size) (hle:of+ds.length≤cs.length) (h1: ∀v∈ds,v.oneCell'=true):
 ∃W1 cur',(storeCells ⟨g,b+of,none⟩ ds).run P W= .ok () W1∧cur'.size=cur.size∧W1.os=W.os∧W1.tape=W.tape∧W1.output=W.output∧W1.heap.size=W.heap.size∧W1.heap[g]? =some (.cells cur' ty (0,0))∧(∀b,b≠g→W1.heap[b]? =W.heap[b]?)∧
  (cur'.toList.drop b).take cs.length=cs.take of++ds++cs.drop (of+ds.length):=by
 have hr:=run_storeCells_at P g (b+of) ty ds 0 cur W hg (by omega) h1
 simp only [Nat.add_zero] at hr
 have hl:cur.toList.length=cur.size:=by simp
 refine ⟨_,_,hr,by simp;omega,rfl,rfl,rfl,by simp,setRow_heap W g cur _ ty _ hg,fun b hb=>setRow_other W g b _ hb,?_⟩
 simp only
 apply List.ext_getElem?
 intro j
 have hcj: ∀j,j<cs.length→cur.toList[b+j]? =cs[j]? :=fun j hj=>by
  have:((cur.toList.drop b).take cs.length)[j]? =cs[j]? :=by rw [hcs]
  rw [List.getElem?_take,if_pos hj,List.getElem?_drop] at this;exact this
 rw [List.getElem?_take]
 split
 ·rename_i hj
  simp only [List.getElem?_append,List.length_append,List.length_take,List.getElem?_take,List.getElem?_drop]
  have m1:min (b+of) cur.toList.length=b+of:=by omega
  have m2:min of cs.length=of:=by omega
  rw [m1,m2]
  by_cases q1:j<of+ds.length
  ·rw [if_pos q1,if_pos (show b+j<b+of+ds.length by omega)]
   by_cases q2:j<of
   ·rw [if_pos q2,if_pos (show b+j<b+of by omega),if_pos q2,if_pos (show b+j<b+of by omega)]
    exact hcj j hj
   ·rw [if_neg q2,if_neg (show ¬b+j<b+of by omega),show b+j-(b+of)=j-of by omega]
  ·rw [if_neg q1,if_neg (show ¬b+j<b+of+ds.length by omega),show b+of+ds.length+(b+j-(b+of+ds.length))=b+j by omega,show of+ds.length+(j-(of+ds.length))=j by omega];exact hcj j hj
 ·rename_i hj
  symm
  rw [List.getElem?_eq_none]
  simp;omega
def up (P:Program) (Gl E:AE) (H:List HE) (t:TypeId) (x v:Operand):Ao:=match pR Gl E x,pR Gl E v,P.info? t with
 | some (.ptr id off ext),some a,some info=>match fd H id with
  | some e=>bif !e.fz&&Nat.ble info.size ext then (match a with
   | .agg c n=>bif Nat.beq n info.size&&c.ones then (match LL e.x e.w off c n with
    | some y=> .v (.c undef) [] [e] [{e with x:=y}]
    | none=> .bad) else .bad
   | a=>bif Nat.beq info.size 1&&tv a then (match Fv.of (N7 e.x) H a with
    | .ok b rd=>match e.x.set (off.getD 0) b with
     | some y=>bif np rd e.id then .v (.c undef) rd [e] [{e with x:=y}] else .bad
     | none=> .bad
    | .fz id=> .fz id) else .bad) else .bad
  | none=> .bad
 | _,_,_=> .bad
theorem wD {W W1:World} {t:TypeId} {info:TypeInfo} {p:Addr} {v:Value} (hi:P.info? t=some info) (hc:v.cells.toList.length=info.size) (h:(storeCells p v.cells.toList).run P W= .ok () W1):(storeVar t p v).run P W= .ok () W1:=by
 have:v.cells.size=info.size:=by simpa using hc
 simp [storeVar,sizeOf,typeInfo,hi,this,h]
theorem DF {t:TypeId} {x v:Operand} (ho:o.op= .store t x v):(up P Gl E H t x v).ok P Gl o E new:=by
 unfold up
 split
 ·rename_i id off ext a info hx hv hi
  split
  ·rename_i e he
   cases hb: !e.fz&&Nat.ble info.size ext with
   | false=>trivial
   | true=>
    simp only [Bool.and_eq_true,Bool.not_eq_true'] at hb
    obtain ⟨hfz,hb⟩:=hb
    have hle:=Nat.le_of_ble_eq_true hb
    simp only [cond_true]
    have main: ∀(rd:List HE) (y:Ct),(∀z∈rd,z.id≠e.id)→(∀(Y:eQ) (W:World) (β:Be) (ac:Act),HR Y W β (TL ([e]++rd))→ER (eI Y β (TL ([e]++rd))) W β E ac→tt (eI Y β (TL ([e]++rd))) W Gl→
     ∃ds,(ac.eval v).cells.toList=ds∧ds.length=info.size∧(∀u∈ds,u.oneCell'=true)∧ ∀cs,CR (eI Y β (TL ([e]++rd))) W β e.x cs→off.getD 0+info.size≤cs.length→(e.w=0∨cs.length=e.w)→CR (eI Y β (TL ([e]++rd))) W β y (cs.take (off.getD 0)++ds++cs.drop (off.getD 0+info.size)))→
     (Ao.v (.c undef) rd [e] [{e with x:=y}]).ok P Gl o E new:=by
     intro rd y hd hm
     refine AP rfl rfl rfl hfz hfz hd fun Y W β ac hH hE hG=> ?_
     obtain ⟨ds,m1,m2,m3,m4⟩:=hm Y W β ac hH hE hG
     obtain ⟨g,bi,k1,k2,k3,k4⟩:=d7 hE hG hx
     have hok:=hH.ok e (by simp)
     obtain ⟨bi',cs,j1,j2,j3,j4,j5,jw,j6⟩:=hok
     rw [(gn he).2,k2] at j1
     injection j1 with j1;subst j1
     rw [k3] at j6
     obtain ⟨cur,q1,q2,q3,_⟩:=j6
     rw [←j3] at q3
     obtain ⟨W1,cur',r1,r2,r3,r4,r5,r6,r7,r8,r9⟩:=DE (P:=P) (b:=bi.o) (of:=off.getD 0) (ds:=ds) q1 q3 (by omega) (by omega) m3
     refine ⟨undef,W1,.inr ⟨?_,rfl⟩,rfl,.inr ⟨g,bi,cur,cur',_,by rw [(gn he).2];exact k2,k3,q1,r2,r3,r4,r5,r6,r7,r8,m4 cs j2 (by omega) (by rw [j3];exact jw.imp (fun h=>h) And.left),by simp;omega,?_⟩⟩
     ·simp only [execOp,ho,k1]
      refine Dm ?_
      simp only [Instr.storeAt,Instr.sureAddr,bind,Sem.bind,pure]
      exact wD hi (by rw [m1,m2]) (by rw [m1];exact r1)
     ·rw [←j3,r9,m2]
    split
    ·rename_i c0 c n
     cases hb2:Nat.beq n info.size&&c.ones with
     | false=>trivial
     | true=>
      simp only [Bool.and_eq_true] at hb2
      have hn:=Nat.eq_of_beq_eq_true hb2.1
      simp only [cond_true]
      split
      ·rename_i y hy
       refine main [] y (fun z h=>by cases h) fun Y W β ac hH hE hG=> ?_
       obtain ⟨ds,d1,d2,d3⟩:=d7 hE hG hv
       refine ⟨ds,by rw [d1];simp [Value.cells],by omega,d2.ones hb2.2,fun cs h1 h2 h3=> ?_⟩
       subst hn
       exact Iu hy h1 d2 h3 d3 h2
      ·trivial
    ·rename_i hv'
     cases hb2:Nat.beq info.size 1&&tv a with
     | false=>trivial
     | true=>
      simp only [Bool.and_eq_true] at hb2
      have hn:=Nat.eq_of_beq_eq_true hb2.1
      simp only [cond_true]
      split
      ·rename_i b rd hfr
       split
       ·rename_i y hy
        cases hni:np rd e.id with
        | false=>trivial
        | true=>
         refine main rd y (mN hni) fun Y W β ac hH hE hG=> ?_
         have hav:=d7 hE hG hv
         have hbv:=Fv.of_ok hfr hH (fun e he=>List.mem_append_right _ he) hav
         refine ⟨[ac.eval v],by rw [kG (pa hb2.2 hav)],by rw [hn];rfl,fun u hu=>by rw [List.mem_singleton] at hu;subst hu;exact AU (pa hb2.2 hav),fun cs h1 h2 h3=> ?_⟩
         have:=CR.set h1 hbv hy
         rw [List.set_eq_take_append_cons_drop,if_pos (by omega)] at this
         rw [hn,List.append_assoc];exact this
       ·trivial
      ·trivial
  ·trivial
 ·trivial
end Go.Scr.A
namespace Go.Scr.A
variable {P:Program} {Gl:AE} {o:Oper} {E:AE} {H:List HE} {new:Nat}
structure LM (P:Program) (W:World) (e:TypeId) (g:Option Nat) (v:Value) (n:Nat) (cs:List Value) (W1:World):Prop where
 os:W1.os=W.os
 tape:W1.tape=W.tape
 output:W1.output=W.output
 size:W.heap.size≤W1.heap.size
 blk: ∀b,b<W.heap.size→some b≠g→W1.heap[b]? =W.heap[b]?
 is: ∃A c,v= .slice A n c∧cs.length=n∧((c=0∧n=0)∨ ∃g' o cur,A=some ⟨g',o,none⟩∧W1.heap[g']? =some (.cells cur e (0,0))∧n≤c∧c≤maxLen∧cur.size=o+c∧(cur.toList.drop o).take n=cs∧(some g'=g∨W.heap.size≤g'))
theorem LM.of_own {W W1:World} {e:TypeId} {v v':Value} {n:Nat} {cs:List Value} (ho:W1.ownsRow 0 e 1 v' n cs) (hg:W.grownBy W1 v.ownBlock) (hb:v'.ownBlock=v.ownBlock∨v'.ownBlock=some W.heap.size):LM P W e v.ownBlock v' n cs W1:=by
 refine ⟨hg.os,hg.tape,hg.output,hg.size,hg.block,?_⟩
 obtain ⟨h1,h2⟩:=ho
 rw [Nat.mul_one] at h1
 rcases h2 with ⟨rfl,rfl⟩ | ⟨g,cap,cur,rfl,h4,h5,h6,h7,h8,h9⟩
 ·exact ⟨none,0,rfl,h1,.inl ⟨rfl,rfl⟩⟩
 ·rw [Nat.mul_one] at h8 h9
  refine ⟨_,cap,rfl,h1,.inr ⟨g,0,cur,rfl,h5,h6,h7,h8.trans (Nat.zero_add _).symm,h9,?_⟩⟩
  rcases hb with hb | hb
  ·exact .inl hb
  ·right;injection hb with hb;simp at hb;omega
theorem Iw {W:World} {t ty e:TypeId} {info:TypeInfo} {z:Value} (hu:P.underlying t=some (.slice e)) (hi:P.info? e=some info) (hz:info.zero=some z) (hs:info.size=1) (hb:info.bytes≤64) (ho:pV z=true)
 {A A2:Option Addr} {m c m2 c2:Nat} {cs ys:List Value} (hm:cs.length=m) (hmc:m≤c)
 (hA:(0<c→ ∃g o cur,A=some ⟨g,o,none⟩∧W.heap[g]? =some (.cells cur e (0,0))∧c≤maxLen∧cur.size=o+c∧(cur.toList.drop o).take m=cs))
 (hm2:ys.length=m2) (hy: ∀(j:Nat) (v:Value),ys[j]? =some v→ ∃a,A2=some a∧W.cell? (a.add j)=some v) (h1: ∀u∈ys,u.oneCell'=true) (hl:m+m2≤1000000000):
 ∃v' W1,(Builtin.append_ #[t,t] ty #[.slice A m c,.slice A2 m2 c2]).run P W= .ok v' W1∧LM P W e (bif Nat.blt 0 c then (Value.slice A m c).ownBlock else none) v' (m+m2) (cs++ys) W1:=by
 have hlim:(m+m2)*info.bytes≤140737488355328:=by
  calc (m+m2)*info.bytes≤1000000000*64:=Nat.mul_le_mul hl hb
   _≤140737488355328:=by decide
 by_cases hc:0<c
 ·obtain ⟨g,o,cur,rfl,k2,k3,k4,k5⟩:=hA hc
  have hbl:Nat.blt 0 c=true:=by rw [Nat.blt_eq];exact hc
  rw [hbl,cond_true]
  cases A2 with
  | none=>
   have hy0:ys=[]:=by
    cases ys with
    | nil=>rfl
    | cons u r=>obtain ⟨ad,h3,_⟩:=hy 0 u rfl;cases h3
   subst hy0
   simp only [List.length_nil] at hm2
   subst hm2
   refine ⟨.slice (some ⟨g,o,none⟩) m c,W,?_,?_⟩
   ·simp only [Builtin.append_,Sem.run_bind]
    simp [run_underlying hu,sizeOf,typeInfo,hi,hs,Builtin.lenOf,Builtin.firstCells,hmc,storeCells]
   ·rw [List.append_nil,Nat.add_zero]
    exact ⟨rfl,rfl,rfl,Nat.le_refl _,fun _ _ _=>rfl,_,c,rfl,hm,.inr ⟨g,o,cur,rfl,k2,hmc,k3,k4,k5,.inl rfl⟩⟩
  | some a2=>
   have hnews: ∀(j:Nat) (u:Value),ys[j]? =some u→W.cell? (a2.add j)=some u:=fun j u hj=>by
    obtain ⟨ad,h3,h4⟩:=hy j u hj
    injection h3 with h3;subst h3;exact h4
   have hcl:cur.toList.length=cur.size:=by simp
   by_cases hfit:m+m2≤c
   ·have hst:=run_storeCells_at P g (o+m) e ys 0 cur W k2 (by omega) h1
    simp only [Nat.add_zero] at hst
    have hfc:=run_firstCells_some (P:=P) W info.size m2 a2 m2 c2 ys (by rw [hs,Nat.mul_one];exact hm2) hnews
    have hrun:(Builtin.append_ #[t,t] ty #[.slice (some ⟨g,o,none⟩) m c,.slice (some a2) m2 c2]).run P W= .ok (.slice (some ⟨g,o,none⟩) (m+m2) c) (W.setRow g (cur.toList.take (o+m)++ys++cur.toList.drop (o+m+ys.length)).toArray):=by
     rw [hs] at hfc
     simp [Builtin.append_,run_underlying hu,sizeOf,typeInfo,hi,hs,Builtin.lenOf,hfit,hfc,jI,hst]
    refine ⟨_,_,hrun,rfl,rfl,rfl,by simp,fun b hb hne=>setRow_other W g b _ (fun e=>hne (by rw [e];rfl)),_,c,rfl,by simp [hm,hm2],.inr ⟨g,o,_,rfl,setRow_heap W g cur _ e (0,0) k2,hfit,k3,by simp;omega,?_,.inl rfl⟩⟩
    have hd:cur.toList.take (o+m)=cur.toList.take o++cs:=by rw [←k5,List.take_add]
    simp only
    rw [hd,List.append_assoc,List.append_assoc,List.drop_append,List.drop_eq_nil_of_le (by simp;omega),List.nil_append,List.length_take,show o-min o cur.toList.length=0 by omega,List.drop_zero,←List.append_assoc,List.take_append,List.take_of_length_le (by simp [hm,hm2]),show m+m2-(cs++ys).length=0 by simp [hm,hm2],List.take_zero,List.append_nil]
   ·have holds: ∀(j:Nat) (u:Value),cs[j]? =some u→W.cell? ((⟨g,o,none⟩:Addr).add j)=some u:=fun j u hj=>by
     rw [jI]
     refine qu k2 ?_
     rw [←k5,List.getElem?_take] at hj
     split at hj
     ·rw [List.getElem?_drop] at hj;simpa using hj
     ·cases hj
    obtain ⟨v',W1,r1,r2,r3⟩:=run_append_arg_grows (P:=P) W t ty e info z 1 info.bytes hu hi hz hs rfl (by rw [kG ho];rfl) (by omega) ⟨g,o,none⟩ m c cs (by omega) holds a2 m2 c2 ys (by omega) hnews (by omega) (by simp [maxLen];omega) hlim
    refine ⟨v',W1,r1,r3.os,r3.tape,r3.output,r3.size,fun b hb _=>r3.block b hb (by simp),?_⟩
    obtain ⟨q1,q2⟩:=r2
    rw [Nat.mul_one] at q1
    rcases q2 with ⟨rfl,q3⟩ | ⟨g',cap,cur',rfl,h4,h5,h6,h7,h8,h9⟩
    ·omega
    ·rw [Nat.mul_one] at h8 h9
     exact ⟨_,cap,rfl,q1,.inr ⟨g',0,cur',rfl,h5,h6,h7,h8.trans (Nat.zero_add _).symm,h9,.inr h4⟩⟩
 ·have hc0:c=0:=by omega
  subst hc0
  have hm0:m=0:=by omega
  subst hm0
  have hcs:cs=[]:=List.eq_nil_of_length_eq_zero hm
  subst hcs
  have hbl:Nat.blt 0 0=false:=rfl
  rw [hbl,cond_false]
  by_cases h2:m2=0
  ·subst h2
   have hys:ys=[]:=List.eq_nil_of_length_eq_zero hm2
   subst hys
   refine ⟨.slice A 0 0,W,?_,rfl,rfl,rfl,Nat.le_refl _,fun _ _ _=>rfl,A,0,rfl,rfl,.inl ⟨rfl,rfl⟩⟩
   simp only [Builtin.append_,Sem.run_bind]
   cases A<;>cases A2<;>simp [run_underlying hu,sizeOf,typeInfo,hi,hs,Builtin.lenOf,Builtin.firstCells,storeCells,loadCells,loadCellsFrom]
  ·have hlt:0<ys.length:=by omega
   obtain ⟨a2,e2,_⟩:=hy 0 ys[0] (List.getElem?_eq_getElem hlt)
   subst e2
   have hnews: ∀(j:Nat) (u:Value),ys[j]? =some u→W.cell? (a2.add j)=some u:=fun j u hj=>by
    obtain ⟨ad,h3,h4⟩:=hy j u hj
    injection h3 with h3;subst h3;exact h4
   cases A with
   | none=>
    obtain ⟨v',W1,r1,r2,r3,_,r5⟩:=run_append_own_at (P:=P) W 0 t ty e info z 1 info.bytes hu hi hz hs rfl (by rw [kG ho];rfl) (by omega) (.slice none 0 0) 0 [] (World.ownsRow_nil W 0 e 1) a2 m2 c2 ys (by omega) hnews h1 (by simp [maxLen];omega) hlim (Nat.zero_le _)
    exact ⟨v',W1,r1,LM.of_own (v:= .slice none 0 0) r2 r3 r5⟩
   | some b=>
    obtain ⟨v',W1,r1,r2,r3⟩:=run_append_arg_grows (P:=P) W t ty e info z 1 info.bytes hu hi hz hs rfl (by rw [kG ho];rfl) (by omega) b 0 0 [] (by simp) (fun j u h=>by cases h) a2 m2 c2 ys (by omega) hnews (by omega) (by simp [maxLen];omega) hlim
    refine ⟨v',W1,r1,r3.os,r3.tape,r3.output,r3.size,r3.block,?_⟩
    obtain ⟨q1,q2⟩:=r2
    rw [Nat.mul_one] at q1
    rcases q2 with ⟨rfl,q3⟩ | ⟨g,cap,cur,rfl,h4,h5,h6,h7,h8,h9⟩
    ·omega
    ·rw [Nat.mul_one] at h8 h9
     exact ⟨_,cap,rfl,q1,.inr ⟨g,0,cur,rfl,h5,h6,h7,h8.trans (Nat.zero_add _).symm,h9,.inr h4⟩⟩
theorem wE {rd use:List HE} {e:HE} {f:Bool} (hid:e.id=new) (hfz:e.fz=false) (hw:e.w=0) (hd: ∀x∈rd,∀y∈use,x.id≠y.id) (hf:f=false)
 (h: ∀(Y:eQ) (W:World) (β:Be) (a:Act),HR Y W β (TL (use++rd))→ER (eI Y β (TL (use++rd))) W β E a→tt (eI Y β (TL (use++rd))) W Gl→
  ∃u W1 g n cs,vc P o a W u W1∧LM P W e.ty g u n cs W1∧(∀b,some b=g→fI β (TL use) b)∧CR (eI Y β (TL (use++rd))) W β e.x cs):Dp P Gl o E (TL (use++rd)) new (.own new none f) (TL ([e]++rd)):=by
 subst hf
 intro Y W β a hH hE hG hf
 obtain ⟨u,W1,g,n,cs,h1,h2,h3,h4⟩:=h Y W β a hH hE hG
 have hnew:β new=none:=hf new (Nat.le_refl _) (by omega)
 obtain ⟨A,c,k1,k2,k3⟩:=h2.is
 have hdis: ∀x,TL use x→TL rd x→False:=fun x hx hr=>hd x hr x hx rfl
 have hH0:HR Y W β (TU (TL use) (TL rd)):=by rw [nW];exact hH
 have hp0:=hH0.part hdis
 have eX:eI Y β (TL (use++rd))=eI (eI Y β (TL rd)) β (TL use):=by rw [←nW,o8]
 have main: ∀(bi:BI),bi.n=n→(bi.b=none∧bi.cap=0∧n=0∨ ∃g' cur,bi.b=some g'∧W1.heap[g']? =some (.cells cur e.ty (0,0))∧n≤bi.cap∧bi.cap≤maxLen∧cur.size=bi.o+bi.cap∧(cur.toList.drop bi.o).take n=cs∧(some g'=g∨W.heap.size≤g'))→
  (∀(X':eQ) (W':World) (β':Be),β' new=some bi→VR X' W' β' (.own new none false) u)→
  ∃u W' β',vc P o a W u W'∧HR Y W' β' (TL ([e]++rd))∧VR (eI Y β' (TL ([e]++rd))) W' β' (.own new none false) u∧qS W (fI β (TL (use++rd))) β W' (fI β' (TL ([e]++rd))) β'∧(∀i,i<new∨new+16≤i→β' i=β i):=by
  intro bi hn hb hv
  have hbe: ∀id b,β id=some b→put β new bi id=some b:=EP hnew
  have eblk: ∀g',ik (put β new bi) e.id=some g'→bi.b=some g':=fun g' hg=>by
   unfold ik at hg;rw [hid,pb] at hg;exact hg
  have hc:qS W (fI β (TL use)) β W1 (fI (put β new bi) (TL [e])) (put β new bi):=by
   refine ⟨h2.os,h2.tape,h2.output,h2.size,fun b hb hn=>h2.blk b hb fun e=>hn (h3 b e),hbe,?_⟩
   rintro g' ⟨x,hx,_,hg⟩
   have hx:x=e:=by simpa using hx
   subst hx
   rcases hb with ⟨hb,_⟩ | ⟨g2,cur,hb,_,_,_,_,_,hor⟩
   ·rw [eblk g' hg] at hb;cases hb
   ·rw [eblk g' hg] at hb;injection hb with hb;subst hb
    exact hor.imp (h3 _) id
  have hp:=hc.pers hp0.ylt
  have hx:HR (eI Y β (TL rd)) W1 (put β new bi) (TL [e]):=by
   refine ⟨?_,?_,?_,fun g hg=>Nat.lt_of_lt_of_le (hp0.ylt g hg) hc.size⟩
   ·intro x hx
    have hx:x=e:=by simpa using hx
    subst hx
    have hcr:CR (eI (eI Y β (TL rd)) (put β new bi) (TL [x])) W1 (put β new bi) x.x cs:=CR.pers hp (by rw [←eX];exact h4)
    rcases hb with ⟨hb1,hb2,hb3⟩ | ⟨g2,cur,hb1,hb2,hb3,hb4,hb5,hb6,hor⟩
    ·exact ⟨bi,cs,by rw [hid];exact pb _ _ _,hcr,by omega,by omega,by rw [hb2];exact Nat.zero_le _,.inl hw,by rw [hb1];exact hb2⟩
    ·refine ⟨bi,cs,by rw [hid];exact pb _ _ _,hcr,by omega,by omega,hb4,.inl hw,?_⟩
     rw [hb1]
     exact ⟨cur,hb2,hb5,by rw [hn];exact hb6,fun hh=>by rw [hfz] at hh;cases hh⟩
   ·intro x y hx hy hne
    have hx:x=e:=by simpa using hx
    have hy:y=e:=by simpa using hy
    exact absurd (hx.trans hy.symm) hne
   ·intro x hx _ g' hg hY
    have hx:x=e:=by simpa using hx
    subst hx
    rcases hb with ⟨hb,_⟩ | ⟨g2,cur,hb,_,_,_,_,_,hor⟩
    ·rw [eblk g' hg] at hb;cases hb
    ·rw [eblk g' hg] at hb;injection hb with hb;subst hb
     rcases hor with hor | hor
     ·obtain ⟨y,hy1,hy2,hy3⟩:=h3 _ hor
      exact hp0.out y hy1 hy2 _ hy3 hY
     ·have:=hp0.ylt _ hY;omega
  obtain ⟨r1,r2,r3⟩:=hH0.join hdis hx hc
  rw [nW] at r1 r2 r3
  rw [nW] at r2
  exact ⟨u,W1,_,h1,r1,hv _ _ _ (pb _ _ _),r2,fun i hi=>zK _ _ (by omega)⟩
 rcases k3 with ⟨k3,k4⟩ | ⟨g',o,cur,q1,q2,q3,q4,q5,q6,q7⟩
 ·refine main ⟨none,n,0,0⟩ rfl (.inl ⟨rfl,rfl,k4⟩) fun X' W' β' hb=>⟨A,c,_,k1,hb,k3,fun h=>(by cases h),fun h=>by omega⟩
 ·refine main ⟨some g',n,c,o⟩ rfl (.inr ⟨g',cur,rfl,q2,q3,q4,q5,q6,q7⟩) fun X' W' β' hb=>⟨A,c,_,k1,hb,rfl,fun h=>(by cases h),fun _=>q1⟩
def p8 (H:List HE) (ty:TypeId):AV→Option (Ct×List HE)
 | .own id none _=>match fd H id with
  | some e=>bif !e.fz&&Nat.beq e.ty ty then some (e.x,[e]) else none
  | none=>none
 | .own id (some (lo,hi)) false=>match fd H id with
  | some e=>bif !e.fz&&Nat.beq e.ty ty then some (bif Nat.beq lo 0 then e.x.take hi else (e.x.take hi).drop lo,[e]) else none
  | none=>none
 | .row .nil true=>some (.nil,[])
 | .c (.slice none 0 0)=>some (.nil,[])
 | _=>none
theorem oM {v:AV} {x:Ct} {f:Bool} {rd:List HE} (h:sX H v=some (x,f,rd)): ∀z∈rd,fd H z.id=some z:=by
 unfold sX at h
 split at h
 ·injection h with h;injection h with h1 h2;injection h2 with h2 h3;subst h3;intro z hz;cases hz
 ·split at h
  ·rename_i e he
   injection h with h;injection h with h1 h2;injection h2 with h2 h3;subst h3
   intro z hz;rw [List.mem_singleton] at hz;subst hz;rw [(gn he).2];exact he
  ·cases h
 ·split at h
  ·rename_i e he
   injection h with h;injection h with h1 h2;injection h2 with h2 h3;subst h3
   intro z hz;rw [List.mem_singleton] at hz;subst hz;rw [(gn he).2];exact he
  ·cases h
 ·injection h with h;injection h with h1 h2;injection h2 with h2 h3;subst h3;intro z hz;cases hz
 ·cases h
theorem sG {T:TS} {Y:eQ} {W:World} {β:Be} {v:AV} {u:Value} {x:Ct} {ty:TypeId} {use:List HE} (h:p8 H ty v=some (x,use)) (hH:HR Y W β T) (hT: ∀e∈use,T e) (hv:VR (eI Y β T) W β v u):
 ∃A m c cs,u= .slice A m c∧CR (eI Y β T) W β x cs∧cs.length=m∧m≤c∧(0<c→ ∃g o cur,A=some ⟨g,o,none⟩∧W.heap[g]? =some (.cells cur ty (0,0))∧c≤maxLen∧cur.size=o+c∧(cur.toList.drop o).take m=cs∧fI β (TL use) g):=by
 unfold p8 at h
 split at h
 ·rename_i id f
  split at h
  ·rename_i e he
   cases hb: !e.fz&&Nat.beq e.ty ty with
   | false=>rw [hb] at h;cases h
   | true=>
    rw [hb] at h;injection h with h;injection h with h1 h2;subst h1;subst h2
    simp only [Bool.and_eq_true,Bool.not_eq_true'] at hb
    have hty:=Nat.eq_of_beq_eq_true hb.2
    obtain ⟨A,c,bi,k1,k2,k3,k4,k5⟩:=hv
    obtain ⟨bi',cs,j1,j2,j3,j4,j5,_,j6⟩:=hH.ok e (hT e (by simp))
    rw [(gn he).2,k2] at j1
    injection j1 with j1;subst j1
    refine ⟨A,bi.n,c,cs,k1,j2,j3,by rw [k3];exact j4,fun hc=> ?_⟩
    cases hg:bi.b with
    | none=>rw [hg] at j6;omega
    | some g=>
     rw [hg] at j6
     obtain ⟨cur,q1,q2,q3,_⟩:=j6
     exact ⟨g,bi.o,cur,by rw [k5 hc,hg];rfl,by rw [←hty];exact q1,by omega,by omega,q3,e,by simp,hb.1,by unfold ik;rw [(gn he).2,k2];exact hg⟩
  ·cases h
 ·rename_i id lo hi
  split at h
  ·rename_i e he
   cases hb: !e.fz&&Nat.beq e.ty ty with
   | false=>rw [hb] at h;cases h
   | true=>
    rw [hb] at h;injection h with h;injection h with h1 h2;subst h1;subst h2
    simp only [Bool.and_eq_true,Bool.not_eq_true'] at hb
    have hty:=Nat.eq_of_beq_eq_true hb.2
    obtain ⟨A,c,bi,k1,k2,k3,k4,k5,k6,k7,k8⟩:=hv
    obtain ⟨bi',cs,j1,j2,j3,j4,j5,_,j6⟩:=hH.ok e (hT e (by simp))
    rw [(gn he).2,k2] at j1
    injection j1 with j1;subst j1
    have hcap:=k7 rfl
    have hcr:CR (eI Y β T) W β (bif Nat.beq lo 0 then e.x.take hi else (e.x.take hi).drop lo) ((cs.take hi).drop lo):=by
     cases hl:Nat.beq lo 0 with
     | true=>have:=Nat.eq_of_beq_eq_true hl;subst this;exact j2.take
     | false=>exact j2.cut lo hi
    refine ⟨A,hi-lo,c,(cs.take hi).drop lo,k1,hcr,by simp;omega,k5,fun hc=> ?_⟩
    cases hg:bi.b with
    | none=>rw [hg] at j6;omega
    | some g=>
     rw [hg] at j6
     obtain ⟨cur,q1,q2,q3,_⟩:=j6
     exact ⟨g,bi.o+lo,cur,by rw [k8 hc,hg];rfl,by rw [←hty];exact q1,by omega,by omega,by rw [←q3,List.take_take,Nat.min_eq_left k4,List.drop_take,List.drop_drop],e,by simp,hb.1,by unfold ik;rw [(gn he).2,k2];exact hg⟩
  ·cases h
 ·injection h with h;injection h with h1 h2;subst h1;subst h2
  obtain ⟨A,n,c,cs,k1,k2,k3,k4,k5,k6⟩:=hv
  have:=k5 rfl
  subst this
  cases k2
  simp only [List.length_nil] at k3
  subst k3
  exact ⟨A,0,0,[],k1,rfl,rfl,Nat.le_refl _,fun h=>by omega⟩
 ·injection h with h;injection h with h1 h2;subst h1;subst h2
  exact ⟨none,0,0,[],hv,rfl,rfl,Nat.le_refl _,fun h=>by omega⟩
 ·cases h
def Kn (use rd:List HE):List HE:=rd.filter fun z=>np use z.id
def EU (P:Program) (Gl E:AE) (H:List HE) (new:Nat) (t t':TypeId) (s x:Operand):Ao:=match pR Gl E s,pR Gl E x,P.underlying t with
 | some a,some b,some (.slice e)=>match P.info? e with
  | some info=>match info.zero with
   | some z=>bif Nat.beq t t'&&(Nat.beq info.size 1&&(Nat.ble info.bytes 64&&pV z)) then (match p8 H e a,sX H b with
    | some (c,use),some (d,_,rd)=>match c.app d with
     | some y=>bif d.ones then .nd (decide (c.len+d.len≤1000000000)) (.v (.own new none false) (Kn use rd) use [⟨new,false,e,0,y⟩]) else .bad
     | none=> .bad
    | _,_=> .bad) else .bad
   | none=> .bad
  | none=> .bad
 | _,_,_=> .bad
theorem sH {ty:TypeId} {v:AV} {x:Ct} {use:List HE} (h:p8 H ty v=some (x,use)): ∀z∈use,fd H z.id=some z:=by
 unfold p8 at h
 split at h
 ·split at h
  ·rename_i e he
   cases hb: !e.fz&&Nat.beq e.ty ty with
   | false=>rw [hb] at h;cases h
   | true=>
    rw [hb] at h;injection h with h;injection h with h1 h2;subst h2
    intro z hz;rw [List.mem_singleton] at hz;subst hz;rw [(gn he).2];exact he
  ·cases h
 ·split at h
  ·rename_i e he
   cases hb: !e.fz&&Nat.beq e.ty ty with
   | false=>rw [hb] at h;cases h
   | true=>
    rw [hb] at h;injection h with h;injection h with h1 h2;subst h2
    intro z hz;rw [List.mem_singleton] at hz;subst hz;rw [(gn he).2];exact he
  ·cases h
 ·injection h with h;injection h with h1 h2;subst h2;intro z hz;cases hz
 ·injection h with h;injection h with h1 h2;subst h2;intro z hz;cases hz
 ·cases h
theorem Ix {t t':TypeId} {s x:Operand} (ho:o.op= .call ⟨.builtin .append,#[s,x],#[t,t']⟩):(EU P Gl E H new t t' s x).ok P Gl o E new:=by
 unfold EU
 split
 ·rename_i a b e hs hx hu
  split
  ·rename_i info hi
   split
   ·rename_i z hz
    cases hb:Nat.beq t t'&&(Nat.beq info.size 1&&(Nat.ble info.bytes 64&&pV z)) with
    | false=>trivial
    | true=>
     simp only [Bool.and_eq_true] at hb
     obtain ⟨b1,b2,b3,b4⟩:=hb
     have b1:=Nat.eq_of_beq_eq_true b1
     subst b1
     have b2:=Nat.eq_of_beq_eq_true b2
     have b3:=Nat.le_of_ble_eq_true b3
     simp only [cond_true]
     split
     ·rename_i c use d f rd hc hd
      split
      ·rename_i y hy
       cases hon:d.ones with
       | false=>trivial
       | true=>
        refine fun hle=> ?_
        have hle:=of_decide_eq_true hle
        refine Ao.of_tri (wE rfl rfl rfl (fun x hx y hy=> ?_) rfl fun Y W β ac hH hE hG=> ?_) (by simp)
        ·have:=(List.mem_filter.1 hx).2
         exact fun e=>mN this y hy e.symm
        have sub: ∀z∈rd,TL (use++Kn use rd) z:=fun z hz=>by
         cases hn:np use z.id with
         | true=>exact List.mem_append_right _ (List.mem_filter.2 ⟨hz,hn⟩)
         | false=>
          have: ∃y∈use,y.id=z.id:=by
           refine Classical.byContradiction fun hne=> ?_
           have:np use z.id=true:=List.all_eq_true.2 fun y hy=>by
            cases hq:Nat.beq y.id z.id with
            | false=>rfl
            | true=>exact absurd ⟨y,hy,Nat.eq_of_beq_eq_true hq⟩ hne
           rw [hn] at this;cases this
          obtain ⟨y,hy,hyz⟩:=this
          have e1:=sH hc y hy
          have e2:=oM hd z hz
          rw [hyz,e2] at e1;injection e1 with e1;subst e1
          exact List.mem_append_left _ hy
        obtain ⟨A,m,cp,cs,e1,e2,e3,e4,e5⟩:=sG hc hH (fun z hz=>List.mem_append_left _ hz) (d7 hE hG hs)
        obtain ⟨A2,c2,ys,f1,f2,f3,f4,f5⟩:=pX hd hH sub (d7 hE hG hx)
        have hl1:=e2.len
        have hl2:=f2.len
        obtain ⟨v',W1,r1,r2⟩:=Iw (P:=P) (W:=W) (t:=t) (ty:=o.type) (c2:=c2) hu hi hz b2 b3 b4 e3 e4 (fun h=>by obtain ⟨g,o,cur,q1,q2,q3,q4,q5,_⟩:=e5 h;exact ⟨g,o,cur,q1,q2,q3,q4,q5⟩) rfl f5 (f2.ones hon) (by omega)
        refine ⟨v',W1,_,_,_,.inl ?_,r2,fun b hb=> ?_,e2.app f2 hy⟩
        ·simp only [execOp,ho,resolve,bind,Sem.bind,pure,invoke,builtin]
         refine gp ?_
         have:(#[s,x]:Array Operand).map ac.eval= #[.slice A m cp,.slice A2 ys.length c2]:=by simp [e1,f1]
         rw [this];exact r1
        ·cases hq:Nat.blt 0 cp with
         | false=>rw [hq] at hb;cases hb
         | true=>
          rw [hq,cond_true] at hb
          obtain ⟨g,_,cur,q1,_,_,_,_,q6⟩:=e5 (Nat.le_of_ble_eq_true hq)
          subst q1
          injection hb with hb;subst hb;exact q6
      ·trivial
     ·trivial
   ·trivial
  ·trivial
 ·trivial
end Go.Scr.A
namespace Go.Scr.A
variable {P:Program} {Gl:AE} {o:Oper} {E:AE} {H:List HE} {new:Nat}
def Iy (P:Program) (Gl E:AE) (H:List HE) (new:Nat) (t t':TypeId) (s x:Operand):Ao:=match pR Gl E s,sC Gl E x,P.underlying t,P.underlying t' with
 | some (.c (.slice none 0 0)),some i,some (.slice e),some (.int _)=>match P.info? e with
  | some info=>match info.zero,un i.toNat (zI P 4 e) with
   | some z,some y=>bif Nat.beq info.size 1&&(Nat.ble info.bytes 64&&(pV z&&rx (zI P 4 e) z)) then .nd (decide (0<i)) (.nd (decide (i≤1000000000)) (.v (.own new none false) [] [] [⟨new,false,e,0,y⟩])) else .bad
   | _,_=> .bad
  | none=> .bad
 | some a,some i,some (.slice e),some (.int _)=>match P.info? e with
  | some info=>match info.zero,un i.toNat (zI P 4 e),p8 H e a with
   | some z,some y,some (c,use)=>bif Nat.beq info.size 1&&(Nat.ble info.bytes 64&&(pV z&&rx (zI P 4 e) z)) then (match c.app y with
    | some y=> .nd (decide (0≤i)) (.nd (decide ((c.len:Int)+i≤1000000000)) (.v (.own new none false) [] use [⟨new,false,e,0,y⟩]))
    | none=> .bad) else .bad
   | _,_,_=> .bad
  | none=> .bad
 | _,_,_,_=> .bad
theorem yk {z:Value} (h:pV z=true) (q:Nat):Builtin.zeroCells z.cells q=(List.replicate q z).toArray:=by
 rw [kG h]
 apply Array.ext
 ·simp [Builtin.zeroCells]
 ·intro a h1 h2
  simp [Builtin.zeroCells,Nat.mod_one]
theorem mY {P:Program} (w:World) (t tn ty e:TypeId) (i:TypeInfo) (z:Value) (kq kn:IntKind) (ht:P.underlying t=some (.slice e)) (htn:P.underlying tn=some (.int kn)) (hi:P.info? e=some i) (hz:i.zero=some z)
 (hs:i.size=1) (base:Option Addr) (sLen sCap j:Nat) (hfit:sLen+j≤sCap) (hj:j≤1000000000) (hb:i.bytes≤64) (W:World)
 (hst: ∀a,base=some a→(storeCells (a.add sLen) (Builtin.zeroCells z.cells j).toList).run P w= .ok () W) (hn:base=none→W=w):
 (Builtin.append_ #[t,tn] ty #[.slice base sLen sCap,.int kq j]).run P w= .ok (.slice base (sLen+j) sCap) W:=by
 have hw:IntKind.i64.wrap (j:Int)=j:=by rw [IntKind.wrap_i64];omega
 have hneg:¬ ((j:Int)<0):=by omega
 have h48i:¬ (281474976710656<(j:Int)*(i.bytes:Int)):=by
  rw [←Int.natCast_mul]
  have:j*i.bytes≤1000000000*64:=Nat.mul_le_mul hj hb
  omega
 by_cases h0:j=0
 ·subst h0
  have hz0:Builtin.zeroCells z.cells 0= #[]:=by simp [Builtin.zeroCells]
  have hw0:IntKind.i64.wrap 0=0:=by rw [IntKind.wrap_i64];rfl
  rw [hz0] at hst
  cases base with
  | none=>
   have:=hn rfl;subst this
   simp [Builtin.append_,run_underlying ht,run_underlying htn,sizeOf,typeInfo,zeroValue,hi,hz,asInt,asIntOf,hw0,hs,hfit]
   try omega
  | some a=>
   have h2:=hst a rfl
   simp only [Array.toList_empty] at h2
   have h48z:¬ ((0:Int)*(i.bytes:Int)>281474976710656):=by omega
   simp [Builtin.append_,run_underlying ht,run_underlying htn,sizeOf,typeInfo,zeroValue,hi,hz,asInt,asIntOf,hw0,hs,hfit,h2]
   try omega
 ·cases base with
  | none=>
   have:=hn rfl;subst this
   simp [Builtin.append_,run_underlying ht,run_underlying htn,sizeOf,typeInfo,zeroValue,hi,hz,asInt,asIntOf,hw,hneg,h48i,hs,hfit,h0]
  | some a=>
   simp [Builtin.append_,run_underlying ht,run_underlying htn,sizeOf,typeInfo,zeroValue,hi,hz,asInt,asIntOf,hw,hneg,h48i,hs,hfit,h0,hst a rfl]
theorem Iz {W:World} {t tn ty e:TypeId} {info:TypeInfo} {z:Value} {kq kn:IntKind} (hu:P.underlying t=some (.slice e)) (hun:P.underlying tn=some (.int kn)) (hi:P.info? e=some info) (hz:info.zero=some z) (hs:info.size=1) (hb:info.bytes≤64) (ho:pV z=true)
 {A:Option Addr} {m c j:Nat} {cs:List Value} (hm:cs.length=m) (hmc:m≤c)
 (hA:(0<c→ ∃g o cur,A=some ⟨g,o,none⟩∧W.heap[g]? =some (.cells cur e (0,0))∧c≤maxLen∧cur.size=o+c∧(cur.toList.drop o).take m=cs)) (hl:m+j≤1000000000):
 ∃v' W1,(Builtin.append_ #[t,tn] ty #[.slice A m c,.int kq (j:Int)]).run P W= .ok v' W1∧LM P W e (bif Nat.blt 0 c then (Value.slice A m c).ownBlock else none) v' (m+j) (cs++List.replicate j z) W1:=by
 have hz1: ∀u∈List.replicate j z,u.oneCell'=true:=fun u hu=>by rw [List.eq_of_mem_replicate hu];cases z<;>first | rfl | cases ho
 have grow: ∀(hold:(Builtin.firstCells info.size m (.slice A m c)).run P W.drew= .ok cs.toArray W.drew),c<m+j→0<j→
  ∃v' W1,(Builtin.append_ #[t,tn] ty #[.slice A m c,.int kq (j:Int)]).run P W= .ok v' W1∧LM P W e (bif Nat.blt 0 c then (Value.slice A m c).ownBlock else none) v' (m+j) (cs++List.replicate j z) W1:=by
  intro hold hc hj
  have hnc:Builtin.nextslicecap (m+j) c*info.bytes≤281474976710656:=by
   have hcc:Builtin.nextslicecap (m+j) c≤2*(m+j):=nextslicecap_le (by omega)
   calc Builtin.nextslicecap (m+j) c*info.bytes≤2000000000*64:=Nat.mul_le_mul (by omega) hb
    _≤281474976710656:=by decide
  have hrun:=Lib.run_append_grow_zeros (P:=P) W t tn ty e info z kq kn hu hun hi hz A m c cs hold j hj (by omega) (by omega) (by omega) (by
   calc j*info.bytes≤1000000000*64:=Nat.mul_le_mul (by omega) hb
    _≤281474976710656:=by decide) hnc
  rw [yk ho,yk ho] at hrun
  have hcl':=grownCap_ge W (m+j) c e
  have hcm:=grownCap_le_maxLen W (m+j) c e (Nat.le_trans (show m+j≤1000000000 by omega) (by decide))
  rw [List.append_toArray,List.append_toArray,List.append_assoc,List.replicate_append_replicate,show j+(grownCap W (m+j) c e-(m+j))=grownCap W (m+j) c e-m by omega] at hrun
  refine ⟨_,_,hrun,rfl,rfl,rfl,by show W.heap.size≤(W.heap.push _).size;simp,fun b hlt hne=> ?_,some ⟨W.heap.size,0,none⟩,grownCap W (m+j) c e,rfl,by simp [hm],.inr ⟨W.heap.size,0,(cs++List.replicate (grownCap W (m+j) c e-m) z).toArray,rfl,?_,hcl',hcm,by simp [hm];omega,?_,.inr (Nat.le_refl _)⟩⟩
  ·show (W.heap.push _)[b]? =_
   rw [Array.getElem?_push,if_neg (by omega)]
  ·show (W.heap.push _)[W.heap.size]? =_
   rw [Array.getElem?_push_size]
  ·simp only [List.drop_zero]
   rw [List.take_append,List.take_of_length_le (by omega),hm,Nat.add_sub_cancel_left,List.take_replicate,Nat.min_eq_left (by omega)]
 by_cases hc:0<c
 ·obtain ⟨g,o,cur,rfl,k2,k3,k4,k5⟩:=hA hc
  have hcl:cur.toList.length=cur.size:=by simp
  have hbl:Nat.blt 0 c=true:=by rw [Nat.blt_eq];exact hc
  by_cases hfit:m+j≤c
  ·have hst:=run_storeCells_at P g (o+m) e (List.replicate j z) 0 cur W k2 (by simp;omega) hz1
   have hadd:(⟨g,o,none⟩:Addr).add m=⟨g,o+m,none⟩:=jI g o m
   have hrun:=mY (P:=P) W t tn ty e info z kq kn hu hun hi hz hs (some ⟨g,o,none⟩) m c j hfit (by omega) hb _ (fun a ha=>by
    injection ha with ha;subst ha
    rw [hadd,yk ho];exact hst) (fun hh=>by cases hh)
   refine ⟨_,_,hrun,?_⟩
   rw [hbl,cond_true]
   refine ⟨rfl,rfl,rfl,by simp,fun b hb hne=>setRow_other W g b _ (fun e=>hne (by rw [e];rfl)),_,c,rfl,by simp [hm],.inr ⟨g,o,_,rfl,setRow_heap W g cur _ e (0,0) k2,hfit,k3,by simp;omega,?_,.inl rfl⟩⟩
   have hd:cur.toList.take (o+m)=cur.toList.take o++cs:=by rw [←k5,List.take_add]
   simp only [Nat.add_zero]
   rw [hd,List.append_assoc,List.append_assoc,List.drop_append,List.drop_eq_nil_of_le (by simp;omega),List.nil_append,List.length_take,show o-min o cur.toList.length=0 by omega,List.drop_zero,←List.append_assoc,List.take_append,List.take_of_length_le (by simp [hm]),show m+j-(cs++List.replicate j z).length=0 by simp [hm],List.take_zero,List.append_nil]
  ·have hold:(Builtin.firstCells info.size m (.slice (some ⟨g,o,none⟩) m c)).run P W.drew= .ok cs.toArray W.drew:=by
    have hl:=run_loadCells_list (P:=P) (w:=W.drew) ⟨g,o,none⟩ cs (fun q v hq=>by
     rw [jI]
     have hlt:=(List.getElem?_eq_some_iff.1 hq).1
     rw [←k5,List.getElem?_take] at hq
     split at hq
     ·show W.cell? _=_
      rw [List.getElem?_drop] at hq
      simpa [World.cell?,k2] using hq
     ·cases hq)
    rw [hm] at hl
    simpa [Builtin.firstCells,hs] using hl
   exact grow hold (by omega) (by omega)
 ·have hc0:c=0:=by omega
  subst hc0
  have hm0:m=0:=by omega
  subst hm0
  have hcs:cs=[]:=List.eq_nil_of_length_eq_zero hm
  subst hcs
  by_cases hj:j=0
  ·subst hj
   have hz0:Builtin.zeroCells z.cells 0= #[]:=by simp [Builtin.zeroCells]
   refine ⟨.slice A 0 0,W,mY (P:=P) W t tn ty e info z kq kn hu hun hi hz hs A 0 0 0 (by omega) (by omega) hb W (fun a ha=>by rw [hz0];simp [storeCells]) (fun _=>rfl),rfl,rfl,rfl,Nat.le_refl _,fun _ _ _=>rfl,A,0,rfl,rfl,.inl ⟨rfl,rfl⟩⟩
  ·refine grow ?_ (by omega) (by omega)
   cases A<;>simp [Builtin.firstCells,loadCells,loadCellsFrom]
theorem IA {t t':TypeId} {s x:Operand} (ho:o.op= .call ⟨.builtin .append,#[s,x],#[t,t']⟩):(Iy P Gl E H new t t' s x).ok P Gl o E new:=by
 unfold Iy
 split
 ·rename_i i e kn hs hx hu hu'
  split
  ·rename_i info hi
   split
   ·rename_i z y hz hy
    cases hb:Nat.beq info.size 1&&(Nat.ble info.bytes 64&&(pV z&&rx (zI P 4 e) z)) with
    | false=>trivial
    | true=>
     simp only [Bool.and_eq_true] at hb
     obtain ⟨b1,b2,b3,b4⟩:=hb
     have b1:=Nat.eq_of_beq_eq_true b1
     have b2:=Nat.le_of_ble_eq_true b2
     refine fun h0=>fun h1=> ?_
     have h0:=of_decide_eq_true h0
     have h1:=of_decide_eq_true h1
     refine qz rfl rfl fun Y W β a hH hE hG=> ?_
     have e1:=d7 hE hG hs
     simp only [VR] at e1
     obtain ⟨kd,e2⟩:=mV hE hG hx
     obtain ⟨j,rfl⟩:=Int.eq_ofNat_of_zero_le (Int.le_of_lt h0)
     have hj:0<j:=by omega
     have hrun:=Lib.run_append_nil_zeros (P:=P) W t t' o.type e info z kd kn hu hu' hi hz j hj (by omega) (by omega) (by
      calc j*info.bytes≤1000000000*64:=Nat.mul_le_mul (by omega) b2
       _≤281474976710656:=by decide)
     rw [yk b3,yk b3] at hrun
     have hcl:=grownCap_ge W j 0 e
     have hcm:=grownCap_le_maxLen W j 0 e (Nat.le_trans (show j≤1000000000 by omega) (by decide))
     rw [List.append_toArray,List.replicate_append_replicate,Nat.add_sub_cancel' hcl] at hrun
     refine ⟨.slice (some ⟨W.heap.size,0,none⟩) j (grownCap W j 0 e),W.drew.alloc (.cells (List.replicate (grownCap W j 0 e) z).toArray e),(List.replicate (grownCap W j 0 e) z).toArray,List.replicate j z,grownCap W j 0 e,.inl ?_,⟨rfl,rfl,rfl,rfl⟩,?_,by simpa using hcl,hcm,.inl rfl,by simp,by simp;omega,
      fun X' W' β' hb=>⟨some ⟨W.heap.size,0,none⟩,grownCap W j 0 e,_,?_,hb,rfl,fun h=>(by cases h),fun _=>rfl⟩⟩
     ·simp only [execOp,ho,resolve,bind,Sem.bind,pure,invoke,builtin]
      refine gp ?_
      have:(#[s,x]:Array Operand).map a.eval= #[.slice none 0 0,.int kd j]:=by simp [e1,e2]
      rw [this];exact hrun
     ·exact sF hy b4
     ·simp
   ·trivial
  ·trivial
 ·rename_i a i e kn _ hs hx hu hu'
  split
  ·rename_i info hi
   split
   ·rename_i z y c use hz hy hc
    cases hb:Nat.beq info.size 1&&(Nat.ble info.bytes 64&&(pV z&&rx (zI P 4 e) z)) with
    | false=>trivial
    | true=>
     simp only [Bool.and_eq_true] at hb
     obtain ⟨b1,b2,b3,b4⟩:=hb
     have b1:=Nat.eq_of_beq_eq_true b1
     have b2:=Nat.le_of_ble_eq_true b2
     simp only [cond_true]
     split
     ·rename_i y' hy'
      refine fun h0=>fun h1=> ?_
      have h0:=of_decide_eq_true h0
      have h1:=of_decide_eq_true h1
      refine Ao.of_tri (wE (rd:=[]) rfl rfl rfl (fun x hx=>by cases hx) rfl fun Y W β ac hH hE hG=> ?_) (by simp)
      obtain ⟨A,m,cp,cs,e1,e2,e3,e4,e5⟩:=sG hc hH (fun z hz=>List.mem_append_left _ hz) (d7 hE hG hs)
      obtain ⟨kd,e6⟩:=mV hE hG hx
      obtain ⟨j,rfl⟩:=Int.eq_ofNat_of_zero_le h0
      have hl1:=e2.len
      rw [Int.toNat_natCast] at hy
      obtain ⟨v',W1,r1,r2⟩:=Iz (P:=P) (W:=W) (t:=t) (tn:=t') (ty:=o.type) (j:=j) (kq:=kd) hu hu' hi hz b1 b2 b3 e3 e4 (fun h=>by obtain ⟨g,o,cur,q1,q2,q3,q4,q5,_⟩:=e5 h;exact ⟨g,o,cur,q1,q2,q3,q4,q5⟩) (by omega)
      refine ⟨v',W1,_,_,_,.inl ?_,r2,fun b hb=> ?_,e2.app (sF hy b4) hy'⟩
      ·simp only [execOp,ho,resolve,bind,Sem.bind,pure,invoke,builtin]
       refine gp ?_
       have:(#[s,x]:Array Operand).map ac.eval= #[.slice A m cp,.int kd j]:=by simp [e1,e6]
       rw [this];exact r1
      ·cases hq:Nat.blt 0 cp with
       | false=>rw [hq] at hb;cases hb
       | true=>
        rw [hq,cond_true] at hb
        obtain ⟨g,_,cur,q1,_,_,_,_,q6⟩:=e5 (Nat.le_of_ble_eq_true hq)
        subst q1
        injection hb with hb;subst hb;exact q6
     ·trivial
   ·trivial
  ·trivial
 ·trivial
def R9 (p:Option (Nat×Nat)) (x d:Ct):Option (Nat×Ct):=match p with
 | none=>(match (d.take (Nat.min d.len x.len)).app (x.drop (Nat.min d.len x.len)) with | some y=>some (Nat.min d.len x.len,y) | none=>none)
 | some (lo,hi)=>(match (x.take lo).app (d.take (Nat.min d.len (hi-lo))) with
  | some y1=>(match y1.app (x.drop (lo+Nat.min d.len (hi-lo))) with | some y=>some (Nat.min d.len (hi-lo),y) | none=>none)
  | none=>none)
def yl (P:Program) (Gl E:AE) (H:List HE) (t:TypeId) (s x:Operand):Ao:=match pR Gl E s,pR Gl E x,P.underlying t with
 | some (.own id p f),some b,some (.slice e)=>match P.info? e,fd H id,sX H b with
  | some info,some en,some (d,_,rd)=>bif Nat.beq info.size 1&&(!en.fz&&(np rd en.id&&d.ones)) then
   (match R9 p en.x d with
   | some (n,y)=> .v (.c (.int .i64 (n:Int))) rd [en] [{en with x:=y}]
   | none=> .bad) else .bad
  | _,_,_=> .bad
 | _,_,_=> .bad
theorem DG {W:World} {t t' ty e:TypeId} {info:TypeInfo} (hu:P.underlying t=some (.slice e)) (hi:P.info? e=some info) (hs:info.size=1) {A A2:Option Addr} {dl c c2 lo:Nat} {cs ds:List Value} {bi:BI} {ety:TypeId}
 (hcl:cs.length=bi.n) (hlo:lo+dl≤bi.n) (hdc:dl≤c) (hA:0<c→A=bi.b.map fun g=>⟨g,bi.o+lo,none⟩) (hb:match bi.b with | none=>bi.cap=0 | some g=> ∃cur,W.heap[g]? =some (.cells cur ety (0,0))∧cur.size=bi.o+bi.cap∧(cur.toList.drop bi.o).take bi.n=cs) (hnc:bi.n≤bi.cap)
 (hd: ∀(j:Nat) (v:Value),ds[j]? =some v→ ∃a,A2=some a∧W.cell? (a.add j)=some v) (h1: ∀v∈ds,v.oneCell'=true):
 ∃W1,(Builtin.copy_ #[t,t'] ty #[.slice A dl c,.slice A2 ds.length c2]).run P W= .ok (goInt (Nat.min ds.length dl)) W1∧
  ((W1=W∧Nat.min ds.length dl=0)∨ ∃g cur cur',bi.b=some g∧W.heap[g]? =some (.cells cur ety (0,0))∧cur'.size=cur.size∧W1.os=W.os∧W1.tape=W.tape∧W1.output=W.output∧W1.heap.size=W.heap.size∧W1.heap[g]? =some (.cells cur' ety (0,0))∧(∀b,b≠g→W1.heap[b]? =W.heap[b]?)∧
   (cur'.toList.drop bi.o).take bi.n=cs.take lo++ds.take (Nat.min ds.length dl)++cs.drop (lo+Nat.min ds.length dl)):=by
 by_cases h0:Nat.min ds.length dl=0
 ·refine ⟨W,?_,.inl ⟨rfl,h0⟩⟩
  have h0':min ds.length dl=0:=h0
  cases A2 with
  | none=>cases A<;>simp [Builtin.copy_,run_underlying hu,Builtin.lenOf,Builtin.firstCells,sizeOf,typeInfo,hi,hs,storeCells,h0,h0']
  | some a2=>cases A<;>simp [Builtin.copy_,run_underlying hu,Builtin.lenOf,Builtin.firstCells,sizeOf,typeInfo,hi,hs,storeCells,h0,h0',loadCells,loadCellsFrom]
 ·have hmin:Nat.min ds.length dl=min ds.length dl:=rfl
  have hlt:0<ds.length:=by omega
  obtain ⟨a2,e2,_⟩:=hd 0 ds[0] (List.getElem?_eq_getElem hlt)
  subst e2
  have hA:=hA (by omega)
  cases hg:bi.b with
  | none=>rw [hg] at hb;simp only at hb;omega
  | some g=>
   rw [hg] at hb hA
   obtain ⟨cur,q1,q2,q3⟩:=hb
   subst hA
   have hlen:(ds.take (Nat.min ds.length dl)).length=Nat.min ds.length dl:=by simp
   have hr:=run_copy_row (P:=P) W t t' ty e g (bi.o+lo) dl c a2 ds.length c2 cur ety (ds.take (Nat.min ds.length dl)) hu (by rw [hi];simp [hs]) q1 hlen (fun j v hj=>by
    rw [List.getElem?_take] at hj
    split at hj
    ·obtain ⟨a,k1,k2⟩:=hd j v hj
     injection k1 with k1;subst k1;exact k2
    ·cases hj) (by rw [hlen];omega) (fun v hv=>h1 v (List.mem_of_mem_take hv))
   rw [hlen] at hr
   refine ⟨_,hr,.inr ⟨g,cur,(cur.toList.take (bi.o+lo)++ds.take (Nat.min ds.length dl)++cur.toList.drop (bi.o+lo+Nat.min ds.length dl)).toArray,rfl,q1,?_,rfl,rfl,rfl,by simp,setRow_heap W g cur _ ety _ q1,fun b hb=>setRow_other W g b _ hb,?_⟩⟩
   ·simp only [List.size_toArray,List.length_append,hlen];simp;omega
   ·simp only
    have hl:cur.toList.length=cur.size:=by simp
    apply List.ext_getElem?
    intro j
    have hcj: ∀j,j<cs.length→cur.toList[bi.o+j]? =cs[j]? :=fun j hj=>by
     have:((cur.toList.drop bi.o).take bi.n)[j]? =cs[j]? :=by rw [q3]
     rw [List.getElem?_take,if_pos (by omega),List.getElem?_drop] at this;exact this
    rw [List.getElem?_take]
    split
    ·rename_i hj
     simp only [List.getElem?_append,List.length_append,List.length_take,List.getElem?_take,List.getElem?_drop]
     have m1:min (bi.o+lo) cur.toList.length=bi.o+lo:=by omega
     have m2:min lo cs.length=lo:=by omega
     have m3:min (Nat.min ds.length dl) ds.length=Nat.min ds.length dl:=by omega
     rw [m1,m2,m3]
     generalize Nat.min ds.length dl=z at*
     by_cases p1:j<lo+z
     ·rw [if_pos p1,if_pos (show bi.o+j<bi.o+lo+z by omega)]
      by_cases p2:j<lo
      ·rw [if_pos p2,if_pos (show bi.o+j<bi.o+lo by omega),if_pos p2,if_pos (show bi.o+j<bi.o+lo by omega)]
       exact hcj j (by omega)
      ·rw [if_neg p2,if_neg (show ¬bi.o+j<bi.o+lo by omega),show bi.o+j-(bi.o+lo)=j-lo by omega]
     ·rw [if_neg p1,if_neg (show ¬bi.o+j<bi.o+lo+z by omega),show bi.o+lo+z+(bi.o+j-(bi.o+lo+z))=bi.o+j by omega,show lo+z+(j-(lo+z))=j by omega];exact hcj j (by omega)
    ·rename_i hj
     symm
     rw [List.getElem?_eq_none]
     simp;omega
theorem EV {t t':TypeId} {s x:Operand} (ho:o.op= .call ⟨.builtin .copy,#[s,x],#[t,t']⟩):(yl P Gl E H t s x).ok P Gl o E new:=by
 unfold yl
 split
 ·rename_i id p f b e hs hx hu
  split
  ·rename_i info en d fl rd hi hen hd
   cases hb:Nat.beq info.size 1&&(!en.fz&&(np rd en.id&&d.ones)) with
   | false=>trivial
   | true=>
    simp only [Bool.and_eq_true,Bool.not_eq_true'] at hb
    obtain ⟨b1,b2,b3,b4⟩:=hb
    have b1:=Nat.eq_of_beq_eq_true b1
    simp only [cond_true]
    split
    ·rename_i n y hny
     refine AP rfl rfl rfl b2 b2 (mN b3) fun Y W β a hH hE hG=> ?_
     obtain ⟨A2,c2,ds,f1,f2,f3,f4,f5⟩:=pX hd hH (fun z hz=>List.mem_append_right _ hz) (d7 hE hG hx)
     have hok:=hH.ok en (by simp)
     have hok':=hok
     obtain ⟨bi',cs,j1,j2,j3,j4,j5,jw,j6⟩:=hok
     have hl1:=j2.len
     have hl2:=f2.len
     have main: ∀(lo dl c:Nat) (A:Option Addr) (u:Value),u= .slice A dl c→a.eval s=u→lo+dl≤bi'.n→dl≤c→(0<c→A=bi'.b.map fun g=>⟨g,bi'.o+lo,none⟩)→n=Nat.min ds.length dl→CR (eI Y β (TL ([en]++rd))) W β y (cs.take lo++ds.take n++cs.drop (lo+n))→
      ∃u W1,vc P o a W u W1∧AV.c (.int .i64 (n:Int))= .c u∧((W1=W∧HE.ok (eI Y β (TL ([en]++rd))) W β {en with x:=y})∨ ∃g bi cur cur' cs',β en.id=some bi∧bi.b=some g∧W.heap[g]? =some (.cells cur en.ty (0,0))∧cur'.size=cur.size∧
       W1.os=W.os∧W1.tape=W.tape∧W1.output=W.output∧W1.heap.size=W.heap.size∧W1.heap[g]? =some (.cells cur' en.ty (0,0))∧(∀b,b≠g→W1.heap[b]? =W.heap[b]?)∧
       CR (eI Y β (TL ([en]++rd))) W β y cs'∧cs'.length=bi.n∧(cur'.toList.drop bi.o).take bi.n=cs'):=by
      intro lo dl c A u hu1 hu2 g1 g2 g3 g4 g5
      subst hu1
      obtain ⟨W1,r1,r2⟩:=DG (P:=P) (W:=W) (t':=t') (ty:=o.type) (c2:=c2) (ety:=en.ty) hu hi b1 j3 g1 g2 g3 (by
       cases hg:bi'.b with
       | none=>rw [hg] at j6;exact j6
       | some g=>
        rw [hg] at j6
        obtain ⟨cur,q1,q2,q3,_⟩:=j6
        exact ⟨cur,q1,q2,q3⟩) j4 f5 (f2.ones b4)
      rw [←g4] at r1 r2
      refine ⟨_,W1,.inl ?_,rfl,?_⟩
      ·simp only [execOp,ho,resolve,bind,Sem.bind,pure,invoke,builtin]
       refine gp ?_
       have:(#[s,x]:Array Operand).map a.eval= #[.slice A dl c,.slice A2 ds.length c2]:=by simp [hu2,f1]
       rw [this];exact r1
      ·rcases r2 with ⟨r2,r3⟩ | ⟨g,cur,cur',r2,r3,r4,r5,r6,r7,r8,r9,r10,r11⟩
       ·left
        refine ⟨r2,bi',cs,j1,?_,j3,j4,j5,jw,j6⟩
        rw [r3] at g5
        simpa using g5
       ·right
        refine ⟨g,bi',cur,cur',_,j1,r2,r3,r4,r5,r6,r7,r8,r9,r10,g5,?_,r11⟩
        have:n≤dl∧n≤ds.length:=by rw [g4];exact ⟨Nat.min_le_right _ _,Nat.min_le_left _ _⟩
        simp;omega
     cases p with
     | none=>
      obtain ⟨A,c,bi,k1,k2,k3,k4,k5⟩:=d7 hE hG hs
      rw [(gn hen).2,k2] at j1
      injection j1 with j1;subst j1
      simp only [R9] at hny
      split at hny
      ·rename_i y' hy'
       injection hny with hny;injection hny with h1 h2;subst h2
       refine main 0 bi.n c A _ rfl k1 (by omega) (by omega) k5 (by rw [←h1,←hl1,←hl2,j3]) ?_
       rw [h1] at hy'
       simpa using f2.take.app j2.drop hy'
      ·cases hny
     | some p=>
      obtain ⟨lo,hi'⟩:=p
      obtain ⟨A,c,bi,k1,k2,k3,k4,k5,k6,k7,k8⟩:=d7 hE hG hs
      rw [(gn hen).2,k2] at j1
      injection j1 with j1;subst j1
      simp only [R9] at hny
      split at hny
      ·rename_i y1 hy1
       split at hny
       ·rename_i y' hy'
        injection hny with hny;injection hny with h1 h2;subst h2
        refine main lo (hi'-lo) c A _ rfl k1 (by omega) k5 k8 (by rw [←h1,←hl2]) ?_
        rw [h1] at hy' hy1
        exact (j2.take.app f2.take hy1).app j2.drop hy'
       ·cases hny
      ·cases hny
    ·trivial
  ·trivial
 ·trivial
def AW (P:Program) (Gl E:AE) (H:List HE) (s d:TypeId) (x:Operand):Ao:=match pR Gl E x,P.underlying s with
 | some (.own id none true),some (.slice e)=>match P.underlying e,fd H id with
  | some (.int .u8),some en=>bif (Nat.beq s d&&Nat.blt 0 en.x.len)&& !en.fz then .v (.row en.x true) [] [en] [] else .bad
  | _,_=> .bad
 | _,_=> .bad
theorem EW {W:World} {t e:TypeId} {g of:Nat} {cur:Array Value} {ety:TypeId} {n c:Nat} (ht:P.underlying t=some (.slice e)) (he:P.underlying e=some (.int .u8)) (hg:W.heap[g]? =some (.cells cur ety (0,0))):
 ∃W1,(convert t t (.slice (some ⟨g,of,none⟩) n c)).run P W= .ok (.slice (some ⟨g,of,none⟩) n c) W1∧W1.os=W.os∧W1.tape=W.tape∧W1.output=W.output∧W1.heap.size=W.heap.size∧(∀b,b≠g→W1.heap[b]? =W.heap[b]?)∧ ∃fr,W1.heap[g]? =some (.cells cur ety fr):=by
 have hsh:W.shape? g=some (ety,cur.size):=by unfold World.shape?;rw [hg]
 refine ⟨W.freeze ⟨g,cur.size,none⟩ 1,?_,?_⟩
 ·simp [convert,run_underlying ht,run_underlying he,markStringish,hsh]
 ·unfold World.freeze
  rw [if_neg (by decide)]
  refine ⟨rfl,rfl,rfl,by simp,fun b hb=>by simp [Array.getElem?_modify,Ne.symm hb],?_⟩
  simp [Array.getElem?_modify,hg]
theorem EY {s d:TypeId} {x:Operand} (ho:o.op= .convert s d x):(AW P Gl E H s d x).ok P Gl o E new:=by
 unfold AW
 split
 ·rename_i id e hx hu
  split
  ·rename_i en he hen
   cases hb:(Nat.beq s d&&Nat.blt 0 en.x.len)&& !en.fz with
   | false=>trivial
   | true=>
    simp only [Bool.and_eq_true,Bool.not_eq_true'] at hb
    have hsd:=Nat.eq_of_beq_eq_true hb.1.1
    subst hsd
    have hpos:0<en.x.len:=Nat.le_of_ble_eq_true hb.1.2
    intro Y W β a hH hE hG hf
    obtain ⟨A,c,bi,k1,k2,k3,k4,k5⟩:=d7 hE hG hx
    obtain ⟨bi',cs,j1,j2,j3,j4,j5,jw,j6⟩:=hH.ok en (by simp)
    rw [(gn hen).2,k2] at j1
    injection j1 with j1;subst j1
    have hc:=k4 rfl
    have fin: ∀(W1:World) (fr:Nat×Nat),(∀g,bi.b=some g→0<c→(∀b,b≠g→W1.heap[b]? =W.heap[b]?)∧ ∃cur,W.heap[g]? =some (.cells cur en.ty (0,0))∧(cur.toList.drop bi.o).take bi.n=cs∧ ∃fr,W1.heap[g]? =some (.cells cur en.ty fr))→True→
     W1.os=W.os→W1.tape=W.tape→W1.output=W.output→W1.heap.size=W.heap.size→(∀b,¬fI β (TL [en]) b→W1.heap[b]? =W.heap[b]?)→(convert s s (.slice A bi.n c)).run P W= .ok (.slice A bi.n c) W1→
     ∃u W' β',vc P o a W u W'∧HR Y W' β' (TL ([]++[]))∧VR (eI Y β' (TL ([]++[]))) W' β' (.row en.x true) u∧qS W (fI β (TL ([en]++[]))) β W' (fI β' (TL ([]++[]))) β'∧(∀i,i<new∨new+16≤i→β' i=β i):=by
     intro W1 fr h1 _ h2 h3 h4 h5 h6 h7
     have hp:lH (eI Y β (TL ([en]++[]))) W β (eI Y β (TL ([]++[]))) W1 β:=by
      refine ⟨fun b hb hX=>⟨h6 b fun ho=>hX (.inr ho),fun hX'=>hX'.elim (fun hy=>hX (.inl hy)) p7⟩,fun _ _ h=>h⟩
     refine ⟨_,W1,β,.inl ?_,⟨fun e h=>(by cases h),fun e e' h=>(by cases h),fun e h=>(by cases h),fun g hg=>by have:=hH.ylt g hg;omega⟩,⟨A,bi.n,c,cs,rfl,j2.pers hp,j3,by omega,fun _=>hc,fun j v hj=> ?_⟩,⟨h2,h3,h4,by omega,fun b _ hn=>h6 b hn,fun _ _ h=>h,fun g hg=>(p7 hg).elim⟩,fun _ _=>rfl⟩
     ·simp only [execOp,ho,k1]
      exact gp h7
     ·have hlt:=(List.getElem?_eq_some_iff.1 hj).1
      have hA:=k5 (by omega)
      cases hg:bi.b with
      | none=>rw [hg] at j6;omega
      | some g=>
       obtain ⟨_,cur,q1,q2,fr,q3⟩:=h1 g hg (by omega)
       refine ⟨⟨g,bi.o,none⟩,by rw [hA,hg];rfl,?_,?_⟩
       ·rw [jI]
        refine qu q3 ?_
        rw [←q2,List.getElem?_take] at hj
        split at hj
        ·rw [List.getElem?_drop] at hj;simpa using hj
        ·cases hj
       ·rintro (hy | ho)
        ·exact hH.out en (by simp) hb.2 g (by unfold ik;rw [(gn hen).2,k2];exact hg) hy
        ·exact p7 ho
    have h0:0<c:=by have:=j2.len;omega
    have hA:=k5 h0
    cases hg:bi.b with
    | none=>rw [hg] at j6;omega
    | some g=>
     rw [hg] at j6 hA
     obtain ⟨cur,q1,q2,q3,_⟩:=j6
     have hA':A=some ⟨g,bi.o,none⟩:=hA
     subst hA'
     obtain ⟨W1,r1,r2,r3,r4,r5,r6,fr,r7⟩:=EW (P:=P) (n:=bi.n) (c:=c) hu he q1
     refine fin W1 fr (fun g' hg' _=> ?_) trivial r2 r3 r4 r5 (fun b hn=>r6 b fun e=>hn ⟨en,by simp,hb.2,by unfold ik;rw [(gn hen).2,k2,e];exact hg⟩) r1
     rw [hg] at hg';injection hg' with hg';subst hg'
     exact ⟨r6,cur,q1,q3,fr,r7⟩
  ·trivial
 ·trivial
end Go.Scr.A
namespace Go.Scr.A
variable {P:Program} {Gl:AE} {o:Oper} {E:AE} {H:List HE} {new:Nat}
def Ct.toL:Ct→Option (List AV)
 | .nil=>some []
 | .cons a r=>match r.toL with
  | some l=>some (a::l)
  | none=>none
 | _=>none
theorem CR.toL {X:eQ} {W:World} {β:Be}: ∀ {x:Ct} {cs:List Value} {l:List AV},CR X W β x cs→x.toL=some l→mE X W β l cs
 | .nil,cs,l,h,hl=>by injection hl with hl;subst hl;cases h;exact .nil
 | .cons a r,cs,l,h,hl=>by
  unfold Ct.toL at hl
  split at hl
  ·rename_i l' hl'
   injection hl with hl;subst hl
   obtain ⟨v,cs',rfl,h2,h3⟩:=h
   exact .cons h2 (CR.toL h3 hl')
  ·cases hl
 | .N ..,_,_,_,hl | .B ..,_,_,_,hl | .S ..,_,_,_,hl | .R ..,_,_,_,hl | .T ..,_,_,_,hl=>by cases hl
theorem mE.app {X:eQ} {W:World} {β:Be} {l m:List AV} {cs ds:List Value} (h:mE X W β l cs) (h2:mE X W β m ds):mE X W β (l++m) (cs++ds):=by
 induction h with
 | nil=>exact h2
 | cons h1 _ ih=>exact .cons h1 ih
def sI (fn:Func):Bool:= !(fn.name== "runtime.NumGoroutine")&& !fn.body.isNone
def AX (P:Program) (Gl E:AE) (f:Operand) (args:List Operand):Ao:=match pR Gl E f,EO Gl E args with
 | some (.fn g x),some l=>match P.funcs[g]?,x.toL with
  | some fn,some l0=>bif sI fn then .call g (l0++l) else .bad
  | _,_=> .bad
 | some (.fs g x),some l=>match P.funcs[g]?,x.toL with
  | some fn,some l0=>bif sI fn then .call g (l0++l) else .bad
  | _,_=> .bad
 | _,_=> .bad
theorem EZ {f:Operand} {args:Array Operand} {ts:Array TypeId} (ho:o.op= .call ⟨.value f,args,ts⟩):(AX P Gl E f args.toList).ok P Gl o E new:=by
 unfold AX
 split
 ·rename_i g x l hf hl
  split
  ·rename_i fn l0 hfn hl0
   cases hg:sI fn with
   | false=>trivial
   | true=>
    unfold sI at hg
    rw [Bool.and_eq_true,Bool.not_eq_true',Bool.not_eq_true'] at hg
    intro X W β a hE hG
    obtain ⟨cs,h1,h2⟩:=d7 hE hG hf
    refine ⟨cs++args.toList.map a.eval,?_,(h2.toL hl0).app (tH hE hG hl)⟩
    have e2:cs.toArray++Array.map a.eval args=(cs++args.toList.map a.eval).toArray:=by cases args;simp
    have n1:¬ fn.name= "runtime.NumGoroutine" :=by simpa using hg.1
    have n2:¬ fn.body=none:=fun e=>by rw [e] at hg;cases hg.2
    simp [execOp,ho,resolve,h1,Deferred.ofValue,invoke,callFunc,hfn,n1,n2,e2]
  ·trivial
 ·rename_i g x l hf hl
  split
  ·rename_i fn l0 hfn hl0
   cases hg:sI fn with
   | false=>trivial
   | true=>
    unfold sI at hg
    rw [Bool.and_eq_true,Bool.not_eq_true',Bool.not_eq_true'] at hg
    intro X W β a hE hG
    obtain ⟨cs,h1,h2,_⟩:=d7 hE hG hf
    refine ⟨cs++args.toList.map a.eval,?_,(h2.toL hl0).app (tH hE hG hl)⟩
    have e2:cs.toArray++Array.map a.eval args=(cs++args.toList.map a.eval).toArray:=by cases args;simp
    have n1:¬ fn.name= "runtime.NumGoroutine" :=by simpa using hg.1
    have n2:¬ fn.body=none:=fun e=>by rw [e] at hg;cases hg.2
    simp [execOp,ho,resolve,h1,Deferred.ofValue,invoke,callFunc,hfn,n1,n2,e2]
  ·trivial
 ·trivial
def DH (P:Program) (Gl E:AE) (H:List HE) (new:Nat) (o:Oper):Ao:=match o.op with
 | .move x=>sY Gl E x
 | .assign x=>sY Gl E x
 | .pick c x y=>AJ Gl E c x y
 | .alloc t=>wC P new t
 | .box t x=>Iq P Gl E new t x
 | .build t ps=>wB P Gl E H t ps.toList
 | .buildSlice t n ps=>Is P Gl E H new t n ps.toList
 | .load t x=>AH P Gl E H t x
 | .store t x v=>up P Gl E H t x v
 | .nilCheck x=>Ij Gl E x
 | .binOp op t x y _=>match op with
  | .shl=>bif Dt y then nE P Gl E o else sE Gl E true x y
  | .shr=>bif Dt y then nE P Gl E o else sE Gl E false x y
  | .quo=>bif Dt y then nE P Gl E o else Dx Gl E true x y
  | .rem=>bif Dt y then nE P Gl E o else Dx Gl E false x y
  | .eql=>NV P Gl E false t x y o
  | .neq=>NV P Gl E true t x y o
  | _=>nE P Gl E o
 | .unOp _ _ _=>nE P Gl E o
 | .convert s d x=>bif Nat.beq s d then AW P Gl E H s d x else Io P Gl E H s d x o
 | .makeFunc fn first cap=>RN Gl E fn first.toList cap.toList
 | .makeSlice t l c=>AS P Gl E new t l c
 | .slice t x lo hi mx=>EC P Gl E H t x lo hi mx
 | .fieldAddr t x n=>H9 P Gl E t x n
 | .field t x n=>ww P Gl E t x n
 | .indexAddr t x i=>H7 P Gl E H t x i
 | .index t x i=>wy P Gl E t x i
 | .extract x i=>rq Gl E x i
 | .call ⟨.value f,args,_⟩=>AX P Gl E f args.toList
 | .call ⟨.builtin b,⟨[x]⟩,⟨[t]⟩⟩=>match b with
  | .len=>Ib P Gl E H t x o
  | .cap=>Ie P Gl E H t x
  | _=> .bad
 | .call ⟨.builtin b,⟨[s,x]⟩,⟨[t,t']⟩⟩=>match b with
  | .append=>bif Nat.beq t t' then EU P Gl E H new t t' s x else Iy P Gl E H new t t' s x
  | .copy=>yl P Gl E H t s x
  | .min=>nE P Gl E o
  | _=> .bad
 | _=> .bad
theorem AY:(DH P Gl E H new o).ok P Gl o E new:=by
 have pu:(nE P Gl E o).ok P Gl o E new:=Ao.ok_of_yd rn
 unfold DH
 split
 ·rename_i ho;exact Ao.ok_of_yd (yf (.inl ho))
 ·rename_i ho;exact Ao.ok_of_yd (yf (.inr ho))
 ·rename_i ho;exact Ao.ok_of_yd (ED ho)
 ·rename_i ho;exact DC ho
 ·rename_i ho;exact Ir ho
 ·rename_i ho;exact Ao.ok_of_yd (DB ho)
 ·rename_i ho;exact It ho
 ·rename_i ho;exact Ao.ok_of_yd (Ey ho)
 ·rename_i ho;exact DF ho
 ·rename_i ho;exact Ao.ok_of_yd (Ik ho)
 ·rename_i op t x y t2 ho
  split
  ·cases Dt y with
   | true=>exact pu
   | false=>exact Ao.ok_of_yd (vp (l:=true) ho)
  ·cases Dt y with
   | true=>exact pu
   | false=>exact Ao.ok_of_yd (vp (l:=false) ho)
  ·cases Dt y with
   | true=>exact pu
   | false=>exact Ao.ok_of_yd (AK (q:=true) ho)
  ·cases Dt y with
   | true=>exact pu
   | false=>exact Ao.ok_of_yd (AK (q:=false) ho)
  ·exact Ao.ok_of_yd (EI (neq:=false) ho)
  ·exact Ao.ok_of_yd (EI (neq:=true) ho)
  ·exact pu
 ·exact pu
 ·rename_i s d x ho
  cases Nat.beq s d with
  | true=>exact EY ho
  | false=>exact Ao.ok_of_yd (Ip ho)
 ·rename_i ho;exact Ao.ok_of_yd (LK ho)
 ·rename_i ho;exact ET ho
 ·rename_i ho;exact Ao.ok_of_yd (Ii ho)
 ·rename_i ho;exact Ao.ok_of_yd (Ia ho)
 ·rename_i ho;exact Ao.ok_of_yd (Dz ho)
 ·rename_i ho;exact Ao.ok_of_yd (H8 ho)
 ·rename_i ho;exact Ao.ok_of_yd (DA ho)
 ·rename_i ho;exact Ao.ok_of_yd (yg ho)
 ·rename_i ho;exact EZ ho
 ·rename_i ho
  split
  ·exact Ao.ok_of_yd (Ic ho)
  ·exact Ao.ok_of_yd (If ho)
  ·trivial
 ·rename_i b s x t t' ho
  split
  ·cases Nat.beq t t' with
   | true=>exact Ix ho
   | false=>exact IA ho
  ·exact EV ho
  ·exact pu
  ·trivial
 ·trivial
def Ao.inH (H:List HE):Ao→Prop
 | .v _ rd use _=> ∀z∈use++rd,fd H z.id=some z
 | .nd _ k=>k.inH H
 | _=>True
theorem pc {e:HE} {id:Nat} (h:fd H id=some e): ∀z∈[e],fd H z.id=some z:=fun z hz=>by
 rw [List.mem_singleton] at hz;subst hz;rw [(gn h).2];exact h
theorem fP: ∀z∈([]:List HE),fd H z.id=some z:=fun z hz=>by cases hz
theorem kO {l m:List HE} (h: ∀z∈l,fd H z.id=some z) (k: ∀z∈m,fd H z.id=some z): ∀z∈l++m,fd H z.id=some z:=fun z hz=>(List.mem_append.1 hz).elim (h z) (k z)
theorem ym {v:AV} {x:Ct} {off:Option Nat} {ext w:Nat} {rd:List HE} (h:vo H v=some (x,off,ext,w,rd)): ∀z∈rd,fd H z.id=some z:=by
 unfold vo at h
 split at h
 ·split at h
  ·rename_i e he
   simp only [Option.some.injEq,Prod.mk.injEq] at h
   obtain ⟨_,_,_,_,rfl⟩:=h
   exact pc he
  ·cases h
 ·simp only [Option.some.injEq,Prod.mk.injEq] at h
  obtain ⟨_,_,_,_,rfl⟩:=h
  exact fP
 ·cases h
theorem qA {v:AV} {n:Nat} {rd:List HE} (h:oh H v=some (n,rd)): ∀z∈rd,fd H z.id=some z:=by
 unfold oh at h
 split at h
 ·injection h with h;injection h with h1 h2;subst h2;exact fP
 ·split at h
  ·rename_i e he;injection h with h;injection h with h1 h2;subst h2;exact pc he
  ·cases h
 ·split at h
  ·rename_i e he;injection h with h;injection h with h1 h2;subst h2;exact pc he
  ·cases h
 ·injection h with h;injection h with h1 h2;subst h2;exact fP
 ·cases h
theorem zL {a b:AV} {rd:List HE} (h:LJ H a= .ok b rd): ∀z∈rd,fd H z.id=some z:=by
 unfold LJ at h
 split at h
 ·split at h
  ·rename_i e he
   cases hf:e.fz with
   | false=>rw [hf] at h;cases h
   | true=>rw [hf] at h;injection h with h1 h2;subst h2;exact pc he
  ·injection h with h1 h2;subst h2;exact fP
 ·injection h with h1 h2;subst h2;exact fP
 ·injection h with h1 h2;subst h2;exact fP
theorem wF: ∀ {l l':List AV} {rd:List HE},Km H l= .ok l' rd→ ∀z∈rd,fd H z.id=some z
 | [],l',rd,h=>by injection h with h1 h2;subst h2;exact fP
 | a::r,l',rd,h=>by
  unfold Km at h
  split at h
  ·rename_i b rd1 hb
   split at h
   ·rename_i l1 rd2 hl1
    injection h with h1 h2;subst h2
    exact kO (zL hb) (wF hl1)
   ·cases h
  ·cases h
theorem mO {x:Operand} {b:Bool} {k:Ao} (h:k.inH H):(wr x b k).inH H:=by
 unfold wr
 cases Dt x with
 | true=>cases b<;>first | exact h | trivial
 | false=>exact h
theorem wG {c b:Bool} {k:Ao} (h:k.inH H):(Kl c b k).inH H:=by
 unfold Kl
 cases c with
 | true=>cases b<;>first | exact h | trivial
 | false=>exact h
theorem uq {xl xh:Option Operand} {l h:Option Int} {n:Nat} {k:Ao} (hk:k.inH H):(qx xl xh l h n k).inH H:=by
 unfold qx
 split
 ·exact hk
 ·exact wG hk
 ·exact wG hk
 ·exact wG (wG hk)
theorem yn {ek:Ek} {l:List AV} {k:Ct→List HE→Ao} (h: ∀x rd,(∀z∈rd,fd H z.id=some z)→(k x rd).inH H):(sZ H ek l k).inH H:=by
 unfold sZ
 cases RL ek with
 | true=>
  simp only [cond_true]
  split
  ·rename_i hl
   split
   ·exact h _ _ (wF hl)
   ·trivial
  ·trivial
 | false=>
  simp only [cond_false]
  split
  ·exact h _ _ fP
  ·trivial
theorem kZ:(nE P Gl E o).inH H:=by
 unfold nE
 cases Er o.op<;>cases Dr Gl E o.op.operands.toList<;>simp only [cond_true,cond_false]<;>first | trivial | (split<;>first | trivial | exact fP)
theorem qB {v:Option AV}:(tu v).inH H:=by unfold tu;split<;>first | trivial | exact fP
theorem fQ {b:Bool} {x y:Ao} (h:x.inH H) (k:y.inH H):(bif b then x else y).inH H:=by cases b<;>assumption
theorem DI {t:TypeId} {x v:Operand}:(up P Gl E H t x v).inH H:=by
 unfold up
 split
 ·split
  ·rename_i e he
   refine fQ ?_ trivial
   split
   ·refine fQ ?_ trivial
    split
    ·exact kO (pc he) fP
    ·trivial
   ·refine fQ ?_ trivial
    split
    ·rename_i hf
     split
     ·refine fQ ?_ trivial
      refine kO (pc he) ?_
      unfold Fv.of at hf
      cases hb:N7 e.x with
      | true=>rw [hb] at hf;exact zL hf
      | false=>rw [hb] at hf;injection hf with h1 h2;subst h2;exact fP
     ·trivial
    ·trivial
  ·trivial
 ·trivial
theorem IB {t:TypeId} {x:Operand} {lo hi mx:Option Operand}:(EC P Gl E H t x lo hi mx).inH H:=by
 unfold EC
 split
 ·split
  ·split
   ·refine fQ ?_ trivial
    split
    ·split
     ·rename_i hr
      split
      ·exact uq (kO fP (qA hr))
      ·trivial
     ·trivial
    ·refine fQ ?_ ?_
     ·split
      ·rename_i hr;exact kO fP (qA hr)
      ·trivial
     ·split
      ·exact fun z hz=>by cases hz
      ·trivial
   ·trivial
  ·split
   ·refine fQ ?_ trivial
    split
    ·split
     ·rename_i hr
      refine fQ ?_ trivial
      split
      ·exact uq (kO fP (pc hr))
      ·trivial
     ·trivial
    ·trivial
   ·trivial
  ·trivial
 ·trivial
theorem IC {t t':TypeId} {s x:Operand}:(EU P Gl E H new t t' s x).inH H:=by
 unfold EU
 split
 ·split
  ·split
   ·refine fQ ?_ trivial
    split
    ·rename_i hc hd
     split
     ·refine fQ ?_ trivial
      exact kO (sH hc) fun z hz=>oM hd z (List.mem_filter.1 hz).1
     ·trivial
    ·trivial
   ·trivial
  ·trivial
 ·trivial
theorem E0 {t:TypeId} {s x:Operand}:(yl P Gl E H t s x).inH H:=by
 unfold yl
 split
 ·split
  ·rename_i hen hd
   refine fQ ?_ trivial
   split
   ·exact kO (pc hen) (oM hd)
   ·trivial
  ·trivial
 ·trivial
theorem AZ:(DH P Gl E H new o).inH H:=by
 unfold DH
 split
 ·exact qB
 ·exact qB
 ·unfold AJ;split<;>first | exact qB | trivial | (split<;>trivial)
 ·unfold wC;split<;>first | trivial | (refine fQ ?_ trivial;split<;>first | trivial | exact fP)
 ·unfold Iq;split
  ·exact fQ fP trivial
  ·refine fQ ?_ trivial;split<;>first | trivial | exact fP
  ·trivial
 ·unfold wB;split
  ·split
   ·exact fun z hz=>by cases hz
   ·split
    ·exact yn fun x rd h=>kO fP h
    ·trivial
  ·trivial
 ·unfold Is;split
  ·split
   ·refine fQ ?_ trivial
    split
    ·split
     ·exact fQ (yn fun x rd h=>kO fP h) trivial
     ·trivial
    ·trivial
   ·trivial
  ·trivial
 ·unfold AH
  refine fQ ?_ trivial
  split
  ·split
   ·rename_i hp
    split
    ·exact kO fP (ym hp)
    ·trivial
   ·trivial
  ·trivial
 ·exact DI
 ·unfold Ij;split<;>first | trivial | exact fP
 ·split
  ·exact fQ kZ (by unfold sE;split<;>first | trivial | exact fP)
  ·exact fQ kZ (by unfold sE;split<;>first | trivial | exact fP)
  ·exact fQ kZ (by unfold Dx;split<;>first | trivial | exact fQ fP trivial)
  ·exact fQ kZ (by unfold Dx;split<;>first | trivial | exact fQ fP trivial)
  ·unfold NV
   split
   ·refine fQ fP ?_
    split
    ·exact fQ trivial trivial
    ·split
     ·exact fQ fP trivial
     ·exact kZ
   ·trivial
  ·unfold NV
   split
   ·refine fQ fP ?_
    split
    ·exact fQ trivial trivial
    ·split
     ·exact fQ fP trivial
     ·exact kZ
   ·trivial
  ·exact kZ
 ·exact kZ
 ·refine fQ ?_ ?_
  ·unfold AW;split
   ·split
    ·rename_i h;exact fQ (kO (pc h) fP) trivial
    ·trivial
   ·trivial
  ·unfold Io;split
   ·exact kZ
   ·split
    ·rename_i hr _ _;split<;>first | trivial | exact kO fP (oM hr)
    ·rename_i hr _ _;split<;>first | trivial | exact kO fP (oM hr)
    ·trivial
   ·trivial
 ·unfold RN;split
  ·split<;>first | trivial | exact fP
  ·trivial
 ·unfold AS;split
  ·split
   ·split
    ·refine fQ ?_ trivial
     split
     ·split
      ·exact mO (mO (fQ fP trivial))
      ·exact mO (mO (mO fP))
     ·trivial
    ·trivial
   ·trivial
  ·trivial
 ·exact IB
 ·unfold H9;split
  ·split
   ·split
    ·split
     ·exact fQ trivial qB
     ·trivial
    ·trivial
   ·trivial
  ·trivial
 ·unfold ww;split
  ·split
   ·exact fQ qB trivial
   ·trivial
  ·trivial
 ·unfold H7;split
  ·split
   ·split
    ·refine fQ ?_ trivial
     split
     ·rename_i hr _;exact mO (kO fP (qA hr))
     ·trivial
    ·trivial
   ·split
    ·split
     ·exact mO (mO fP)
     ·trivial
    ·trivial
   ·trivial
  ·trivial
 ·unfold wy;split
  ·split
   ·refine fQ ?_ (fQ (mO (mO fP)) trivial)
    split
    ·exact mO (mO fP)
    ·trivial
   ·trivial
  ·exact mO fP
  ·trivial
 ·unfold rq;split
  ·exact fQ qB trivial
  ·trivial
 ·unfold AX;split
  ·split
   ·exact fQ trivial trivial
   ·trivial
  ·split
   ·exact fQ trivial trivial
   ·trivial
  ·trivial
 ·split
  ·unfold Ib;split
   ·exact kZ
   ·split
    ·split
     ·rename_i hr;exact kO fP (qA hr)
     ·trivial
    ·trivial
   ·trivial
  ·unfold Ie;split
   ·split
    ·split
     ·rename_i hr;exact kO fP (oM hr)
     ·trivial
    ·trivial
   ·trivial
  ·trivial
 ·split
  ·refine fQ IC ?_
   unfold Iy;split
   ·split
    ·split
     ·exact fQ fP trivial
     ·trivial
    ·trivial
   ·split
    ·split
     ·rename_i hc
      refine fQ ?_ trivial
      split
      ·exact kO (sH hc) fun z hz=>by cases hz
      ·trivial
     ·trivial
    ·trivial
   ·trivial
  ·exact E0
  ·exact kZ
  ·trivial
 ·trivial
end Go.Scr.A
