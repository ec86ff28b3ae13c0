/- The plain law: the ciphers, the modes, the contexts of both sides are one. -/
import Derived.Test.YtdemmfohkhpklaaGreatDoorFp
import Derived.Test.YtdemmfohkhpklaaGreatDoorLa
import Derived.Test.YtdemmfohkhpklaaGreatDoorLb
import Derived.Test.YtdemmfohkhpklaaGreatDoorXp
set_option linter.unusedVariables false
set_option linter.unusedSimpArgs false
set_option linter.unnecessarySimpa false
set_option linter.unusedSectionVars false
namespace Go.Scr.S.Tw
def vg (P:List Nat) (j:Nat):Nat:=jk ((P.drop (4*j)).take 4).reverse
def W4 (x:List Nat):Prop:=x.length=4∧ ∀v∈x,v<4294967296
theorem W4.at {x:List Nat} (h:W4 x) (j:Nat):x.getD j 0<4294967296:=rR h.2 j
theorem W4.set {x:List Nat} (h:W4 x) (j:Nat) {v:Nat} (hv:v<4294967296):W4 (x.set j v):=⟨by rw [List.length_set];exact h.1,fun y hy=>by
 rcases List.mem_or_eq_of_mem_set hy with hy | rfl
 ·exact h.2 y hy
 ·exact hv⟩
theorem W4.four {x:List Nat} (h:W4 x): ∃a b c d,x=[a,b,c,d]:=by
 obtain ⟨hl,_⟩:=h
 match x,hl with
 | [a,b,c,d],_=>exact ⟨a,b,c,d,rfl⟩
theorem W4.mk {a b c d:Nat} (ha:a<4294967296) (hb:b<4294967296) (hc:c<4294967296) (hd:d<4294967296):W4 [a,b,c,d]:=⟨rfl,fun v hv=>by
 simp only [List.mem_cons,List.not_mem_nil,or_false] at hv
 rcases hv with rfl | rfl | rfl | rfl<;>assumption⟩
theorem Ti (l:List Nat) (i n:Nat):((il l).take (i+n)).drop i=il ((l.drop i).take n):=by
 rw [nv,tQ,List.drop_take];congr 2;omega
theorem Ht {P:List Nat} (hl:P.length=16) (hb: ∀v∈P,v<256) {j:Nat} (hj:j<4):B4 ((P.drop (4*j)).take 4):=
 ⟨by rw [List.length_take,List.length_drop,hl];omega,fun v hv=>hb v (List.mem_of_mem_drop (List.mem_of_mem_take hv))⟩
theorem uY {P:List Nat} (hl:P.length=16) (hb: ∀v∈P,v<256) {j:Nat} (hj:j<4):vg P j<4294967296:=by
 have o:=Ht hl hb hj
 have h:=rS ((P.drop (4*j)).take 4).reverse (fun x hx=>o.2 x (by simpa using hx))
 rw [List.length_reverse,o.1] at h
 exact h
theorem RZ {a0:List Int×List Int} {P:List Nat} (hl:P.length=16) (hb: ∀v∈P,v<256) (dir:Bool) {x:List Nat} (hx:x.length=4) {j k:Nat} (hj:j<4) (hk:20≤k):
 am.l0 (k+1) a0 (il P) dir (il x) (j:Int)=am.l0 k a0 (il P) dir (il (x.set j (vg P j))) ((j+1:Nat):Int):=by
 have c0: ∀z:Nat,decide (0≤(z:Int))=true:=fun z=>by rw [decide_eq_true_eq];omega
 have c1:decide ((j:Int)<4)=true:=by rw [decide_eq_true_eq];omega
 have a0':ak (4*(j:Int))=((4*j:Nat):Int):=au (n:=4*j) (by omega)
 have a2:ak ((j:Int)+1)=((j+1:Nat):Int):=au (n:=j+1) (by omega)
 have a3:ak (4*((j+1:Nat):Int))=((4*j+4:Nat):Int):=au (n:=4*j+4) (by omega)
 have e:((il P).take (((4*j+4:Nat):Int)).toNat).drop (((4*j:Nat):Int)).toNat=il ((P.drop (4*j)).take 4):=by rw [Int.toNat_natCast,Int.toNat_natCast,Ti]
 rw [am.l0,if_pos c1]
 unfold gd
 rw [a0',a2,a3,if_pos (c0 _),if_pos (by rw [decide_eq_true_eq];omega),if_pos (by rw [decide_eq_true_eq,ag,hl];omega),e,RY (Ht hl hb hj) (by omega),Option.bind_some,if_pos (c0 _),if_pos c1,Int.toNat_natCast,kw]
 rfl
theorem JI {a0:List Int×List Int} {P:List Nat} (hl:P.length=16) (hb: ∀v∈P,v<256) (dir:Bool) {x:List Nat} (hx:x.length=4) {j k:Nat} (hj:j<4) (hk:20≤k):
 aj.l0 (k+1) a0 (il P) dir (il x) (j:Int)=aj.l0 k a0 (il P) dir (il (x.set j (vg P j))) ((j+1:Nat):Int):=by
 have c0: ∀z:Nat,decide (0≤(z:Int))=true:=fun z=>by rw [decide_eq_true_eq];omega
 have c1:decide ((j:Int)<4)=true:=by rw [decide_eq_true_eq];omega
 have a0':ak (4*(j:Int))=((4*j:Nat):Int):=au (n:=4*j) (by omega)
 have a2:ak ((j:Int)+1)=((j+1:Nat):Int):=au (n:=j+1) (by omega)
 have a3:ak (((4*j:Nat):Int)+4)=((4*j+4:Nat):Int):=au (n:=4*j+4) (by omega)
 have e:((il P).take (((4*j+4:Nat):Int)).toNat).drop (((4*j:Nat):Int)).toNat=il ((P.drop (4*j)).take 4):=by rw [Int.toNat_natCast,Int.toNat_natCast,Ti]
 have o:=Ht hl hb hj
 have lw:=uY hl hb hj
 have le:bH.f k (il ((P.drop (4*j)).take 4))=some ((vg P j:Nat):Int):=by
  unfold vg
  generalize (P.drop (4*j)).take 4=Q at o
  obtain ⟨a,b,c,d,rfl⟩:=o.four
  exact xH (o.2 a (by simp)) (o.2 b (by simp)) (o.2 c (by simp)) (o.2 d (by simp)) (by omega)
 rw [aj.l0,if_pos c1]
 unfold gd
 rw [a0',a3,if_pos (c0 _),if_pos (by rw [decide_eq_true_eq];omega),if_pos (by rw [decide_eq_true_eq,ag,hl];omega),e,le,Option.bind_some,if_pos (c0 _),if_pos c1,kI,Nat.mod_eq_of_lt lw,Int.toNat_natCast,kw,a2]
def pP (P:List Nat):List Nat:=[vg P 0,vg P 1,vg P 2,vg P 3]
theorem CP {P:List Nat} (hl:P.length=16) (hb: ∀v∈P,v<256):W4 (pP P):=W4.mk (uY hl hb (j:=0) (by omega)) (uY hl hb (j:=1) (by omega)) (uY hl hb (j:=2) (by omega)) (uY hl hb (j:=3) (by omega))
theorem SG {a0:List Int×List Int} {P:List Nat} (hl:P.length=16) (hb: ∀v∈P,v<256) (dir:Bool) {k:Nat} (hk:20≤k):
 am.l0 (k+5) a0 (il P) dir (List.replicate 4 0) 0=if dir=true then (az.f k a0 (il (pP P)) 4).bind fun t=>am.l1 k a0 t 15 else (az.f k a0 (il (pP P)) 0).bind fun t=>am.l2 k a0 t 0:=by
 have e0:=RZ (a0:=a0) hl hb dir (x:=[0,0,0,0]) rfl (j:=0) (k:=k+4) (by omega) (by omega)
 have e1:=RZ (a0:=a0) hl hb dir (x:=[vg P 0,0,0,0]) rfl (j:=1) (k:=k+3) (by omega) (by omega)
 have e2:=RZ (a0:=a0) hl hb dir (x:=[vg P 0,vg P 1,0,0]) rfl (j:=2) (k:=k+2) (by omega) (by omega)
 have e3:=RZ (a0:=a0) hl hb dir (x:=[vg P 0,vg P 1,vg P 2,0]) rfl (j:=3) (k:=k+1) (by omega) (by omega)
 refine (e0.trans (e1.trans (e2.trans e3))).trans ?_
 rw [am.l0,if_neg (by decide)];rfl
theorem R0 {K:List Nat} {S:List Int} (hK: ∀v∈K,v<4294967296) {at_:Nat} (ha:at_+4≤K.length) (hk40:K.length<1000) {x:List Nat} (hx:W4 x) {j k:Nat} (hj:j<4):
 az.l0 (k+1) (il K,S) (at_:Int) (il x) (j:Int)=az.l0 k (il K,S) (at_:Int) (il (x.set j (x.getD j 0 ^^^ K.getD (at_+j) 0))) ((j+1:Nat):Int):=by
 have c0: ∀z:Nat,decide (0≤(z:Int))=true:=fun z=>by rw [decide_eq_true_eq];omega
 have c1:decide ((j:Int)<4)=true:=by rw [decide_eq_true_eq];omega
 have a1:ak ((at_:Int)+(j:Int))=((at_+j:Nat):Int):=au (n:=at_+j) (by omega)
 have a2:ak ((j:Int)+1)=((j+1:Nat):Int):=au (n:=j+1) (by omega)
 rw [az.l0,if_pos c1]
 unfold gd
 rw [if_pos (c0 _),if_pos c1,a1,if_pos (c0 _),if_pos (by rw [decide_eq_true_eq,ag];omega),if_pos (c0 _),if_pos c1,bf,bf,nt (hx.at j) (rR hK _),Int.toNat_natCast,kw,a2]
def xW (K:List Nat) (at_:Nat) (x:List Nat):List Nat:=[x.getD 0 0 ^^^ K.getD at_ 0,x.getD 1 0 ^^^ K.getD (at_+1) 0,x.getD 2 0 ^^^ K.getD (at_+2) 0,x.getD 3 0 ^^^ K.getD (at_+3) 0]
theorem qo {K:List Nat} (hK: ∀v∈K,v<4294967296) (at_:Nat) {x:List Nat} (hx:W4 x):W4 (xW K at_ x):=W4.mk (ve (hx.at _) (rR hK _)) (ve (hx.at _) (rR hK _)) (ve (hx.at _) (rR hK _)) (ve (hx.at _) (rR hK _))
theorem si {K:List Nat} {S:List Int} (hK: ∀v∈K,v<4294967296) {at_:Nat} (ha:at_+4≤K.length) (hk40:K.length<1000) {x:List Nat} (hx:W4 x) {k:Nat} (hk:10≤k):
 az.f k (il K,S) (il x) (at_:Int)=some (il (xW K at_ x)):=by
 obtain ⟨k,rfl⟩: ∃j,k=j+5:=⟨k-5,by omega⟩
 have l:=fun (i j:Nat) {x:List Nat} (hx:W4 x)=>ve (hx.at j) (rR hK i)
 have e0:=R0 (S:=S) hK ha hk40 hx (j:=0) (k:=k+4) (by omega)
 have o1:=hx.set 0 (l (at_+0) 0 hx)
 have e1:=R0 (S:=S) hK ha hk40 o1 (j:=1) (k:=k+3) (by omega)
 have o2:=o1.set 1 (l (at_+1) 1 o1)
 have e2:=R0 (S:=S) hK ha hk40 o2 (j:=2) (k:=k+2) (by omega)
 have o3:=o2.set 2 (l (at_+2) 2 o2)
 have e3:=R0 (S:=S) hK ha hk40 o3 (j:=3) (k:=k+1) (by omega)
 unfold az.f
 refine (e0.trans (e1.trans (e2.trans e3))).trans ?_
 rw [az.l0,if_neg (by decide)]
 obtain ⟨a,b,c,d,rfl⟩:=hx.four
 rfl
def sT (S:List Nat) (a b:Nat):Nat:=wa (hN S a) (hN S (kz b 8))
def sU (S:List Nat) (a b:Nat):Nat:=wa (hN S a) (wa (hN S (kz b 8)) (hN S (kz b 8)))
theorem CQ {K S:List Nat} (hS: ∀v∈S,v<4294967296) (hK:K.length=40) {a b i k:Nat} (ha:a<4294967296) (hb:b<4294967296) (hi:i<16) (hk:200≤k):
 dT.f k (il K,il S) (a:Int) (b:Int) (i:Int)=some (((wa (sT S a b) (K.getD (2*i+8) 0):Nat):Int),((wa (sU S a b) (K.getD (2*i+9) 0):Nat):Int)):=by
 have c0: ∀z:Nat,decide (0≤(z:Int))=true:=fun z=>by rw [decide_eq_true_eq];omega
 have y0:ak (2*(i:Int))=((2*i:Nat):Int):=au (n:=2*i) (by omega)
 have y1:ak (((2*i:Nat):Int)+8)=((2*i+8:Nat):Int):=au (n:=2*i+8) (by omega)
 have y2:ak (((2*i:Nat):Int)+9)=((2*i+9:Nat):Int):=au (n:=2*i+9) (by omega)
 have h0:=Eb hS ha (k:=k) hk
 have r0:=j0 (k:=k) hb 8
 have h1:=Eb hS (jD hb (s:=8)) (k:=k) hk
 have r0':bF.f k (b:Int) 8=some ((kz b 8:Nat):Int):=r0
 unfold dT.f gd
 rw [h0,Option.bind_some,r0',Option.bind_some,h1,Option.bind_some,y0,y1,y2,if_pos (c0 _),if_pos (by rw [decide_eq_true_eq,ag,hK];omega),Option.bind_some,if_pos (c0 _),if_pos (by rw [decide_eq_true_eq,ag,hK];omega),Option.bind_some,bf,bf,fL,fL,sg,fL,fL]
 rfl
def Rj (K S:List Nat) (i:Nat) (x:List Nat):List Nat:=[kz (x.getD 2 0 ^^^ wa (sT S (x.getD 0 0) (x.getD 1 0)) (K.getD (2*i+8) 0)) 31,kz (x.getD 3 0) 1 ^^^ wa (sU S (x.getD 0 0) (x.getD 1 0)) (K.getD (2*i+9) 0),x.getD 0 0,x.getD 1 0]
theorem Ap (K S:List Nat) (i:Nat) {x:List Nat} (hx:W4 x):W4 (Rj K S i x):=W4.mk (jD (ve (hx.at 2) (gk _ _))) (ve (jD (hx.at 3)) (gk _ _)) (hx.at 0) (hx.at 1)
def tD (K S:List Nat):Nat→Nat→List Nat→List Nat
 | _,0,x=>x
 | i,d+1,x=>tD K S (i+1) d (Rj K S i x)
theorem xI (K S:List Nat): ∀d i x,W4 x→W4 (tD K S i d x)
 | 0,_,_,h=>h
 | d+1,i,x,h=>xI K S d (i+1) _ (Ap K S i h)
def Ed (x:List Nat):List Nat:=[x.getD 2 0,x.getD 3 0,x.getD 0 0,x.getD 1 0]
theorem sO {x:List Nat} (hx:W4 x):W4 (Ed x):=W4.mk (hx.at 2) (hx.at 3) (hx.at 0) (hx.at 1)
def HY (K S:List Nat) (i:Nat) (x:List Nat):List Nat:=[kz (x.getD 2 0) 1 ^^^ wa (sT S (x.getD 0 0) (x.getD 1 0)) (K.getD (2*i+8) 0),kz (x.getD 3 0 ^^^ wa (sU S (x.getD 0 0) (x.getD 1 0)) (K.getD (2*i+9) 0)) 31,x.getD 0 0,x.getD 1 0]
theorem pZ (K S:List Nat) (i:Nat) {x:List Nat} (hx:W4 x):W4 (HY K S i x):=W4.mk (ve (jD (hx.at 2)) (gk _ _)) (jD (ve (hx.at 3) (gk _ _))) (hx.at 0) (hx.at 1)
def tE (K S:List Nat):Nat→List Nat→List Nat
 | 0,x=>x
 | i+1,x=>tE K S i (HY K S i x)
theorem xJ (K S:List Nat): ∀i x,W4 x→W4 (tE K S i x)
 | 0,_,h=>h
 | i+1,x,h=>xJ K S i _ (pZ K S i h)
section
variable {K S:List Nat} (hS: ∀v∈S,v<4294967296) (hK:K.length=40)
include hS hK
theorem SH (d:Nat): ∀ {i k:Nat} {x:List Nat},i+d=16→W4 x→220≤k→
 am.l2 (k+d+1) (il K,il S) (il x) (i:Int)=(az.f k (il K,il S) (il (Ed (tD K S i d x))) 4).bind fun t=>am.l3 k [] t 0:=by
 induction d with
 | zero=>
  intro i k x hi hx hk
  have:i=16:=by omega
  subst this
  have g: ∀j:Nat,rd (il x) (j:Int)=((x.getD j 0:Nat):Int):=bf x
  have g0:rd (il x) 0=((x.getD 0 0:Nat):Int):=g 0
  have g1:rd (il x) 1=((x.getD 1 0:Nat):Int):=g 1
  have g2:rd (il x) 2=((x.getD 2 0:Nat):Int):=g 2
  have g3:rd (il x) 3=((x.getD 3 0:Nat):Int):=g 3
  show am.l2 (k+1) _ _ _=_
  rw [am.l2,if_neg (by decide),g0,g1,g2,g3]
  rfl
 | succ d ih=>
  intro i k x hi hx hk
  have g: ∀j:Nat,rd (il x) (j:Int)=((x.getD j 0:Nat):Int):=bf x
  have g0:rd (il x) 0=((x.getD 0 0:Nat):Int):=g 0
  have g1:rd (il x) 1=((x.getD 1 0:Nat):Int):=g 1
  have g2:rd (il x) 2=((x.getD 2 0:Nat):Int):=g 2
  have g3:rd (il x) 3=((x.getD 3 0:Nat):Int):=g 3
  have a2:ak ((i:Int)+1)=((i+1:Nat):Int):=au (n:=i+1) (by omega)
  have s:=CQ hS hK (hx.at 0) (hx.at 1) (i:=i) (k:=k+d+1) (by omega) (by omega)
  have l2:=ve (hx.at 2) (gk (sT S (x.getD 0 0) (x.getD 1 0)) (K.getD (2*i+8) 0))
  have r0:=j0 (k:=k+d+1) l2 (-1)
  have r1:bF.f (k+d+1) ((x.getD 3 0:Nat):Int) 1=some ((kz (x.getD 3 0) 1:Nat):Int):=j0 (k:=k+d+1) (hx.at 3) 1
  show am.l2 (k+d+1+1) _ _ _=_
  rw [am.l2,if_pos (by rw [decide_eq_true_eq];omega),g0,g1,g2,g3,s,Option.bind_some,nt (hx.at 2) (gk _ _),r0,Option.bind_some,r1,Option.bind_some,nt (jD (hx.at 3)) (gk _ _),a2]
  have e2:il (Rj K S i x)=[((kz (x.getD 2 0 ^^^ wa (sT S (x.getD 0 0) (x.getD 1 0)) (K.getD (2*i+8) 0)) 31:Nat):Int),((kz (x.getD 3 0) 1 ^^^ wa (sU S (x.getD 0 0) (x.getD 1 0)) (K.getD (2*i+9) 0):Nat):Int),((x.getD 0 0:Nat):Int),((x.getD 1 0:Nat):Int)]:=rfl
  have e3:kz (x.getD 2 0 ^^^ wa (sT S (x.getD 0 0) (x.getD 1 0)) (K.getD (2*i+8) 0)) ((-1:Int)%32).toNat=kz (x.getD 2 0 ^^^ wa (sT S (x.getD 0 0) (x.getD 1 0)) (K.getD (2*i+8) 0)) 31:=rfl
  have e1:tD K S i (d+1) x=tD K S (i+1) d (Rj K S i x):=rfl
  rw [e3,←e2,e1]
  exact ih (by omega) (Ap K S i hx) hk
theorem SI (i:Nat): ∀ {k:Nat} {x:List Nat},i≤16→W4 x→220≤k→
 am.l1 (k+i+1) (il K,il S) (il x) ((i:Int)-1)=(az.f k (il K,il S) (il (Ed (tE K S i x))) 0).bind fun t=>am.l3 k [] t 0:=by
 induction i with
 | zero=>
  intro k x hi hx hk
  have g: ∀j:Nat,rd (il x) (j:Int)=((x.getD j 0:Nat):Int):=bf x
  have g0:rd (il x) 0=((x.getD 0 0:Nat):Int):=g 0
  have g1:rd (il x) 1=((x.getD 1 0:Nat):Int):=g 1
  have g2:rd (il x) 2=((x.getD 2 0:Nat):Int):=g 2
  have g3:rd (il x) 3=((x.getD 3 0:Nat):Int):=g 3
  show am.l1 (k+1) _ _ _=_
  rw [am.l1,if_neg (by decide),g0,g1,g2,g3]
  rfl
 | succ i ih=>
  intro k x hi hx hk
  have g: ∀j:Nat,rd (il x) (j:Int)=((x.getD j 0:Nat):Int):=bf x
  have g0:rd (il x) 0=((x.getD 0 0:Nat):Int):=g 0
  have g1:rd (il x) 1=((x.getD 1 0:Nat):Int):=g 1
  have g2:rd (il x) 2=((x.getD 2 0:Nat):Int):=g 2
  have g3:rd (il x) 3=((x.getD 3 0:Nat):Int):=g 3
  have a0:((i+1:Nat):Int)-1=(i:Int):=by omega
  have a2:ak ((i:Int)-1)=(i:Int)-1:=cA (by omega) (by omega)
  have s:=CQ hS hK (hx.at 0) (hx.at 1) (i:=i) (k:=k+i+1) (by omega) (by omega)
  have l2:=ve (hx.at 3) (gk (sU S (x.getD 0 0) (x.getD 1 0)) (K.getD (2*i+9) 0))
  have r0:=j0 (k:=k+i+1) l2 (-1)
  have r1:bF.f (k+i+1) ((x.getD 2 0:Nat):Int) 1=some ((kz (x.getD 2 0) 1:Nat):Int):=j0 (k:=k+i+1) (hx.at 2) 1
  show am.l1 (k+i+1+1) _ _ _=_
  rw [a0,am.l1,if_pos (by rw [decide_eq_true_eq];omega),g0,g1,g2,g3,s,Option.bind_some,r1,Option.bind_some,nt (hx.at 3) (gk _ _),r0,Option.bind_some,nt (jD (hx.at 2)) (gk _ _),a2]
  have e2:il (HY K S i x)=[((kz (x.getD 2 0) 1 ^^^ wa (sT S (x.getD 0 0) (x.getD 1 0)) (K.getD (2*i+8) 0):Nat):Int),((kz (x.getD 3 0 ^^^ wa (sU S (x.getD 0 0) (x.getD 1 0)) (K.getD (2*i+9) 0)) 31:Nat):Int),((x.getD 0 0:Nat):Int),((x.getD 1 0:Nat):Int)]:=rfl
  have e3:kz (x.getD 3 0 ^^^ wa (sU S (x.getD 0 0) (x.getD 1 0)) (K.getD (2*i+9) 0)) ((-1:Int)%32).toNat=kz (x.getD 3 0 ^^^ wa (sU S (x.getD 0 0) (x.getD 1 0)) (K.getD (2*i+9) 0)) 31:=rfl
  have e1:tE K S (i+1) x=tE K S i (HY K S i x):=rfl
  rw [e3,←e2,e1]
  exact ih (by omega) (pZ K S i hx) hk
end
theorem R4 {x acc:List Nat} (hx:W4 x) (ha:acc.length<1000) {j k:Nat} (hj:j<4) (hk:20≤k):
 am.l3 (k+1) (il acc) (il x) (j:Int)=am.l3 k (il (acc++wb (x.getD j 0))) (il x) ((j+1:Nat):Int):=by
 have c0: ∀z:Nat,decide (0≤(z:Int))=true:=fun z=>by rw [decide_eq_true_eq];omega
 have c1:decide ((j:Int)<4)=true:=by rw [decide_eq_true_eq];omega
 have a2:ak ((j:Int)+1)=((j+1:Nat):Int):=au (n:=j+1) (by omega)
 rw [am.l3,if_pos c1]
 unfold gd
 rw [if_pos (c0 _),if_pos c1,bf,Ak (hx.at j) hk,Option.bind_some,if_pos (by rw [decide_eq_true_eq,ag,ag,(oZ _).1];omega),a2,gF]
def vh (x:List Nat):List Nat:=wb (x.getD 0 0)++wb (x.getD 1 0)++wb (x.getD 2 0)++wb (x.getD 3 0)
theorem JJ (x:List Nat):(vh x).length=16∧ ∀v∈vh x,v<256:=by
 have w:=fun v=>oZ v
 refine ⟨by unfold vh;simp [(w _).1],fun v hv=> ?_⟩
 unfold vh at hv
 simp only [List.mem_append] at hv
 rcases hv with ((hv | hv) | hv) | hv<;>exact (w _).2 v hv
theorem Hu {x:List Nat} (hx:W4 x) {k:Nat} (hk:30≤k):am.l3 k [] (il x) 0=some (il (vh x),0):=by
 obtain ⟨k,rfl⟩: ∃j,k=j+5:=⟨k-5,by omega⟩
 have w: ∀v,(wb v).length=4:=fun v=>(oZ v).1
 have e0:=R4 hx (acc:=[]) (j:=0) (k:=k+4) (by simp) (by omega) (by omega)
 have e1:=R4 hx (acc:=[]++wb (x.getD 0 0)) (j:=1) (k:=k+3) (by simp [w]) (by omega) (by omega)
 have e2:=R4 hx (acc:=[]++wb (x.getD 0 0)++wb (x.getD 1 0)) (j:=2) (k:=k+2) (by simp [w]) (by omega) (by omega)
 have e3:=R4 hx (acc:=[]++wb (x.getD 0 0)++wb (x.getD 1 0)++wb (x.getD 2 0)) (j:=3) (k:=k+1) (by simp [w]) (by omega) (by omega)
 refine (e0.trans (e1.trans (e2.trans e3))).trans ?_
 rw [am.l3,if_neg (by decide)];rfl
def tw (K S P:List Nat) (dir:Bool):List Nat:=if dir=true then xW K 0 (Ed (tE K S 16 (xW K 4 (pP P)))) else xW K 4 (Ed (tD K S 0 16 (xW K 0 (pP P))))
theorem Rk {K S P:List Nat} (hK: ∀v∈K,v<4294967296) (hKl:K.length=40) (hS: ∀v∈S,v<4294967296) (hl:P.length=16) (hb: ∀v∈P,v<256) (dir:Bool) {k:Nat} (hk:300≤k):
 am.f k (il K,il S) (il P) dir=some (il (vh (tw K S P dir)),0):=by
 obtain ⟨k,rfl⟩: ∃j,k=j+16+1+5:=⟨k-22,by omega⟩
 have ob:=CP hl hb
 unfold am.f
 rw [ag,hl,if_neg (by decide),SG hl hb dir (by omega)]
 cases dir with
 | false=>
  have o0:=qo hK 0 ob
  have o1:=xI K S 16 0 _ o0
  have w0:az.f (k+16+1) (il K,il S) (il (pP P)) 0=_:=si (S:=il S) hK (at_:=0) (by omega) (by omega) ob (k:=k+16+1) (by omega)
  have w1:az.f k (il K,il S) (il (Ed (tD K S 0 16 (xW K 0 (pP P))))) 4=_:=si (S:=il S) hK (at_:=4) (by omega) (by omega) (sO o1) (k:=k) (by omega)
  have L:am.l2 (k+16+1) (il K,il S) (il (xW K 0 (pP P))) 0=_:=SH hS hKl 16 (i:=0) (k:=k) (by omega) o0 (by omega)
  rw [if_neg Bool.false_ne_true,w0,Option.bind_some,L,w1,Option.bind_some,Hu (qo hK 4 (sO o1)) (by omega)];rfl
 | true=>
  have o0:=qo hK 4 ob
  have o1:=xJ K S 16 _ o0
  have w0:az.f (k+16+1) (il K,il S) (il (pP P)) 4=_:=si (S:=il S) hK (at_:=4) (by omega) (by omega) ob (k:=k+16+1) (by omega)
  have w1:az.f k (il K,il S) (il (Ed (tE K S 16 (xW K 4 (pP P))))) 0=_:=si (S:=il S) hK (at_:=0) (by omega) (by omega) (sO o1) (k:=k) (by omega)
  have L:am.l1 (k+16+1) (il K,il S) (il (xW K 4 (pP P))) 15=_:=SI hS hKl 16 (k:=k) (by omega) o0 (by omega)
  rw [if_pos rfl,w0,Option.bind_some,L,w1,Option.bind_some,Hu (qo hK 0 (sO o1)) (by omega)];rfl
theorem Nq {v k:Nat}:dv.f k (v:Int)=some (il (wb v)):=by
 unfold dv.f wb
 rw [ri,gW,gW,gW,iR,iR,iR,iR];rfl
section
variable {K S:List Nat} (hK: ∀v∈K,v<4294967296) (hKl:K.length=40) (hS2:2≤S.length) (hS4:S.length≤4)
include hS2 hS4
theorem zg {a b k:Nat} (hb:b<4294967296) (hk:200≤k):dF.f k (il K,il S) (a:Int) (b:Int)=some (((sT S a b:Nat):Int),((sU S a b:Nat):Int)):=by
 have r0:aH.f k (b:Int) 8=some ((kz b 8:Nat):Int):=kC (k:=k) hb 8
 unfold dF.f
 rw [CO hS2 hS4 hk,Option.bind_some,r0,Option.bind_some,CO hS2 hS4 hk,Option.bind_some,fL,sg,fL];rfl
include hKl
theorem Rl (d:Nat): ∀ {i k:Nat} {x:List Nat},i+d=16→W4 x→220≤k→
 aj.l2 (k+d+1) (il K,il S) (il x) (i:Int)=aj.l2 (k+1) (il K,il S) (il (tD K S i d x)) 16:=by
 induction d with
 | zero=>
  intro i k x hi hx hk
  have:i=16:=by omega
  subst this;rfl
 | succ d ih=>
  intro i k x hi hx hk
  have nx:=ih (i:=i+1) (k:=k) (by omega) (Ap K S i hx) hk
  obtain ⟨a,b,c,e,rfl⟩:=hx.four
  have ha:a<4294967296:=hx.2 a (by simp);have hb:b<4294967296:=hx.2 b (by simp);have hc:c<4294967296:=hx.2 c (by simp);have he:e<4294967296:=hx.2 e (by simp)
  have c0: ∀z:Nat,decide (0≤(z:Int))=true:=fun z=>by rw [decide_eq_true_eq];omega
  have y0:ak (2*(i:Int))=((2*i:Nat):Int):=au (n:=2*i) (by omega)
  have y1:ak (((2*i:Nat):Int)+8)=((2*i+8:Nat):Int):=au (n:=2*i+8) (by omega)
  have y2:ak (((2*i:Nat):Int)+9)=((2*i+9:Nat):Int):=au (n:=2*i+9) (by omega)
  have a2:ak ((i:Int)+1)=((i+1:Nat):Int):=au (n:=i+1) (by omega)
  have s:=zg hS2 hS4 (K:=K) (a:=a) hb (k:=k+d+1) (by omega)
  have k8:decide (((2*i+8:Nat):Int)<((il K).length:Int))=true:=by rw [decide_eq_true_eq,ag,hKl];omega
  have k9:decide (((2*i+9:Nat):Int)<((il K).length:Int))=true:=by rw [decide_eq_true_eq,ag,hKl];omega
  have l2:=ve hc (gk (sT S a b) (K.getD (2*i+8) 0))
  have r0:aH.f (k+d+1) ((c ^^^ wa (sT S a b) (K.getD (2*i+8) 0):Nat):Int) 31=some _:=kC (k:=k+d+1) l2 31
  have r1:aH.f (k+d+1) (e:Int) 1=some ((kz e 1:Nat):Int):=kC (k:=k+d+1) he 1
  show aj.l2 (k+d+1+1) (il K,il S) [(a:Int),(b:Int),(c:Int),(e:Int)] _=_
  rw [aj.l2,if_pos (by rw [decide_eq_true_eq];omega)]
  unfold gd
  rw [show rd [(a:Int),(b:Int),(c:Int),(e:Int)] 0=a from rfl,show rd [(a:Int),(b:Int),(c:Int),(e:Int)] 1=b from rfl,show rd [(a:Int),(b:Int),(c:Int),(e:Int)] 2=c from rfl,s,Option.bind_some,y0,y1,y2,if_pos (c0 _),if_pos k8,Option.bind_some,bf,fL,nt hc (gk _ _),r0,Option.bind_some,
   show ∀v,rd (List.set [(a:Int),(b:Int),(c:Int),(e:Int)] 2 v) 3=e from fun _=>rfl,r1,Option.bind_some,if_pos (c0 _),if_pos k9,Option.bind_some,bf,fL,nt (jD he) (gk _ _),Option.bind_some,a2]
  have e1:tD K S i (d+1) [a,b,c,e]=tD K S (i+1) d (Rj K S i [a,b,c,e]):=rfl
  rw [e1,←nx]
  rfl
theorem Rm (i:Nat): ∀ {k:Nat} {x:List Nat},i≤16→W4 x→220≤k→
 aj.l1 (k+i+1) (il K,il S) (il (Ed x)) ((i:Int)-1)=aj.l1 (k+1) (il K,il S) (il (Ed (tE K S i x))) (-1):=by
 induction i with
 | zero=>intro k x hi hx hk;rfl
 | succ i ih=>
  intro k x hi hx hk
  have nx:=ih (k:=k) (by omega) (pZ K S i hx) hk
  obtain ⟨a,b,c,e,rfl⟩:=hx.four
  have ha:a<4294967296:=hx.2 a (by simp);have hb:b<4294967296:=hx.2 b (by simp);have hc:c<4294967296:=hx.2 c (by simp);have he:e<4294967296:=hx.2 e (by simp)
  have c0: ∀z:Nat,decide (0≤(z:Int))=true:=fun z=>by rw [decide_eq_true_eq];omega
  have y0:ak (2*(i:Int))=((2*i:Nat):Int):=au (n:=2*i) (by omega)
  have y1:ak (((2*i:Nat):Int)+8)=((2*i+8:Nat):Int):=au (n:=2*i+8) (by omega)
  have y2:ak (((2*i:Nat):Int)+9)=((2*i+9:Nat):Int):=au (n:=2*i+9) (by omega)
  have a0:((i+1:Nat):Int)-1=(i:Int):=by omega
  have a2:ak ((i:Int)-1)=(i:Int)-1:=cA (by omega) (by omega)
  have s:=zg hS2 hS4 (K:=K) (a:=a) hb (k:=k+i+1) (by omega)
  have k8:decide (((2*i+8:Nat):Int)<((il K).length:Int))=true:=by rw [decide_eq_true_eq,ag,hKl];omega
  have k9:decide (((2*i+9:Nat):Int)<((il K).length:Int))=true:=by rw [decide_eq_true_eq,ag,hKl];omega
  have l2:=ve he (gk (sU S a b) (K.getD (2*i+9) 0))
  have r0:aH.f (k+i+1) ((e ^^^ wa (sU S a b) (K.getD (2*i+9) 0):Nat):Int) 31=some _:=kC (k:=k+i+1) l2 31
  have r1:aH.f (k+i+1) (c:Int) 1=some ((kz c 1:Nat):Int):=kC (k:=k+i+1) hc 1
  show aj.l1 (k+i+1+1) (il K,il S) [(c:Int),(e:Int),(a:Int),(b:Int)] _=_
  rw [a0,aj.l1,if_pos (by rw [decide_eq_true_eq];omega)]
  unfold gd
  rw [show rd [(c:Int),(e:Int),(a:Int),(b:Int)] 0=c from rfl,show rd [(c:Int),(e:Int),(a:Int),(b:Int)] 1=e from rfl,show rd [(c:Int),(e:Int),(a:Int),(b:Int)] 2=a from rfl,show rd [(c:Int),(e:Int),(a:Int),(b:Int)] 3=b from rfl,Option.bind_some,Option.bind_some,
   show rd [(a:Int),(b:Int),(c:Int),(e:Int)] 0=a from rfl,show rd [(a:Int),(b:Int),(c:Int),(e:Int)] 1=b from rfl,s,Option.bind_some,Option.bind_some,show rd [(a:Int),(b:Int),(c:Int),(e:Int)] 2=c from rfl,r1,Option.bind_some,y0,y1,y2,if_pos (c0 _),if_pos k8,Option.bind_some,bf,fL,nt (jD hc) (gk _ _),Option.bind_some,
   show ∀v,rd (List.set [(a:Int),(b:Int),(c:Int),(e:Int)] 2 v) 3=e from fun _=>rfl,if_pos (c0 _),if_pos k9,Option.bind_some,bf,fL,nt he (gk _ _),r0,Option.bind_some,a2]
  have e1:tE K S (i+1) [a,b,c,e]=tE K S i (HY K S i [a,b,c,e]):=rfl
  rw [e1,←nx]
  rfl
end
theorem JK {x acc:List Nat} (hx:W4 x) (ha:acc.length<1000) {j k:Nat} (hj:j<4):
 aj.l3 (k+1) (il x) (il acc) (j:Int)=aj.l3 k (il x) (il (acc++wb (x.getD j 0))) ((j+1:Nat):Int):=by
 have c0: ∀z:Nat,decide (0≤(z:Int))=true:=fun z=>by rw [decide_eq_true_eq];omega
 have c1:decide ((j:Int)<4)=true:=by rw [decide_eq_true_eq];omega
 have a2:ak ((j:Int)+1)=((j+1:Nat):Int):=au (n:=j+1) (by omega)
 rw [aj.l3,if_pos c1]
 unfold gd
 rw [if_pos (c0 _),if_pos c1,bf,Nq,Option.bind_some,if_pos (by rw [decide_eq_true_eq,ag,ag,(oZ _).1];omega),a2,gF]
theorem CS {x:List Nat} (hx:W4 x) {k:Nat} (hk:30≤k):aj.l3 k (il x) [] 0=some (il (vh x),0):=by
 obtain ⟨k,rfl⟩: ∃j,k=j+5:=⟨k-5,by omega⟩
 have w: ∀v,(wb v).length=4:=fun v=>(oZ v).1
 have e0:=JK hx (acc:=[]) (j:=0) (k:=k+4) (by simp) (by omega)
 have e1:=JK hx (acc:=[]++wb (x.getD 0 0)) (j:=1) (k:=k+3) (by simp [w]) (by omega)
 have e2:=JK hx (acc:=[]++wb (x.getD 0 0)++wb (x.getD 1 0)) (j:=2) (k:=k+2) (by simp [w]) (by omega)
 have e3:=JK hx (acc:=[]++wb (x.getD 0 0)++wb (x.getD 1 0)++wb (x.getD 2 0)) (j:=3) (k:=k+1) (by simp [w]) (by omega)
 refine (e0.trans (e1.trans (e2.trans e3))).trans ?_
 rw [aj.l3,if_neg (by decide)];rfl
theorem wx {K x:List Nat} (hK: ∀v∈K,v<4294967296) (hx:W4 x) (i j:Nat):aK .u32 ((x.getD i 0:Nat):Int) ((K.getD j 0:Nat):Int)=((x.getD i 0 ^^^ K.getD j 0:Nat):Int):=nt (hx.at i) (rR hK j)
theorem GU {a0:List Int×List Int} {P:List Nat} (hl:P.length=16) (hb: ∀v∈P,v<256) (dir:Bool) {k:Nat} (hk:20≤k):
 aj.l0 (k+5) a0 (il P) dir (List.replicate 4 0) 0=aj.l0 (k+1) a0 (il P) dir (il (pP P)) 4:=by
 have e0:=JI (a0:=a0) hl hb dir (x:=[0,0,0,0]) rfl (j:=0) (k:=k+4) (by omega) (by omega)
 have e1:=JI (a0:=a0) hl hb dir (x:=[vg P 0,0,0,0]) rfl (j:=1) (k:=k+3) (by omega) (by omega)
 have e2:=JI (a0:=a0) hl hb dir (x:=[vg P 0,vg P 1,0,0]) rfl (j:=2) (k:=k+2) (by omega) (by omega)
 have e3:=JI (a0:=a0) hl hb dir (x:=[vg P 0,vg P 1,vg P 2,0]) rfl (j:=3) (k:=k+1) (by omega) (by omega)
 exact e0.trans (e1.trans (e2.trans e3))
theorem Nr {K S P:List Nat} (hK: ∀v∈K,v<4294967296) (hKl:K.length=40) (hS2:2≤S.length) (hS4:S.length≤4) (hl:P.length=16) (hb: ∀v∈P,v<256) (dir:Bool) {k:Nat} (hk:300≤k):
 aj.f k (il K,il S) (il P) dir=some (il (vh (tw K S P dir)),0):=by
 obtain ⟨k,rfl⟩: ∃j,k=j+16+1+5:=⟨k-22,by omega⟩
 have ob:=CP hl hb
 have kl: ∀j:Int,j<40→decide (j<((il K).length:Int))=true:=fun j hj=>by rw [decide_eq_true_eq,ag,hKl];exact hj
 have gK: ∀j:Nat,rd (il K) (j:Int)=((K.getD j 0:Nat):Int):=bf K
 have k0:rd (il K) 0=((K.getD 0 0:Nat):Int):=gK 0
 have k1:rd (il K) 1=((K.getD 1 0:Nat):Int):=gK 1
 have k2:rd (il K) 2=((K.getD 2 0:Nat):Int):=gK 2
 have k3:rd (il K) 3=((K.getD 3 0:Nat):Int):=gK 3
 have k4:rd (il K) 4=((K.getD 4 0:Nat):Int):=gK 4
 have k5:rd (il K) 5=((K.getD 5 0:Nat):Int):=gK 5
 have k6:rd (il K) 6=((K.getD 6 0:Nat):Int):=gK 6
 have k7:rd (il K) 7=((K.getD 7 0:Nat):Int):=gK 7
 have q0: ∀x:List Nat,rd (il x) 0=((x.getD 0 0:Nat):Int):=fun x=>bf x 0
 have q1: ∀x:List Nat,rd (il x) 1=((x.getD 1 0:Nat):Int):=fun x=>bf x 1
 have q2: ∀x:List Nat,rd (il x) 2=((x.getD 2 0:Nat):Int):=fun x=>bf x 2
 have q3: ∀x:List Nat,rd (il x) 3=((x.getD 3 0:Nat):Int):=fun x=>bf x 3
 unfold aj.f
 rw [ag,hl,if_neg (by decide),GU hl hb dir (by omega),aj.l0,if_neg (by decide)]
 cases dir with
 | false=>
  have o0:=qo hK 0 ob
  have o1:=xI K S 16 0 _ o0
  have L:aj.l2 (k+16+1) (il K,il S) (il (xW K 0 (pP P))) 0=_:=Rl hKl hS2 hS4 16 (i:=0) (k:=k) (by omega) o0 (by omega)
  rw [if_neg Bool.false_ne_true]
  unfold gd
  rw [if_pos (kl 0 (by decide)),if_pos (kl 1 (by decide)),if_pos (kl 2 (by decide)),if_pos (kl 3 (by decide)),Option.bind_some,k0,k1,k2,k3,q0,q1,q2,q3,wx hK ob,wx hK ob,wx hK ob,wx hK ob]
  refine L.trans ?_
  show _=some (il (vh (xW K 4 (Ed (tD K S 0 16 (xW K 0 (pP P)))))),0)
  generalize tD K S 0 16 (xW K 0 (pP P))=y at o1
  rw [aj.l2,if_neg (by decide)]
  unfold gd
  rw [if_pos (kl 4 (by decide)),if_pos (kl 5 (by decide)),if_pos (kl 6 (by decide)),if_pos (kl 7 (by decide)),Option.bind_some,k4,k5,k6,k7,q0,q1,q2,q3,wx hK o1,wx hK o1,wx hK o1,wx hK o1]
  exact CS (k:=k) (qo hK 4 (sO o1)) (by omega)
 | true=>
  have o0:=qo hK 4 ob
  have o1:=xJ K S 16 _ o0
  have L:aj.l1 (k+16+1) (il K,il S) (il (Ed (xW K 4 (pP P)))) 15=_:=Rm hKl hS2 hS4 16 (k:=k) (by omega) o0 (by omega)
  rw [if_pos rfl]
  unfold gd
  rw [if_pos (kl 6 (by decide)),if_pos (kl 7 (by decide)),if_pos (kl 4 (by decide)),if_pos (kl 5 (by decide)),Option.bind_some,k4,k5,k6,k7,q0,q1,q2,q3,wx hK ob,wx hK ob,wx hK ob,wx hK ob]
  refine L.trans ?_
  have o2:=sO o1
  show _=some (il (vh (xW K 0 (Ed (tE K S 16 (xW K 4 (pP P)))))),0)
  generalize Ed (tE K S 16 (xW K 4 (pP P)))=y at o2
  rw [aj.l1,if_neg (by decide)]
  unfold gd
  rw [if_pos (kl 0 (by decide)),if_pos (kl 1 (by decide)),if_pos (kl 2 (by decide)),if_pos (kl 3 (by decide)),Option.bind_some,k0,k1,k2,k3,q0,q1,q2,q3,wx hK o2,wx hK o2,wx hK o2,wx hK o2]
  exact CS (k:=k) (qo hK 0 o2) (by omega)
theorem zh {n:Nat} (hn:n=2∨n=3∨n=4) {m:List Nat} (h:m.length=8*n) (hm: ∀x∈m,x<256): ∃S R,(∀k,300≤k→iz.f k (il m)=some (some S,0))∧(∀k,300≤k→gB.f k (il m)=some (some R,0))∧
 ∀(dir:Bool) (b:List Nat),b.length=16→(∀x∈b,x<256)→ ∃o:List Nat,o.length=16∧(∀x∈o,x<256)∧ ∀k,300≤k→am.f k S (il b) dir=some (il o,0)∧aj.f k R (il b) dir=some (il o,0):=by
 obtain ⟨l1,l2,l3⟩:=t9 n m h
 obtain ⟨b1,b2,b3⟩:=An n m h hm
 have hK: ∀v∈ks (ev m) (od m) 0 20,v<4294967296:=Lu _ _ _ _
 have hKl:(ks (ev m) (od m) 0 20).length=40:=jc _ _ _ _
 refine ⟨(il (ks (ev m) (od m) 0 20),il (sd m).reverse),(il (ks (ev m) (od m) 0 20),il (sd m).reverse),fun k hk=> ?_,fun k hk=> ?_,fun dir b hb hbb=> ?_⟩
 ·unfold iz.f
  rw [JH h hn hm hk,Option.bind_some,if_neg (by simp)]
 ·unfold gB.f
  rw [Hs h hn hm hk,Option.bind_some,if_neg (by simp)]
 ·obtain ⟨o1,o2⟩:=JJ (tw (ks (ev m) (od m) 0 20) (sd m).reverse b dir)
  exact ⟨_,o1,o2,fun k hk=>⟨Rk hK hKl (fun v hv=>b3 v (by simpa using hv)) hb hbb dir hk,Nr hK hKl (by rw [List.length_reverse];omega) (by rw [List.length_reverse];omega) hb hbb dir hk⟩⟩
end Go.Scr.S.Tw
namespace Go.Scr.S
theorem Rn {m:Nat} (hm:tB m) (f:Nat) {k a n s:Nat} (hk:f+9<k) (ha:a<256) (hs:s<256) (hn:n<2^f) (hf:f≤62):
 fE.l0 k (m:Int) (a:Int) (n:Int) (s:Int)=some ((mu m s (pw m a n):Nat):Int):=by
 have hn':n<2^62:=Nat.lt_of_lt_of_le hn (Nat.pow_le_pow_right (by decide) hf)
 rw [←Ah hm f ha hs hn]
 clear hn'
 induction f generalizing k a n s with
 | zero=>
  obtain ⟨k,rfl⟩: ∃j,k=j+1:=⟨k-1,by omega⟩
  have:n=0:=by simpa using hn
  subst this;simp [fE.l0,Lp]
 | succ f ih=>
  obtain ⟨k,rfl⟩: ∃j,k=j+1:=⟨k-1,by omega⟩
  have hn':n<2^62:=Nat.lt_of_lt_of_le hn (Nat.pow_le_pow_right (by decide) hf)
  simp only [fE.l0,Lp]
  by_cases h0:n=0
  ·subst h0;simp
  rw [if_neg (by simp;omega),if_neg h0]
  have e1:iT .i64 (n:Int) 1=((n &&& 1:Nat):Int):=Qj (by omega) (by decide)
  have e2:shr (n:Int) 1=((n/2:Nat):Int):=gW n 1
  have hn2:n/2<2^f:=by rw [Nat.pow_succ] at hn;omega
  rw [e1,e2,Nat.and_one_is_mod,CE hm (by omega) ha ha,CE hm (by omega) hs ha]
  have haa:=qP hm ha a
  have hsa:=qP hm hs a
  by_cases h1:n%2=1
  ·rw [if_pos (by simp [h1]),if_pos h1];exact ih (by omega) haa hsa hn2 (by omega)
  ·have h1':n%2=0:=by omega
   rw [if_neg (by simp [h1']),if_neg h1];exact ih (by omega) haa hs hn2 (by omega)
theorem Ro {m a n k:Nat} (hm:tB m) (hk:72≤k) (ha:a<256) (hn:n<2^62):fE.f k (a:Int) (n:Int) (m:Int)=some ((pw m a n:Nat):Int):=by
 (unfold fE.f;(try dsimp only [gd,gb,Option.bind_some]))
 have:=Rn hm 62 (k:=k) (s:=1) (by omega) ha (by decide) hn (by decide)
 rw [xu m (qj hm ha n)] at this
 exact this
theorem Rp {m:Nat} (hm:tB m) (f:Nat) {k a n s:Nat} (hk:f+9<k) (ha:a<256) (hs:s<256) (hn:n<2^f) (hf:f≤62):
 dx.l0 k (m:Int) (a:Int) (n:Int) (s:Int)=some ((mu m s (pw m a n):Nat):Int):=by
 rw [←Ah hm f ha hs hn]
 induction f generalizing k a n s with
 | zero=>
  obtain ⟨k,rfl⟩: ∃j,k=j+1:=⟨k-1,by omega⟩
  have:n=0:=by simpa using hn
  subst this;simp [dx.l0,Lp]
 | succ f ih=>
  obtain ⟨k,rfl⟩: ∃j,k=j+1:=⟨k-1,by omega⟩
  have hn':n<2^62:=Nat.lt_of_lt_of_le hn (Nat.pow_le_pow_right (by decide) hf)
  simp only [dx.l0,Lp]
  by_cases h0:n=0
  ·subst h0;simp
  rw [if_pos (by simp;omega),if_neg h0]
  have e1:Int.tmod (n:Int) 2=((n%2:Nat):Int):=rfl
  have e2:ak (Int.tdiv (n:Int) 2)=((n/2:Nat):Int):=(au (n:=n/2) (by omega))
  have hn2:n/2<2^f:=by rw [Nat.pow_succ] at hn;omega
  rw [e1,e2,CF hm (by omega) ha ha,CF hm (by omega) hs ha]
  have haa:=qP hm ha a
  have hsa:=qP hm hs a
  by_cases h1:n%2=1
  ·rw [if_pos (by simp [h1]),if_pos h1];exact ih (by omega) haa hsa hn2 (by omega)
  ·have h1':n%2=0:=by omega
   rw [if_neg (by simp [h1']),if_neg h1];exact ih (by omega) haa hs hn2 (by omega)
theorem Rq {m a n k:Nat} (hm:tB m) (hk:72≤k) (ha:a<256) (hn:n<2^62):dx.f k (a:Int) (n:Int) (m:Int)=some ((pw m a n:Nat):Int):=by
 (unfold dx.f;(try dsimp only [gd,gb,Option.bind_some]))
 have:=Rp hm 62 (k:=k) (s:=1) (by omega) ha (by decide) hn (by decide)
 rw [xu m (qj hm ha n)] at this
 exact this
def Hv (y:Nat):Bool:=y.testBit 0 ^^ (y.testBit 1 ^^ (y.testBit 2 ^^ (y.testBit 3 ^^ (y.testBit 4 ^^ (y.testBit 5 ^^ (y.testBit 6 ^^ y.testBit 7))))))
def tF (l:List Nat) (x:Nat):Nat→Nat
 | 0=>0
 | n+1=>tF l x n ^^^ (if Hv (x &&& l.getD n 0) then 2^n else 0)
theorem JL {k y:Nat} (hy:y<256): ∃c:Nat,fM.f k (y:Int)=some (c:Int)∧(decide (Int.tmod (c:Int) 2>0))=Hv y:=by
 have key: ∀y:Nat,y<256→ ∃c:Nat,c<9∧fM.f 0 (y:Int)=some (c:Int)∧(decide (Int.tmod (c:Int) 2>0))=Hv y:=by
  intro y hy
  have:=(by decide+kernel: ∀y:Nat,y<256→(match fM.f 0 ((y:Nat):Int) with | some c=>decide (0≤c)&&(decide (Int.tmod c 2>0)==Hv y)&&decide (c<9) | none=>false)=true) y hy
  generalize fM.f 0 ((y:Nat):Int)=q at this ⊢
  cases q with
  | none=>cases this
  | some c=>
   simp only [Bool.and_eq_true,decide_eq_true_eq,beq_iff_eq] at this
   have e:((c.toNat:Nat):Int)=c:=Int.toNat_of_nonneg this.1.1
   exact ⟨c.toNat,by omega,by rw [e],by rw [e];exact this.1.2⟩
 obtain ⟨c,_,h1,h2⟩:=key y hy
 exact ⟨c,h1,h2⟩
theorem Ns: ∀i:Nat,i<8→rd ([1,2,4,8,16,32,64,128]:List Int) (i:Int)=((2^i:Nat):Int):=by decide
theorem JM {l:List Nat} (hl: ∀x∈l,x<256) {x:Nat} (hx:x<256) (d:Nat) {k i c:Nat} (hk:d<k) (hi:i+d=8) (hc:c<256):
 ∃v:Nat,fg.l0 k (x:Int) (il l) (c:Int) (i:Int)=some (v:Int)∧v ^^^ tF l x i=c ^^^ tF l x 8∧v<256:=by
 induction d generalizing k i c with
 | zero=>
  obtain ⟨k,rfl⟩: ∃j,k=j+1:=⟨k-1,by omega⟩
  have:i=8:=by omega
  subst this
  exact ⟨c,by simp [fg.l0,gd],rfl,hc⟩
 | succ d ih=>
  obtain ⟨k,rfl⟩: ∃j,k=j+1:=⟨k-1,by omega⟩
  have hr:=dN hl i
  have hb:=RQ hx hr
  have hy:x &&& l.getD i 0<256:=Nat.lt_of_le_of_lt Nat.and_le_left hx
  obtain ⟨n,h1,h2⟩:=JL (k:=k) hy
  have hp8:2^i<2^8:=Nat.pow_lt_pow_right (by decide) (by omega)
  have hp:2^i<256:=hp8
  have e5:ak ((i:Int)+1)=((i+1:Nat):Int):=by rw [cA (by omega) (by omega)];simp
  have c1:decide ((i:Int)<8)=true:=by rw [decide_eq_true_eq];omega
  have c2:decide (0≤(i:Int))=true:=by rw [decide_eq_true_eq];omega
  simp only [fg.l0,c1,c2,if_true,bf,hb,h1,Option.bind_some,h2,Ns i (by omega),BZ hc hp,e5,gd]
  cases hq:Hv (x &&& l.getD i 0)
  ·rw [if_neg (by decide)]
   obtain ⟨v,v1,v2,v3⟩:=ih (k:=k) (i:=i+1) (c:=c) (by omega) (by omega) hc
   have e:tF l x (i+1)=tF l x i:=by simp only [tF,hq,Bool.false_eq_true,if_false,Nat.xor_zero]
   rw [e] at v2
   exact ⟨v,v1,v2,v3⟩
  ·rw [if_pos rfl]
   obtain ⟨v,v1,v2,v3⟩:=ih (k:=k) (i:=i+1) (c:=c ^^^ 2^i) (by omega) (by omega) (Nat.xor_lt_two_pow (n:=8) hc hp)
   refine ⟨v,v1,?_,v3⟩
   have e:tF l x (i+1)=tF l x i ^^^ 2^i:=by simp only [tF,hq,if_true]
   rw [e] at v2
   have h:(v ^^^ (tF l x i ^^^ 2^i)) ^^^ 2^i=((c ^^^ 2^i) ^^^ tF l x 8) ^^^ 2^i:=by rw [v2]
   have u: ∀A P:Nat,(A ^^^ P) ^^^ P=A:=fun A P=>by rw [Nat.xor_assoc,Nat.xor_self,Nat.xor_zero]
   rw [←Nat.xor_assoc v,u,Nat.xor_assoc c,Nat.xor_comm (2^i) (tF l x 8),←Nat.xor_assoc c,u] at h
   exact h
theorem JN {l:List Nat} (hl: ∀x∈l,x<256) {x c k:Nat} (hx:x<256) (hc:c<256) (hk:8<k):fg.f k (x:Int) (il l) (c:Int)=some ((c ^^^ tF l x 8:Nat):Int):=by
 obtain ⟨v,h1,h2,h3⟩:=JM hl hx 8 (k:=k) (i:=0) (by omega) (by omega) hc
 rw [show tF l x 0=0 from rfl,Nat.xor_zero] at h2
 rw [←h2];exact h1
def mk (m e:Nat) (l:List Nat) (c x:Nat):Int:=((c ^^^ tF l (pw m x e) 8:Nat):Int)
theorem JO {m e c:Nat} {l:List Nat} (hm:tB m) (he:e<2^62) (hl: ∀x∈l,x<256) (hc:c<256) (d:Nat) {k i:Nat} {x:List Int} (hk:d+100<k) (hi:i+d=256) (hx:Fl (mk m e l c) 256 i x):
 gh.l0 k (e:Int) (m:Int) (il l) (c:Int) x 256 (i:Int)=some (fill 256 (mk m e l c)):=by
 induction d generalizing k i x with
 | zero=>
  obtain ⟨k,rfl⟩: ∃j,k=j+1:=⟨k-1,by omega⟩
  have:i=256:=by omega
  subst this
  simp only [gh.l0,gd]
  rw [if_neg (by decide),hx.done]
 | succ d ih=>
  obtain ⟨k,rfl⟩: ∃j,k=j+1:=⟨k-1,by omega⟩
  have e1:U8 (i:Int)=(i:Int):=Gn (by omega) (by omega)
  have e5:ak ((i:Int)+1)=((i+1:Nat):Int):=by rw [cA (by omega) (by omega)];simp
  have c1:decide ((i:Int)<256)=true:=by rw [decide_eq_true_eq];omega
  have c2:decide (0≤(i:Int))=true:=by rw [decide_eq_true_eq];omega
  have c3:decide ((i:Int)<(x.length:Int))=true:=by rw [decide_eq_true_eq,hx.1];omega
  have f1:=Ro hm (k:=k) (a:=i) (n:=e) (by omega) (by omega) he
  have f2:=JN hl (qj hm (by omega:i<256) e) hc (k:=k) (by omega)
  simp only [gh.l0,c1,c2,c3,if_true,e1,f1,f2,Option.bind_some,e5,Int.toNat_natCast,gd]
  exact ih (by omega) (by omega) (hx.set (by omega) rfl)
theorem CT {m e c k:Nat} {l:List Nat} (hm:tB m) (he:e<2^62) (hl: ∀x∈l,x<256) (hc:c<256) (hk:400≤k):gh.f k (e:Int) (m:Int) (il l) (c:Int)=some (fill 256 (mk m e l c)):=by
 unfold gh.f
 rw [List.length_replicate]
 exact JO hm he hl hc 256 (i:=0) (by omega) (by omega) (Fl.zero (by rw [List.length_replicate]))
def pq (y:Nat):Nat→Bool
 | 0=>false
 | q+1=>pq y q ^^ y.testBit q
theorem Nt (y:Nat):pq y 8=Hv y:=by simp only [pq,Hv,Bool.false_xor,Bool.xor_assoc]
def qH (p:Bool) (i:Nat):Nat:=if p then 2^i else 0
theorem xK {p:Bool} {i:Nat} (hi:i<8):qH p i<256:=by
 have hp8:2^i<2^8:=Nat.pow_lt_pow_right (by decide) hi
 have hp:2^i<256:=hp8
 unfold qH;split<;>omega
theorem Hw (p q:Bool) (i:Nat):qH (p ^^ q) i=qH p i ^^^ qH q i:=by cases p<;>cases q<;>simp [qH]
theorem JP {l:List Nat} (hl: ∀x∈l,x<256) {x i c0 F v:Nat} (hx:x<256) (hi:i<8) (hc0:c0<256)
 (H: ∀k,F<k→bc.l0 k (x:Int) (il l) ((c0 ^^^ qH (Hv (x &&& l.getD i 0)) i:Nat):Int) ((i+1:Nat):Int)=some (v:Int))
 (d:Nat) {k q:Nat} (hk:d+F+1<k) (hq:q+d=8):
 bc.l1 k (x:Int) (il l) (i:Int) ((c0 ^^^ qH (pq (x &&& l.getD i 0) q) i:Nat):Int) (q:Int)=some (v:Int):=by
 induction d generalizing k q with
 | zero=>
  obtain ⟨k,rfl⟩: ∃j,k=j+1:=⟨k-1,by omega⟩
  have:q=8:=by omega
  subst this
  have e5:ak ((i:Int)+1)=((i+1:Nat):Int):=by rw [cA (by omega) (by omega)];simp
  have c1:decide (((8:Nat):Int)<8)=false:=by decide
  simp only [bc.l1,c1,Bool.false_eq_true,if_false,e5,gd]
  rw [Nt]
  exact H k (by omega)
 | succ d ih=>
  obtain ⟨k,rfl⟩: ∃j,k=j+1:=⟨k-1,by omega⟩
  have hr:=dN hl i
  have hb:=RQ hr hx
  have hy:x &&& l.getD i 0<256:=Nat.lt_of_le_of_lt Nat.and_le_left hx
  rw [Nat.and_comm] at hb
  have c1:decide ((q:Int)<8)=true:=by rw [decide_eq_true_eq];omega
  have c2:decide (0≤(q:Int))=true:=by rw [decide_eq_true_eq];omega
  have c3:decide (0≤(i:Int))=true:=by rw [decide_eq_true_eq];omega
  have u1:kX (i:Int)=(i:Int):=lR (by omega) (by omega)
  have e9:kX ((q:Int)+1)=((q+1:Nat):Int):=by rw [lR (by omega) (by omega)];simp
  generalize hY:x &&& l.getD i 0=y at*
  have e0:mM .u8 (y:Int) (q:Int)=((y >>> q:Nat):Int):=by
   show shr (y:Int) (min (q:Int).toNat 8)=_
   rw [gW];congr 2;rw [Int.toNat_natCast];omega
  have hyq:y >>> q<256:=by rw [Nat.shiftRight_eq_div_pow];exact Nat.lt_of_le_of_lt (Nat.div_le_self _ _) hy
  have e2:iT .u8 ((y >>> q:Nat):Int) 1=(((y >>> q) &&& 1:Nat):Int):=RQ hyq (by decide)
  have e3:lG .u8 (((y >>> q) &&& 1:Nat):Int) (i:Int)=((qH (y.testBit q) i:Nat):Int):=by
   show shl .u8 _ (min ((i:Int)).toNat 8)=_
   rw [I8,Int.toNat_natCast,Nat.min_eq_left (by omega)]
   have hp8:2^i<2^8:=Nat.pow_lt_pow_right (by decide) hi
   have hp:2^i<256:=hp8
   have hb1:(y >>> q) &&& 1=(y.testBit q).toNat:=by
    rw [Nat.testBit_eq_decide_div_mod_eq,Nat.and_one_is_mod,Nat.shiftRight_eq_div_pow]
    have:=Nat.mod_two_eq_zero_or_one (y/2^q)
    rcases this with h | h<;>simp [h]
   rw [hb1];unfold qH
   cases y.testBit q
   ·simp
   ·simp [Nat.shiftLeft_eq,Nat.mod_eq_of_lt hp]
  have e4:=BZ (a:=c0 ^^^ qH (pq y q) i) (b:=qH (y.testBit q) i) (Nat.xor_lt_two_pow (n:=8) hc0 (xK hi)) (xK hi)
  rw [Nat.xor_assoc,←Hw] at e4
  simp only [bc.l1,c1,c2,c3,if_true,bf,hb,e0,e2,Option.bind_some,u1,e3,e4,e9,gd]
  have:=ih (k:=k) (q:=q+1) (by omega) (by omega)
  exact this
theorem JQ {l:List Nat} (hl: ∀x∈l,x<256) {x:Nat} (hx:x<256) (d:Nat) {k i c:Nat} (hk:12*d<k) (hi:i+d=8) (hc:c<256):
 ∃v:Nat,(∀k,12*d<k→bc.l0 k (x:Int) (il l) (c:Int) (i:Int)=some (v:Int))∧v ^^^ tF l x i=c ^^^ tF l x 8∧v<256:=by
 induction d generalizing k i c with
 | zero=>
  have:i=8:=by omega
  subst this
  refine ⟨c,fun k hk=> ?_,rfl,hc⟩
  obtain ⟨k,rfl⟩: ∃j,k=j+1:=⟨k-1,by omega⟩
  simp [bc.l0,gd]
 | succ d ih=>
  obtain ⟨v,v1,v2,v3⟩:=ih (k:=12*d+1) (i:=i+1) (c:=c ^^^ qH (Hv (x &&& l.getD i 0)) i) (by omega) (by omega) (Nat.xor_lt_two_pow (n:=8) hc (xK (by omega)))
  refine ⟨v,fun k hk=> ?_,?_,v3⟩
  ·obtain ⟨k,rfl⟩: ∃j,k=j+1:=⟨k-1,by omega⟩
   have c1:decide ((i:Int)<8)=true:=by rw [decide_eq_true_eq];omega
   have c2:decide (0≤(i:Int))=true:=by rw [decide_eq_true_eq];omega
   simp only [bc.l0,c1,c2,if_true,gd]
   have:=JP hl hx (by omega:i<8) hc (F:=12*d) v1 8 (k:=k) (q:=0) (by omega) (by omega)
   rw [show qH (pq (x &&& l.getD i 0) 0) i=0 from rfl,Nat.xor_zero] at this
   exact this
  ·have e:tF l x (i+1)=tF l x i ^^^ qH (Hv (x &&& l.getD i 0)) i:=rfl
   rw [e] at v2
   have u: ∀A P:Nat,(A ^^^ P) ^^^ P=A:=fun A P=>by rw [Nat.xor_assoc,Nat.xor_self,Nat.xor_zero]
   generalize qH (Hv (x &&& l.getD i 0)) i=P at*
   have h:(v ^^^ (tF l x i ^^^ P)) ^^^ P=((c ^^^ P) ^^^ tF l x 8) ^^^ P:=by rw [v2]
   rw [←Nat.xor_assoc v,u,Nat.xor_assoc c,Nat.xor_comm P (tF l x 8),←Nat.xor_assoc c,u] at h
   exact h
theorem JR {l:List Nat} (hl: ∀x∈l,x<256) {x c k:Nat} (hx:x<256) (hc:c<256) (hk:96<k):bc.f k (x:Int) (il l) (c:Int)=some ((c ^^^ tF l x 8:Nat):Int):=by
 obtain ⟨v,h1,h2,h3⟩:=JQ hl hx 8 (k:=k) (i:=0) (by omega) (by omega) hc
 rw [show tF l x 0=0 from rfl,Nat.xor_zero] at h2
 rw [←h2];exact h1 k (by omega)
theorem Hx {m e c:Nat} {l:List Nat} (hm:tB m) (he:e<2^62) (hl: ∀x∈l,x<256) (hc:c<256) (d:Nat) {k i:Nat} {x:List Int} (hk:d+100<k) (hi:i+d=256) (hx:Fl (mk m e l c) 256 i x):
 cV.l0 k (e:Int) (m:Int) (il l) (c:Int) x (i:Int)=some (fill 256 (mk m e l c)):=by
 induction d generalizing k i x with
 | zero=>
  obtain ⟨k,rfl⟩: ∃j,k=j+1:=⟨k-1,by omega⟩
  have:i=256:=by omega
  subst this
  simp only [cV.l0,gd]
  rw [if_neg (by decide),hx.done]
 | succ d ih=>
  obtain ⟨k,rfl⟩: ∃j,k=j+1:=⟨k-1,by omega⟩
  have e1:U8 (i:Int)=(i:Int):=Gn (by omega) (by omega)
  have e5:ak ((i:Int)+1)=((i+1:Nat):Int):=by rw [cA (by omega) (by omega)];simp
  have c1:decide ((i:Int)<256)=true:=by rw [decide_eq_true_eq];omega
  have c2:decide (0≤(i:Int))=true:=by rw [decide_eq_true_eq];omega
  have c3:decide ((i:Int)<(x.length:Int))=true:=by rw [decide_eq_true_eq,hx.1];omega
  have f1:=Rq hm (k:=k) (a:=i) (n:=e) (by omega) (by omega) he
  have f2:=JR hl (qj hm (by omega:i<256) e) hc (k:=k) (by omega)
  simp only [cV.l0,c1,c2,c3,if_true,e1,f1,f2,Option.bind_some,e5,Int.toNat_natCast,gd]
  exact ih (by omega) (by omega) (hx.set (by omega) rfl)
theorem zi {m e c k:Nat} {l:List Nat} (hm:tB m) (he:e<2^62) (hl: ∀x∈l,x<256) (hc:c<256) (hk:400≤k):cV.f k (e:Int) (m:Int) (il l) (c:Int)=some (fill 256 (mk m e l c)):=
 Hx hm he hl hc 256 (i:=0) (by omega) (by omega) (Fl.zero (by rw [List.length_replicate]))
def nj (P:Nat→Bool):List Bool:=(List.range 256).map P
theorem xM (P:Nat→Bool):(nj P).length=256:=by simp [nj]
theorem sj (P:Nat→Bool) (j:Nat):(nj P)[j]? =if j<256 then some (P j) else none:=by
 unfold nj
 rw [List.getElem?_map]
 by_cases h:j<256
 ·rw [List.getElem?_range h,if_pos h];rfl
 ·rw [List.getElem?_eq_none (by simp;omega),if_neg h];rfl
theorem we (P:Nat→Bool) (v:Nat):(nj P).set v true=nj (fun u=>P u ||decide (u=v)):=by
 refine List.ext_getElem? fun j=> ?_
 rw [List.getElem?_set,sj,sj,xM]
 by_cases h:v=j
 ·subst h;rw [if_pos rfl];by_cases hv:v<256<;>simp [hv]
 ·rw [if_neg h]
  have:decide (j=v)=false:=by simp;omega
  rw [this,Bool.or_false]
theorem og {P Q:Nat→Bool} (h: ∀u,P u=Q u):nj P=nj Q:=by unfold nj;exact List.map_congr_left fun u _=>h u
theorem uZ:List.replicate 256 false=nj (fun _=>false):=by
 refine List.ext_getElem? fun j=> ?_
 rw [List.getElem?_replicate,sj]
theorem vi (l:List Nat) {i:Nat} (h:i<l.length) (u:Nat):decide (u∈l.take (i+1))=(decide (u∈l.take i) ||decide (u=l.getD i 0)):=by
 have e:l.getD i 0=l[i]:=by rw [List.getD_eq_getElem?_getD,List.getElem?_eq_getElem h];rfl
 rw [List.take_succ_eq_append_getElem h,Bool.eq_iff_iff,e]
 simp only [decide_eq_true_eq,Bool.or_eq_true,List.mem_append,List.mem_singleton]
theorem JS {l:List Nat} (hl: ∀x∈l,x<256) (hlen:l.length<1000000000) (d:Nat) {k i:Nat} (hk:d<k) (hi:i+d=l.length):
 gR.l0 k (il l) (nj fun u=>decide (u∈l.take i)) (i:Int)=some (nj fun u=>decide (u∈l)):=by
 induction d generalizing k i with
 | zero=>
  obtain ⟨k,rfl⟩: ∃j,k=j+1:=⟨k-1,by omega⟩
  have:i=l.length:=by omega
  subst this
  simp only [gR.l0,ag,gd]
  rw [if_neg (by simp),List.take_length]
 | succ d ih=>
  obtain ⟨k,rfl⟩: ∃j,k=j+1:=⟨k-1,by omega⟩
  have hv:=dN hl i
  have c1:decide ((i:Int)<(l.length:Int))=true:=by rw [decide_eq_true_eq];omega
  have c2:decide (0≤(i:Int))=true:=by rw [decide_eq_true_eq];omega
  have c3:decide (0≤((l.getD i 0:Nat):Int))=true:=by rw [decide_eq_true_eq];omega
  have c4:decide (((l.getD i 0:Nat):Int)<256)=true:=by rw [decide_eq_true_eq];omega
  have e5:ak ((i:Int)+1)=((i+1:Nat):Int):=by rw [cA (by omega) (by omega)];simp
  simp only [gR.l0,ag,c1,c2,if_true,bf,c3,c4,Int.toNat_natCast,e5,we,gd]
  have:=ih (k:=k) (i:=i+1) (by omega) (by omega)
  rw [og (vi l (by omega:i<l.length))] at this
  exact this
theorem JT {l:List Nat} (hl: ∀x∈l,x<256) (hlen:l.length<1000000000) {k:Nat} (hk:l.length<k):gR.f k (il l)=some (nj fun u=>decide (u∈l)):=by
 (unfold gR.f;(try dsimp only [gd,gb,Option.bind_some]))
 rw [uZ]
 have:=JS hl hlen l.length (k:=k) (i:=0) hk (by omega)
 rw [og (Q:=fun _=>false) (by intro u;simp)] at this
 exact this
def Ep (l:List Nat):Bool:=decide (l.length≤256)&&(nj (fun u=>decide (u∈l))==nj (fun u=>decide (u<l.length)))
theorem Rr {l:List Nat} (hl: ∀x∈l,x<256) (hlen:l.length≤256) (d:Nat) {k i:Nat} (hk:d+300<k) (hi:i+d=l.length):
 jz.l0 k (il l) (nj fun u=>decide (u<i)) (i:Int)=some (Ep l):=by
 induction d generalizing k i with
 | zero=>
  obtain ⟨k,rfl⟩: ∃j,k=j+1:=⟨k-1,by omega⟩
  have:i=l.length:=by omega
  subst this
  have c1:decide ((l.length:Int)<(l.length:Int))=false:=by simp
  simp only [jz.l0,ag,c1,Bool.false_eq_true,if_false,JT hl (by omega:l.length<1000000000) (by omega:l.length<k),Option.bind_some,Ep,hlen,decide_true,Bool.true_and,gd]
 | succ d ih=>
  obtain ⟨k,rfl⟩: ∃j,k=j+1:=⟨k-1,by omega⟩
  have c1:decide ((i:Int)<(l.length:Int))=true:=by rw [decide_eq_true_eq];omega
  have c2:decide (0≤(i:Int))=true:=by rw [decide_eq_true_eq];omega
  have c4:decide ((i:Int)<256)=true:=by rw [decide_eq_true_eq];omega
  have e5:ak ((i:Int)+1)=((i+1:Nat):Int):=by rw [cA (by omega) (by omega)];simp
  simp only [jz.l0,ag,c1,c2,c4,if_true,Int.toNat_natCast,e5,we,gd]
  have:=ih (k:=k) (i:=i+1) (by omega) (by omega)
  rw [og (Q:=fun u=>decide (u<i) ||decide (u=i)) (by intro u;rw [Bool.eq_iff_iff];simp;omega)] at this
  exact this
theorem Rt {l:List Nat} (hl: ∀x∈l,x<256) {k:Nat} (hk:600≤k):jz.f k (il l)=some (Ep l):=by
 (unfold jz.f;(try dsimp only [gd,gb,Option.bind_some]))
 rw [ag]
 by_cases h:l.length≤256
 ·rw [if_neg (by rw [decide_eq_true_eq];omega),uZ]
  have:=Rr hl h l.length (k:=k) (i:=0) (by omega) (by omega)
  rw [og (Q:=fun _=>false) (by intro u;simp)] at this
  exact this
 ·rw [if_pos (by rw [decide_eq_true_eq];omega)]
  simp [Ep,h]
theorem Aq (m:Nat): ∀(l:List Nat),(∀v,v<m→v∈l)→m≤l.length:=by
 induction m with
 | zero=>intro l _;exact Nat.zero_le _
 | succ m ih=>
  intro l h
  have h1:=ih (l.erase m) (fun v hv=>(List.mem_erase_of_ne (by omega)).2 (h v (by omega)))
  rw [List.length_erase_of_mem (h m (by omega))] at h1
  have:=List.length_pos_of_mem (h m (by omega))
  omega
theorem xN (n:Nat): ∀(l:List Nat),l.length=n→(∀v,v<n→v∈l)→l.Nodup:=by
 induction n with
 | zero=>intro l hl _;rw [List.length_eq_zero_iff.1 hl];exact List.nodup_nil
 | succ n ih=>
  intro l hl h
  have hn:=h n (by omega)
  have h1:(l.erase n).length=n:=by rw [List.length_erase_of_mem hn];omega
  have h2: ∀v,v<n→v∈l.erase n:=fun v hv=>(List.mem_erase_of_ne (by omega)).2 (h v (by omega))
  have h3:=ih (l.erase n) h1 h2
  have h4:n∉l.erase n:=by
   intro hm
   have:=Aq (n+1) (l.erase n) (fun v hv=>by
    by_cases e:v=n
    ·subst e;exact hm
    ·exact h2 v (by omega))
   omega
  exact (List.perm_cons_erase hn).nodup_iff.2 (List.nodup_cons.2 ⟨h4,h3⟩)
theorem As {n:Nat} {l:List Nat} (hl:l.length=n) (h: ∀v,v<n→v∈l) {i j:Nat} (hi:i<n) (hj:j<n) (e:l.getD i 0=l.getD j 0):i=j:=by
 have hn:=xN n l hl h
 rw [List.getD_eq_getElem?_getD,List.getD_eq_getElem?_getD,List.getElem?_eq_getElem (by omega),List.getElem?_eq_getElem (by omega)] at e
 exact (List.getElem_inj hn).1 e
theorem sk {l:List Nat} (h:Ep l=true):l.length≤256∧ ∀v,v<256→(v∈l↔v<l.length):=by
 unfold Ep at h
 rw [Bool.and_eq_true,decide_eq_true_eq,beq_iff_eq] at h
 refine ⟨h.1,fun v hv=> ?_⟩
 have:=congrArg (fun x=>x[v]?) h.2
 simp only [sj,if_pos hv,Option.some.injEq] at this
 simpa using this
theorem zj {l:List Nat} {i:Nat} (h:i<l.length):l.getD i 0∈l:=by
 rw [List.getD_eq_getElem?_getD,List.getElem?_eq_getElem h];exact List.getElem_mem _
theorem Nu {l:List Nat} (hl: ∀x∈l,x<256) (h:Ep l=true) {i:Nat} (hi:i<l.length):l.getD i 0<l.length:=
 ((sk h).2 _ (hl _ (zj hi))).1 (zj hi)
theorem JU {l:List Nat} (h:Ep l=true) {i j:Nat} (hi:i<l.length) (hj:j<l.length) (e:l.getD i 0=l.getD j 0):i=j:=by
 obtain ⟨h1,h2⟩:=sk h
 exact As rfl (fun v hv=>(h2 v (by omega)).2 hv) hi hj e
def At (l u:List Nat):Prop:=u.length=l.length∧ ∀i,i<l.length→u.getD (l.getD i 0) 0=i
theorem JV {l:List Nat} (hl: ∀x∈l,x<256) (h:Ep l=true) (d:Nat) {k i:Nat} {x:List Nat} (hk:d<k) (hi:i+d=l.length) (hx:x.length=l.length) (hu: ∀j,j<i→x.getD (l.getD j 0) 0=j):
 ∃u,gC.l0 k (il l) (il x) (i:Int)=some (il u,true)∧At l u:=by
 obtain ⟨hlen,_⟩:=sk h
 induction d generalizing k i x with
 | zero=>
  obtain ⟨k,rfl⟩: ∃j,k=j+1:=⟨k-1,by omega⟩
  have e:i=l.length:=by omega
  refine ⟨x,?_,hx,fun j hj=>hu j (by omega)⟩
  simp only [gC.l0,ag,gd]
  rw [if_neg (by rw [decide_eq_true_eq];omega)]
 | succ d ih=>
  obtain ⟨k,rfl⟩: ∃j,k=j+1:=⟨k-1,by omega⟩
  have hv:=Nu hl h (by omega:i<l.length)
  have c1:decide ((i:Int)<(l.length:Int))=true:=by rw [decide_eq_true_eq];omega
  have c2:decide (0≤(i:Int))=true:=by rw [decide_eq_true_eq];omega
  have c3:decide (0≤((l.getD i 0:Nat):Int))=true:=by rw [decide_eq_true_eq];omega
  have c4:decide (((l.getD i 0:Nat):Int)<(x.length:Int))=true:=by rw [decide_eq_true_eq];omega
  have e5:ak ((i:Int)+1)=((i+1:Nat):Int):=by rw [cA (by omega) (by omega)];simp
  have e6:U8 (i:Int)=(i:Int):=Gn (by omega) (by omega)
  simp only [gC.l0,ag,c1,c2,if_true,bf,c3,c4,Int.toNat_natCast,e5,e6,kw,gd]
  refine ih (by omega) (by omega) (by rw [List.length_set];exact hx) fun j hj=> ?_
  rw [List.getD_eq_getElem?_getD,List.getElem?_set]
  by_cases e:l.getD i 0=l.getD j 0
  ·have:=JU h (by omega) (by omega) e
   subst this
   rw [if_pos rfl,if_pos (by omega)];rfl
  ·rw [if_neg e,←List.getD_eq_getElem?_getD]
   refine hu j ?_
   rcases Nat.lt_or_ge j i with h' | h'
   ·exact h'
   ·have:j=i:=by omega
    subst this;exact absurd rfl e
theorem CU {l:List Nat} (hl: ∀x∈l,x<256) (h:Ep l=true) {k:Nat} (hk:600≤k): ∃u,gC.f k (il l)=some (il u,true)∧At l u:=by
 obtain ⟨hlen,_⟩:=sk h
 obtain ⟨u,h1,h2⟩:=JV hl h l.length (k:=k) (i:=0) (x:=List.replicate l.length 0) (by omega) (by omega) (by rw [List.length_replicate]) (fun j hj=>absurd hj (Nat.not_lt_zero j))
 refine ⟨u,?_,h2⟩
 (unfold gC.f;(try dsimp only [gd,gb,Option.bind_some]))
 rw [Rt hl hk,h]
 simp only [Option.bind_some,Bool.not_true,Bool.false_eq_true,if_false,ag,Int.toNat_natCast]
 rw [if_pos (by rw [decide_eq_true_eq];omega),if_pos (by rw [decide_eq_true_eq];omega),kJ]
 exact h1
end Go.Scr.S
namespace Go.Scr.S.Ar
def tS:List Nat:=[99,124,119,123,242,107,111,197,48,1,103,43,254,215,171,118,202,130,201,125,250,89,71,240,173,212,162,175,156,164,114,192,183,253,147,38,54,63,247,204,52,165,229,241,113,216,49,21,4,199,35,195,24,150,5,154,7,18,128,226,235,39,178,117,9,131,44,26,27,110,90,160,82,59,214,179,41,227,47,132,83,209,0,237,32,252,177,91,106,203,190,57,74,76,88,207,208,239,170,251,67,77,51,133,69,249,2,127,80,60,159,168,81,163,64,143,146,157,56,245,188,182,218,33,16,255,243,210,205,12,19,236,95,151,68,23,196,167,126,61,100,93,25,115,96,129,79,220,34,42,144,136,70,238,184,20,222,94,11,219,224,50,58,10,73,6,36,92,194,211,172,98,145,149,228,121,231,200,55,109,141,213,78,169,108,86,244,234,101,122,174,8,186,120,37,46,28,166,180,198,232,221,116,31,75,189,139,138,112,62,181,102,72,3,246,14,97,53,87,185,134,193,29,158,225,248,152,17,105,217,142,148,155,30,135,233,206,85,40,223,140,161,137,13,191,230,66,104,65,153,45,15,176,84,187,22]
def tT:List Nat:=[226,78,84,252,148,194,74,204,98,13,106,70,60,77,139,209,94,250,100,203,180,151,190,43,188,119,46,3,211,25,89,193,29,6,65,107,85,240,153,105,234,156,24,174,99,223,231,187,0,115,102,251,150,76,133,228,58,9,69,170,15,238,16,235,45,127,244,41,172,207,173,145,141,120,200,149,249,47,206,205,8,122,136,56,92,131,42,40,71,219,184,199,147,164,18,83,255,135,14,49,54,33,88,72,1,142,55,116,50,202,233,177,183,171,12,215,196,86,66,38,7,152,96,217,182,185,17,64,236,32,140,189,160,201,132,4,73,35,241,79,80,31,19,220,216,192,158,87,227,195,123,101,59,2,143,62,232,37,146,229,21,221,253,23,169,191,212,154,126,197,57,103,254,118,157,67,167,225,208,245,104,242,27,52,112,5,163,138,213,121,134,168,48,198,81,75,30,166,39,246,53,210,110,36,22,130,95,218,230,117,162,239,44,178,28,159,93,111,128,10,114,68,155,108,144,11,91,51,125,90,82,243,97,161,247,176,214,63,124,109,237,20,224,165,61,34,179,248,137,222,113,26,175,186,181,129]
def tU:List Nat:=[82,9,106,213,48,54,165,56,191,64,163,158,129,243,215,251,124,227,57,130,155,47,255,135,52,142,67,68,196,222,233,203,84,123,148,50,166,194,35,61,238,76,149,11,66,250,195,78,8,46,161,102,40,217,36,178,118,91,162,73,109,139,209,37,114,248,246,100,134,104,152,22,212,164,92,204,93,101,182,146,108,112,72,80,253,237,185,218,94,21,70,87,167,141,157,132,144,216,171,0,140,188,211,10,247,228,88,5,184,179,69,6,208,44,30,143,202,63,15,2,193,175,189,3,1,19,138,107,58,145,17,65,79,103,220,234,151,242,207,206,240,180,230,115,150,172,116,34,231,173,53,133,226,249,55,232,28,117,223,110,71,241,26,113,29,41,197,137,111,183,98,14,170,24,190,27,252,86,62,75,198,210,121,32,154,219,192,254,120,205,90,244,31,221,168,51,136,7,199,49,177,18,16,89,39,128,236,95,96,81,127,169,25,181,74,13,45,229,122,159,147,201,156,239,160,224,59,77,174,42,245,176,200,235,187,60,131,83,153,97,23,43,4,126,186,119,214,38,225,105,20,99,85,33,12,125]
def tV:List Nat:=[48,104,153,27,135,185,33,120,80,57,219,225,114,9,98,60,62,126,94,142,241,160,204,163,42,29,251,182,214,32,196,141,129,101,245,137,203,157,119,198,87,67,86,23,212,64,26,77,192,99,108,227,183,200,100,106,83,170,56,152,12,244,155,237,127,34,118,175,221,58,11,88,103,136,6,195,53,13,1,139,140,194,230,95,2,36,117,147,102,30,229,226,84,216,16,206,122,232,8,44,18,151,50,171,180,39,10,35,223,239,202,217,184,250,220,49,107,209,173,25,73,189,81,150,238,228,168,65,218,255,205,85,134,54,190,97,82,248,187,14,130,72,105,154,224,71,158,92,4,75,52,21,121,38,167,222,41,174,146,215,132,233,210,186,93,243,197,176,191,164,59,113,68,70,43,252,235,111,213,246,20,254,124,112,90,125,253,47,24,131,22,165,145,31,5,149,116,169,193,91,74,133,109,19,7,79,78,69,178,15,201,28,166,188,236,115,144,123,207,89,143,161,249,45,242,177,0,148,55,159,208,46,156,110,40,63,128,240,61,211,37,138,181,231,66,179,199,234,247,76,17,51,3,162,172,96]
def mQ:List (List Int):=[il tS,il tT,il tU,il tV]
def JW (m e:Nat) (l:List Nat) (c:Nat):List Nat:=(List.range 256).map fun x=>c ^^^ tF l (Lp m 8 x e 1) 8
theorem xO {m e c:Nat} {l:List Nat} (hm:tB m) (he:e<256):fill 256 (mk m e l c)=il (JW m e l c):=by
 unfold JW il
 rw [List.map_map]
 refine List.map_congr_left fun x hx=> ?_
 have hx':x<256:=by simpa using hx
 show mk m e l c x=_
 unfold mk
 rw [Function.comp,Ah hm 8 hx' (by decide) he,xu m (qj hm hx' e)]
theorem Lv:JW 283 254 [241,227,199,143,31,62,124,248] 99=tS:=by decide+kernel
theorem Lw:JW 283 247 [122,188,235,185,52,129,186,203] 226=tT:=by decide+kernel
theorem zk:tS.length=256∧(∀x∈tS,x<256)∧Ep tS=true:=by decide+kernel
theorem zl:tT.length=256∧(∀x∈tT,x<256)∧Ep tT=true:=by decide+kernel
theorem CV:tU.length=256∧(∀x∈tU,x<256)∧ ∀i,i<256→tS.getD (tU.getD i 0) 0=i∧tU.getD i 0<256:=by decide+kernel
theorem CW:tV.length=256∧(∀x∈tV,x<256)∧ ∀i,i<256→tT.getD (tV.getD i 0) 0=i∧tV.getD i 0<256:=by decide+kernel
theorem CX {l u v:List Nat} (hl:l.length=256) (hu:At l u) (hv:v.length=256) (h: ∀i,i<256→l.getD (v.getD i 0) 0=i∧v.getD i 0<256):u=v:=by
 refine List.ext_getElem (by rw [hu.1,hl,hv]) fun i h1 h2=> ?_
 obtain ⟨e,lt⟩:=h i (by omega)
 have:=hu.2 (v.getD i 0) (by omega)
 rw [e] at this
 rw [List.getD_eq_getElem?_getD,List.getD_eq_getElem?_getD,List.getElem?_eq_getElem h1,List.getElem?_eq_getElem h2] at this
 exact this
theorem JX {k:Nat} (hk:700≤k):km.f k=some mQ:=by
 have hm:tB 283:=⟨by decide,by decide⟩
 have p1:=CT (k:=k) (e:=254) (c:=99) (l:=[241,227,199,143,31,62,124,248]) hm (by decide) (by decide) (by decide) (by omega)
 have p2:=CT (k:=k) (e:=247) (c:=226) (l:=[122,188,235,185,52,129,186,203]) hm (by decide) (by decide) (by decide) (by omega)
 rw [xO hm (by decide),Lv] at p1
 rw [xO hm (by decide),Lw] at p2
 have q1:gh.f k 254 283 [241,227,199,143,31,62,124,248] 99=some (il tS):=p1
 have q2:gh.f k 247 283 [122,188,235,185,52,129,186,203] 226=some (il tT):=p2
 obtain ⟨u,b1,hu⟩:=CU zk.2.1 zk.2.2 (k:=k) (by omega)
 obtain ⟨v,b2,hv⟩:=CU zl.2.1 zl.2.2 (k:=k) (by omega)
 have e1:=CX zk.1 hu CV.1 CV.2.2
 have e2:=CX zl.1 hv CW.1 CW.2.2
 subst e1
 subst e2
 (unfold km.f;(try dsimp only [gd,gb,Option.bind_some]))
 have r0: ∀a b:List Int,rr (((List.replicate 4 ([]:List Int)).set 0 a).set 1 b) 0=a:=fun _ _=>rfl
 have r1: ∀a b c:List Int,rr ((((List.replicate 4 ([]:List Int)).set 0 a).set 1 b).set 2 c) 1=b:=fun _ _ _=>rfl
 rw [q1,Option.bind_some,q2,Option.bind_some,r0,b1,Option.bind_some,r1,b2,Option.bind_some];rfl
def Hy:List (List Nat):=[[3,4,6,8,9,13,14],[2,5,7,8,9,12,15],[1,4,6,10,11,12,15],[0,5,7,10,11,13,14],[0,2,5,8,11,14,15],[1,3,4,9,10,14,15],[0,2,7,9,10,12,13],[1,3,6,8,11,12,13],
 [0,1,4,7,10,13,15],[0,1,5,6,11,12,14],[2,3,5,6,8,13,15],[2,3,4,7,9,12,14],[1,2,6,7,9,11,12],[0,3,6,7,8,10,13],[0,3,4,5,9,11,14],[1,2,4,5,8,10,15]]
def JY (f:Nat→Nat):List Nat:=Hy.map fun row=>row.foldl (fun v j=>v ^^^ f j) 0
def sq (l:List Nat):List Nat:=JY fun j=>l.getD j 0
def JZ (l:List Int):List Int:=Hy.map fun row=>row.foldl (fun v j=>aK .u8 v (rd l ((j:Nat):Int))) 0
theorem Ru {k:Nat} (hk:300≤k) (x0 x1 x2 x3 x4 x5 x6 x7 x8 x9 Cp Cq Cs Cu Cv Cw:Int):fJ.f k [x0,x1,x2,x3,x4,x5,x6,x7,x8,x9,Cp,Cq,Cs,Cu,Cv,Cw]=some (JZ [x0,x1,x2,x3,x4,x5,x6,x7,x8,x9,Cp,Cq,Cs,Cu,Cv,Cw],true):=by
 obtain ⟨j,rfl⟩: ∃j,k=j+300:=⟨k-300,by omega⟩
 kernel_rfl
theorem CY {m:List Nat} (hm: ∀x∈m,x<256): ∀(row:List Nat) (v:Nat),v<256→row.foldl (fun v j=>aK .u8 v (rd (il m) ((j:Nat):Int))) (v:Int)=((row.foldl (fun v j=>v ^^^ m.getD j 0) v:Nat):Int)
 | [],_,_=>rfl
 | j::r,v,hv=>by
  have h:m.getD j 0<256:=dN hm j
  rw [List.foldl_cons,List.foldl_cons,bf,BZ hv h]
  exact CY hm r _ (Nat.xor_lt_two_pow (n:=8) hv h)
theorem CZ {f:Nat→Nat} (hf: ∀j,f j<256): ∀(row:List Nat) (v:Nat),v<256→row.foldl (fun v j=>v ^^^ f j) v<256
 | [],_,hv=>hv
 | j::r,v,hv=>CZ hf r _ (Nat.xor_lt_two_pow (n:=8) hv (hf j))
theorem C0 {m:List Nat} (hm: ∀x∈m,x<256):JZ (il m)=il (sq m):=by
 unfold JZ sq JY il
 rw [List.map_map]
 exact List.map_congr_left fun row _=>CY hm row 0 (by decide)
theorem C1 {l:List Nat} (h:l.length=16): ∃x0 x1 x2 x3 x4 x5 x6 x7 x8 x9 Cp Cq Cs Cu Cv Cw,l=[x0,x1,x2,x3,x4,x5,x6,x7,x8,x9,Cp,Cq,Cs,Cu,Cv,Cw]:=by
 match l,h with
 | [x0,x1,x2,x3,x4,x5,x6,x7,x8,x9,Cp,Cq,Cs,Cu,Cv,Cw],_=>exact ⟨x0,x1,x2,x3,x4,x5,x6,x7,x8,x9,Cp,Cq,Cs,Cu,Cv,Cw,rfl⟩
theorem Hz {m:List Nat} (h:m.length=16) (hm: ∀x∈m,x<256) {k:Nat} (hk:300≤k):fJ.f k (il m)=some (il (sq m),true):=by
 rw [←C0 hm]
 obtain ⟨x0,x1,x2,x3,x4,x5,x6,x7,x8,x9,Cp,Cq,Cs,Cu,Cv,Cw,rfl⟩:=C1 h
 exact Ru hk x0 x1 x2 x3 x4 x5 x6 x7 x8 x9 Cp Cq Cs Cu Cv Cw
theorem ti (m:List Nat):(sq m).length=16:=by unfold sq JY;rw [List.length_map];rfl
theorem C2 {m:List Nat} (hm: ∀x∈m,x<256): ∀x∈sq m,x<256:=by
 intro x hx
 unfold sq JY at hx
 obtain ⟨row,_,rfl⟩:=List.mem_map.1 hx
 exact CZ (fun j=>dN hm j) row 0 (by decide)
theorem Ng (a b c d:Nat):(a ^^^ b) ^^^ (c ^^^ d)=(a ^^^ c) ^^^ (b ^^^ d):=by
 rw [Nat.xor_assoc,Nat.xor_assoc,←Nat.xor_assoc b c d,Nat.xor_comm b c,Nat.xor_assoc c b d]
def J0 (y:Nat):List Nat:=if y=0 then tS else if y=1 then tT else if y=2 then tU else tV
theorem C3 {y:Nat} (hy:y<4):rr mQ (y:Int)=il (J0 y):=by
 have:y=0∨y=1∨y=2∨y=3:=by omega
 rcases this with rfl | rfl | rfl | rfl<;>rfl
theorem C4 (y:Nat):(J0 y).length=256:=by
 unfold J0;split
 ·exact zk.1
 split
 ·exact zl.1
 split
 ·exact CV.1
 ·exact CW.1
theorem Nv (y:Nat): ∀x∈J0 y,x<256:=by
 unfold J0;split
 ·exact zk.2.1
 split
 ·exact zl.2.1
 split
 ·exact CV.2.1
 ·exact CW.2.1
def Nw (s:Nat) (m:List Nat) (i:Nat):Nat:=(J0 ((i+s)%4)).getD (m.getD i 0) 0
def nS (s:Nat) (m:List Nat):List Nat:=(List.range 16).map (Nw s m)
theorem mh (s:Nat) (m:List Nat):(nS s m).length=16:=by simp [nS]
theorem ny (s:Nat) (m:List Nat): ∀x∈nS s m,x<256:=by
 intro x hx
 unfold nS at hx
 obtain ⟨i,_,rfl⟩:=List.mem_map.1 hx
 exact dN (Nv _) _
theorem Nx {m:List Nat} (hm:m.length=16) (hb: ∀x∈m,x<256) {n:Int} {s:Nat} (hs:ak (2*(ak (n-1)))=(s:Int)) (hs2:s<4) (d:Nat) {k i:Nat} {x:List Int} (hk:d<k) (hi:i+d=16) (hx:Fl (fun i=>((Nw s m i:Nat):Int)) 16 i x):
 bz.l0 k mQ n (il m) x (i:Int)=some (il (nS s m)):=by
 induction d generalizing k i x with
 | zero=>
  obtain ⟨k,rfl⟩: ∃j,k=j+1:=⟨k-1,by omega⟩
  have:i=16:=by omega
  subst this
  (rw [bz.l0];(try dsimp only [gd,gb,Option.bind_some]);rw [if_neg (by rw [decide_eq_true_eq,ag,hm];decide)])
  unfold nS;rw [nR,hx.done]
 | succ d ih=>
  obtain ⟨k,rfl⟩: ∃j,k=j+1:=⟨k-1,by omega⟩
  have a2:ak ((i:Int)+1)=((i+1:Nat):Int):=au (n:=i+1) (by omega)
  have a3:ak ((i:Int)+(s:Int))=((i+s:Nat):Int):=au (n:=i+s) (by omega)
  have t4:Int.tmod ((i+s:Nat):Int) 4=(((i+s)%4:Nat):Int):=rfl
  have c0: ∀z:Nat,decide (0≤(z:Int))=true:=fun z=>by rw [decide_eq_true_eq];omega
  have c1:decide ((i:Int)<((il m).length:Int))=true:=by rw [decide_eq_true_eq,ag,hm];omega
  have c2:decide ((((i+s)%4:Nat):Int)<4)=true:=by rw [decide_eq_true_eq];omega
  have hv:=dN hb i
  have c3:decide (((m.getD i 0:Nat):Int)<((il (J0 ((i+s)%4))).length:Int))=true:=by rw [decide_eq_true_eq,ag,C4];omega
  have c4:decide ((i:Int)<(x.length:Int))=true:=by rw [decide_eq_true_eq,hx.1];omega
  rw [bz.l0,if_pos c1];unfold gd
  rw [if_pos (c0 _),if_pos c1,hs,a3,t4,if_pos (c0 _),if_pos c2,C3 (Nat.mod_lt _ (by decide)),Option.bind_some,bf,if_pos (c0 _),if_pos c3,if_pos (c0 _),if_pos c4,bf,a2,Int.toNat_natCast]
  exact ih (by omega) (by omega) (hx.set (by omega) rfl)
theorem xP {m:List Nat} (hm:m.length=16) (hb: ∀x∈m,x<256) {n:Int} {s:Nat} (hs:ak (2*(ak (n-1)))=(s:Int)) (hs2:s<4) {k:Nat} (hk:20≤k):bz.f k mQ n (il m)=some (il (nS s m)):=by
 (unfold bz.f;(try dsimp only [gd,gb,Option.bind_some]))
 rw [if_pos (by rw [decide_eq_true_eq];omega),if_pos (by rw [decide_eq_true_eq,ag,hm];decide)]
 exact Nx hm hb hs hs2 16 (i:=0) (by omega) (by omega) (Fl.zero (by rw [List.length_replicate,Int.toNat_natCast,ag,hm]))
theorem J1 {m:List Nat} (hm:m.length=16) (hb: ∀x∈m,x<256) {n:Int} {s:Nat} (hs:ak (2*(ak (n-1)))=(s:Int)) (hs2:s<4) (d:Nat) {k i:Nat} {x:List Int} (hk:d<k) (hi:i+d=16) (hx:Fl (fun i=>((Nw s m i:Nat):Int)) 16 i x):
 aJ.l0 k mQ n (il m) x (i:Int)=some (il (nS s m)):=by
 induction d generalizing k i x with
 | zero=>
  obtain ⟨k,rfl⟩: ∃j,k=j+1:=⟨k-1,by omega⟩
  have:i=16:=by omega
  subst this
  (rw [aJ.l0];(try dsimp only [gd,gb,Option.bind_some]);rw [if_neg (by rw [decide_eq_true_eq,ag,hm];decide)])
  unfold nS;rw [nR,hx.done]
 | succ d ih=>
  obtain ⟨k,rfl⟩: ∃j,k=j+1:=⟨k-1,by omega⟩
  have a2:ak ((i:Int)+1)=((i+1:Nat):Int):=au (n:=i+1) (by omega)
  have a3:ak ((i:Int)+(s:Int))=((i+s:Nat):Int):=au (n:=i+s) (by omega)
  have t4:Int.tmod ((i+s:Nat):Int) 4=(((i+s)%4:Nat):Int):=rfl
  have c0: ∀z:Nat,decide (0≤(z:Int))=true:=fun z=>by rw [decide_eq_true_eq];omega
  have c1:decide ((i:Int)<((il m).length:Int))=true:=by rw [decide_eq_true_eq,ag,hm];omega
  have c2:decide ((((i+s)%4:Nat):Int)<4)=true:=by rw [decide_eq_true_eq];omega
  have hv:=dN hb i
  have c3:decide (((m.getD i 0:Nat):Int)<((il (J0 ((i+s)%4))).length:Int))=true:=by rw [decide_eq_true_eq,ag,C4];omega
  have c4:decide ((i:Int)<(x.length:Int))=true:=by rw [decide_eq_true_eq,hx.1];omega
  have row: ∀ {y:Nat},y<4→mQ.getD (0+(y:Int).toNat) []=il (J0 y):=fun {y} hy=>by rw [Nat.zero_add];exact C3 hy
  rw [aJ.l0,if_pos c1];unfold gd
  rw [hs,a3,t4,if_pos (c0 _),if_pos c2,row (Nat.mod_lt _ (by decide)),Option.bind_some,if_pos (c0 _),if_pos c1,bf,if_pos (c0 _),if_pos c3,if_pos (c0 _),if_pos c4,bf,a2,Int.toNat_natCast]
  exact ih (by omega) (by omega) (hx.set (by omega) rfl)
theorem ua {m:List Nat} (hm:m.length=16) (hb: ∀x∈m,x<256) {n:Int} {s:Nat} (hs:ak (2*(ak (n-1)))=(s:Int)) (hs2:s<4) {k:Nat} (hk:20≤k):aJ.f k mQ n (il m)=some (il (nS s m)):=by
 (unfold aJ.f;(try dsimp only [gd,gb,Option.bind_some]))
 rw [if_pos (by rw [decide_eq_true_eq];omega),if_pos (by rw [decide_eq_true_eq,ag,hm];decide)]
 exact J1 hm hb hs hs2 16 (i:=0) (by omega) (by omega) (Fl.zero (by rw [List.length_replicate,Int.toNat_natCast,ag,hm]))
theorem Ny {k:Nat} (hk:300≤k) (x0 x1 x2 x3 x4 x5 x6 x7 x8 x9 Cp Cq Cs Cu Cv Cw:Int):cE.f k [x0,x1,x2,x3,x4,x5,x6,x7,x8,x9,Cp,Cq,Cs,Cu,Cv,Cw]=some (JZ [x0,x1,x2,x3,x4,x5,x6,x7,x8,x9,Cp,Cq,Cs,Cu,Cv,Cw]):=by
 obtain ⟨j,rfl⟩: ∃j,k=j+300:=⟨k-300,by omega⟩
 kernel_rfl
theorem C5 {m:List Nat} (h:m.length=16) (hm: ∀x∈m,x<256) {k:Nat} (hk:300≤k):cE.f k (il m)=some (il (sq m)):=by
 rw [←C0 hm]
 obtain ⟨x0,x1,x2,x3,x4,x5,x6,x7,x8,x9,Cp,Cq,Cs,Cu,Cv,Cw,rfl⟩:=C1 h
 exact Ny hk x0 x1 x2 x3 x4 x5 x6 x7 x8 x9 Cp Cq Cs Cu Cv Cw
theorem Nz {k:Nat} (hk:600≤k):dD.f k (il tS)=some (il tU,true):=by
 obtain ⟨j,rfl⟩: ∃j,k=j+600:=⟨k-600,by omega⟩
 kernel_rfl
theorem NA {k:Nat} (hk:600≤k):dD.f k (il tT)=some (il tV,true):=by
 obtain ⟨j,rfl⟩: ∃j,k=j+600:=⟨k-600,by omega⟩
 kernel_rfl
theorem NB {k:Nat} (hk:700≤k):eE.f k=some mQ:=by
 have hm:tB 283:=⟨by decide,by decide⟩
 have p1:=zi (k:=k) (e:=254) (c:=99) (l:=[241,227,199,143,31,62,124,248]) hm (by decide) (by decide) (by decide) (by omega)
 have p2:=zi (k:=k) (e:=247) (c:=226) (l:=[122,188,235,185,52,129,186,203]) hm (by decide) (by decide) (by decide) (by omega)
 rw [xO hm (by decide),Lv] at p1
 rw [xO hm (by decide),Lw] at p2
 have q1:cV.f k 254 283 [241,227,199,143,31,62,124,248] 99=some (il tS):=p1
 have q2:cV.f k 247 283 [122,188,235,185,52,129,186,203] 226=some (il tT):=p2
 (unfold eE.f;(try dsimp only [gd,gb,Option.bind_some]))
 (rw [q1];(try rw [Option.bind_some]);rw [q2];(try rw [Option.bind_some]);rw [Nz (by omega)];(try rw [Option.bind_some]);rw [NA (by omega)];(try rw [Option.bind_some]));rfl
def cc (n:Nat):List Nat:=if n=0 then [81,124,193,183,39,34,10,148,254,19,171,232,250,154,110,224] else if n=1 then [109,177,74,204,158,33,200,32,255,40,177,213,239,93,226,176] else [219,146,55,29,33,38,233,112,3,36,151,117,4,232,201,14]
theorem Lx (n:Nat):(cc n).length=16∧ ∀x∈cc n,x<256:=by
 unfold cc;split
 ·decide
 split<;>decide
theorem HA {k:Nat} (hk:60≤k):ke.f k=some [il (cc 0),il (cc 1),il (cc 2)]:=by
 obtain ⟨j,rfl⟩: ∃j,k=j+60:=⟨k-60,by omega⟩
 kernel_rfl
theorem Ee {n:Nat} (hn:n<3):rr [il (cc 0),il (cc 1),il (cc 2)] (n:Int)=il (cc n):=by
 have:n=0∨n=1∨n=2:=by omega
 rcases this with rfl | rfl | rfl<;>rfl
theorem Au {k n:Nat} (hn:n<5):dR.f k (n:Int)=some (il (cc (n%3))):=by
 have:n=0∨n=1∨n=2∨n=3∨n=4:=by omega
 rcases this with rfl | rfl | rfl | rfl | rfl<;>exact Eq.trans (by kernel_rfl) (Eq.refl _)
def pQ (s:Nat) (a b:List Nat):List Nat:=sq (nS s (lT a b))
theorem mX (s:Nat) (a b:List Nat):(pQ s a b).length=16∧ ∀x∈pQ s a b,x<256:=⟨ti _,C2 (ny _ _)⟩
def iX (a:List Nat):Prop:=a.length=16∧ ∀x∈a,x<256
theorem iX.xor {a b:List Nat} (h1:iX a) (h2:iX b):iX (lT a b):=⟨qg _ _,w7 h1.2 h2.2⟩
theorem xQ {a b:List Nat} (h1:iX a) (h2:iX b) {n:Int} {s:Nat} (hs:ak (2*(ak (n-1)))=(s:Int)) (hs2:s<4) {k:Nat} (hk:300≤k):eg.f k mQ n (il a) (il b)=some (il (pQ s a b)):=by
 have hx:=h1.xor h2
 (unfold eg.f;(try dsimp only [gd,gb,Option.bind_some]))
 (rw [qO h1.1 h2.1 h1.2 h2.2 (by omega)];(try rw [Option.bind_some]))
 show (bz.f k mQ n (il (lT a b))).bind _=_
 (rw [xP hx.1 hx.2 hs hs2 (by omega)];(try rw [Option.bind_some]);rw [Hz (mh _ _) (ny _ _) hk];(try rw [Option.bind_some]));rfl
theorem ub {a b:List Nat} (h1:iX a) (h2:iX b) {n:Int} {s:Nat} (hs:ak (2*(ak (n-1)))=(s:Int)) (hs2:s<4) {k:Nat} (hk:300≤k):cK.f k mQ n (il a) (il b)=some (il (pQ s a b)):=by
 have hx:=h1.xor h2
 (unfold cK.f;(try dsimp only [gd,gb,Option.bind_some]))
 (rw [oy h1.1 h2.1 h1.2 h2.2 (by omega)];(try rw [Option.bind_some]);rw [ua hx.1 hx.2 hs hs2 (by omega)];(try rw [Option.bind_some]);rw [C5 (mh _ _) (ny _ _) hk];(try rw [Option.bind_some]));rfl
theorem s1:ak (2*(ak ((1:Int)-1)))=((0:Nat):Int):=by decide
theorem s2:ak (2*(ak ((2:Int)-1)))=((2:Nat):Int):=by decide
def LE (w0 w1 w2 w3:List Nat) (i:Nat):List Nat:=if i=0 then w0 else if i=1 then w1 else if i=2 then w2 else w3
def vv (i:Nat):Int:=rd ([(-19),(-31),61,31,19]:List Int) ((i/4:Nat):Int)
def kk (w0 w1 w2 w3:List Nat) (i:Nat):List Nat:=lT (LE w0 w1 w2 w3 (i%4)) (mb (LE w0 w1 w2 w3 ((i+1)%4)) (vv i))
def ks (w0 w1 w2 w3:List Nat) (n:Nat):List (List Int):=(List.range n).map fun i=>il (kk w0 w1 w2 w3 i)
theorem C6 (w0 w1 w2 w3:List Nat) (n:Nat):ks w0 w1 w2 w3 n++[il (kk w0 w1 w2 w3 n)]=ks w0 w1 w2 w3 (n+1):=by simp [ks,List.range_succ]
theorem jc (w0 w1 w2 w3:List Nat) (n:Nat):(ks w0 w1 w2 w3 n).length=n:=by simp [ks]
theorem sP {w0 w1 w2 w3:List Nat} (h0:iX w0) (h1:iX w1) (h2:iX w2) (h3:iX w3) (i:Nat):iX (LE w0 w1 w2 w3 i):=by
 unfold LE;split
 ·exact h0
 split
 ·exact h1
 split
 ·exact h2
 ·exact h3
theorem uc (w0 w1 w2 w3:List Nat) {i:Nat} (hi:i<4):rr [il w0,il w1,il w2,il w3] (i:Int)=il (LE w0 w1 w2 w3 i):=by
 have:i=0∨i=1∨i=2∨i=3:=by omega
 rcases this with rfl | rfl | rfl | rfl<;>rfl
theorem xR {l:List Nat} (h:iX l) (v:Int):iX (mb l v):=⟨by rw [gG,h.1],kE h.2 v⟩
theorem su {w0 w1 w2 w3:List Nat} (h0:iX w0) (h1:iX w1) (h2:iX w2) (h3:iX w3) (i:Nat):iX (kk w0 w1 w2 w3 i):=(sP h0 h1 h2 h3 _).xor (xR (sP h0 h1 h2 h3 _) _)
section
variable {w0 w1 w2 w3:List Nat} (h0:iX w0) (h1:iX w1) (h2:iX w2) (h3:iX w3) {e:Nat} (he:e<3)
include h0 h1 h2 h3 he
theorem Rv {k i:Nat} (hk:100≤k) (hi:i<17):
 cU.l0 (k+1) (il w1,true) (il w0) (il w2,true) (il w3,true) (e:Int) (ks w0 w1 w2 w3 i) (i:Int)=if decide (((i+1:Nat):Int)<((13+2*e:Nat):Int))=true then cU.l0 k (il w1,true) (il w0) (il w2,true) (il w3,true) (e:Int) (ks w0 w1 w2 w3 (i+1)) ((i+1:Nat):Int) else some (ks w0 w1 w2 w3 (i+1)):=by
 have a1:ak ((i:Int)+1)=((i+1:Nat):Int):=au (n:=i+1) (by omega)
 have t0:Int.tmod (i:Int) 4=((i%4:Nat):Int):=rfl
 have t1:Int.tmod ((i+1:Nat):Int) 4=(((i+1)%4:Nat):Int):=rfl
 have d0:ak (Int.tdiv (i:Int) 4)=((i/4:Nat):Int):=au (n:=i/4) (by omega)
 have c0: ∀z:Nat,decide (0≤(z:Int))=true:=fun z=>by rw [decide_eq_true_eq];omega
 have c4: ∀z:Nat,decide (((z%4:Nat):Int)<4)=true:=fun z=>by rw [decide_eq_true_eq];omega
 have c5:decide (((i/4:Nat):Int)<5)=true:=by rw [decide_eq_true_eq];omega
 have hs:=sP h0 h1 h2 h3 ((i+1)%4)
 have hz:=sP h0 h1 h2 h3 (i%4)
 have tn:ew.f k _ (rd ([(-19),(-31),61,31,19]:List Int) ((i/4:Nat):Int))=_:=Cn (k:=k) hs.2 (by rw [hs.1];decide) (by rw [hs.1];omega) (vv i)
 have tk:=xR hs (vv i)
 have xr:=qO hz.1 tk.1 hz.2 tk.2 (k:=k) (by omega)
 have ee:ak (13+ak (2*(e:Int)))=((13+2*e:Nat):Int):=by
  have:ak (2*(e:Int))=((2*e:Nat):Int):=au (n:=2*e) (by omega)
  rw [this];exact au (n:=13+2*e) (by omega)
 rw [cU.l0];unfold gd
 rw [a1,t0,t1,d0,if_pos (c0 _),if_pos (c4 _),if_pos (c0 _),if_pos (c4 _),uc _ _ _ _ (Nat.mod_lt _ (by decide)),uc _ _ _ _ (Nat.mod_lt _ (by decide)),Option.bind_some,if_pos (c0 _),if_pos c5,Option.bind_some,tn,Option.bind_some,xr,Option.bind_some,if_pos (by rw [decide_eq_true_eq,jc];simp only [List.length_cons,List.length_nil];omega),ee]
 rw [←C6];rfl
theorem TH (d:Nat): ∀ {k i:Nat},d+101<k→i+(d+1)=13+2*e→
 cU.l0 k (il w1,true) (il w0) (il w2,true) (il w3,true) (e:Int) (ks w0 w1 w2 w3 i) (i:Int)=some (ks w0 w1 w2 w3 (13+2*e)):=by
 induction d with
 | zero=>
  intro k i hk hi
  obtain ⟨k,rfl⟩: ∃j,k=j+1:=⟨k-1,by omega⟩
  rw [Rv h0 h1 h2 h3 he (by omega) (by omega),if_neg (by rw [decide_eq_true_eq];omega),show i+1=13+2*e by omega]
 | succ d ih=>
  intro k i hk hi
  obtain ⟨k,rfl⟩: ∃j,k=j+1:=⟨k-1,by omega⟩
  rw [Rv h0 h1 h2 h3 he (by omega) (by omega),if_pos (by rw [decide_eq_true_eq];omega)]
  exact ih (by omega) (by omega)
theorem SJ (d:Nat): ∀ {k i:Nat},d+101<k→i+d=13+2*e→
 aR.l0 k (e:Int) [il w0,il w1,il w2,il w3] (ks w0 w1 w2 w3 i) (i:Int)=some (ks w0 w1 w2 w3 (13+2*e)):=by
 have ee:ak (ak (2*(e:Int))+13)=((13+2*e:Nat):Int):=by
  have:ak (2*(e:Int))=((2*e:Nat):Int):=au (n:=2*e) (by omega)
  rw [this,cA (by omega) (by omega)];omega
 induction d with
 | zero=>
  intro k i hk hi
  obtain ⟨k,rfl⟩: ∃j,k=j+1:=⟨k-1,by omega⟩
  rw [aR.l0,ee,if_neg (by rw [decide_eq_true_eq];omega),show i=13+2*e by omega]
 | succ d ih=>
  intro k i hk hi
  obtain ⟨k,rfl⟩: ∃j,k=j+1:=⟨k-1,by omega⟩
  have a1:ak ((i:Int)+1)=((i+1:Nat):Int):=au (n:=i+1) (by omega)
  have t0:Int.tmod (i:Int) 4=((i%4:Nat):Int):=rfl
  have t1:Int.tmod ((i+1:Nat):Int) 4=(((i+1)%4:Nat):Int):=rfl
  have d0:ak (Int.tdiv (i:Int) 4)=((i/4:Nat):Int):=au (n:=i/4) (by omega)
  have c0: ∀z:Nat,decide (0≤(z:Int))=true:=fun z=>by rw [decide_eq_true_eq];omega
  have c4: ∀z:Nat,decide (((z%4:Nat):Int)<4)=true:=fun z=>by rw [decide_eq_true_eq];omega
  have c5:decide (((i/4:Nat):Int)<(([(-19),(-31),61,31,19]:List Int).length:Int))=true:=by rw [decide_eq_true_eq];simp only [List.length_cons,List.length_nil];omega
  have hs:=sP h0 h1 h2 h3 ((i+1)%4)
  have hz:=sP h0 h1 h2 h3 (i%4)
  have tn:cw.f k _ (rd ([(-19),(-31),61,31,19]:List Int) ((i/4:Nat):Int))=_:=uU (k:=k) hs.2 (by rw [hs.1];decide) (by rw [hs.1];omega) (vv i)
  have tk:=xR hs (vv i)
  have xr:=oy hz.1 tk.1 hz.2 tk.2 (k:=k) (by omega)
  rw [aR.l0,ee,if_pos (by rw [decide_eq_true_eq];omega)];unfold gd
  rw [a1,t0,t1,d0,if_pos (c0 _),if_pos (c4 _),if_pos (c0 _),if_pos (c4 _),if_pos (c0 _),if_pos c5,Option.bind_some,uc _ _ _ _ (Nat.mod_lt _ (by decide)),uc _ _ _ _ (Nat.mod_lt _ (by decide)),tn,Option.bind_some,xr,Option.bind_some,if_pos (by rw [decide_eq_true_eq,jc];simp only [List.length_cons,List.length_nil];omega)]
  have nx:=ih (k:=k) (i:=i+1) (by omega) (by omega)
  rw [←C6] at nx
  exact nx
end
theorem u6 (a:List Nat) (n:Nat):(il a).take n=il (a.take n):=by simp [il,List.map_take]
theorem qp (a:List Nat) (n:Nat):(il a).drop n=il (a.drop n):=by simp [il,List.map_drop]
theorem C7 (a b:List Nat):il a++il b=il (a++b):=by simp [il]
def NY (l:List Nat) (e:Nat):List Nat:=l.drop 16++List.replicate (16-8*e) 0
def W1 (l:List Nat) (e:Nat):List Nat:=lT (pQ 0 (l.take 16) (cc (e%3))) (NY l e)
def W2 (l:List Nat) (e:Nat):List Nat:=lT (pQ 2 (W1 l e) (cc ((e+1)%3))) (l.take 16)
def W3 (l:List Nat) (e:Nat):List Nat:=lT (pQ 0 (W2 l e) (cc ((e+2)%3))) (W1 l e)
section
variable {l:List Nat} (hl: ∀x∈l,x<256) {e:Nat} (he:e<3) (hlen:l.length=16+8*e)
include hl he hlen
theorem C8:iX (l.take 16):=⟨by rw [List.length_take];omega,fun x hx=>hl x (List.mem_of_mem_take hx)⟩
theorem Av:iX (NY l e):=⟨by unfold NY;rw [List.length_append,List.length_drop,List.length_replicate];omega,fun x hx=>by
 unfold NY at hx
 rcases List.mem_append.1 hx with hx | hx
 ·exact hl x (List.mem_of_mem_drop hx)
 ·rw [List.eq_of_mem_replicate hx];decide⟩
theorem C9:iX (W1 l e):=(show iX (pQ 0 (l.take 16) (cc (e%3))) from mX _ _ _).xor (Av hl he hlen)
theorem HB:iX (W2 l e):=(show iX (pQ 2 (W1 l e) (cc ((e+1)%3))) from mX _ _ _).xor (C8 hl he hlen)
theorem HC:iX (W3 l e):=(show iX (pQ 0 (W2 l e) (cc ((e+2)%3))) from mX _ _ _).xor (C9 hl he hlen)
theorem Rw {k:Nat} (hk:900≤k):cU.f k mQ (il l)=some (ks (l.take 16) (W1 l e) (W2 l e) (W3 l e) (13+2*e)):=by
 have o0:=C8 hl he hlen
 have oR:=Av hl he hlen
 have o1:=C9 hl he hlen
 have o2:=HB hl he hlen
 have o3:=HC hl he hlen
 have m0:Nat.min (il l).length (List.replicate 16 (0:Int)).length=16:=by
  rw [List.length_replicate,ag];show min l.length 16=16;omega
 have m1:Nat.min ((il l).drop 16).length (List.replicate 16 (0:Int)).length=8*e:=by
  rw [List.length_replicate,qp,ag,List.length_drop];show min (l.length-16) 16=8*e;omega
 have fA:(il l).take 16++(List.replicate 16 (0:Int)).drop 16=il (l.take 16):=by
  rw [u6,List.drop_of_length_le (by rw [List.length_replicate];omega),List.append_nil]
 have fB:((il l).drop 16).take (8*e)++(List.replicate 16 (0:Int)).drop (8*e)=il (NY l e):=by
  rw [qp,List.take_of_length_le (by rw [ag,List.length_drop];omega),List.drop_replicate,kJ,C7];rfl
 have ey:ak (Int.tdiv (ak (((il l).length:Int)-16)) 8)=(e:Int):=by
  have:ak (((il l).length:Int)-16)=((8*e:Nat):Int):=by rw [ag,hlen,cA (by omega) (by omega)];omega
  rw [this]
  have t:Int.tdiv ((8*e:Nat):Int) 8=((8*e/8:Nat):Int):=rfl
  rw [t,show 8*e/8=e by omega];exact au (by omega)
 have g0:ak (0+(e:Int))=((e:Nat):Int):=by rw [cA (by omega) (by omega)];omega
 have g1:ak (1+(e:Int))=((e+1:Nat):Int):=by rw [cA (by omega) (by omega)];omega
 have g2:ak (2+(e:Int))=((e+2:Nat):Int):=by rw [cA (by omega) (by omega)];omega
 have t3: ∀z:Nat,Int.tmod (z:Int) 3=((z%3:Nat):Int):=fun z=>rfl
 have z0: ∀z:Nat,decide (0≤(z:Int))=true:=fun z=>by rw [decide_eq_true_eq];omega
 have z3: ∀z:Nat,decide (((z%3:Nat):Int)<3)=true:=fun z=>by rw [decide_eq_true_eq];omega
 have c16:decide (16≤((il l).length:Int))=true:=by rw [decide_eq_true_eq,ag,hlen];omega
 have oc:=fun n=>(show iX (cc n) from Lx n)
 have row:=fun (n:Nat)=>Ee (Nat.mod_lt n (by decide:0<3))
 have T1:=xQ o0 (oc (e%3)) s1 (by decide) (k:=k) (by omega)
 have oT1:iX (pQ 0 (l.take 16) (cc (e%3))):=mX _ _ _
 have X1:_=some (il (W1 l e),true):=qO oT1.1 oR.1 oT1.2 oR.2 (k:=k) (by omega)
 have T2:=xQ o1 (oc ((e+1)%3)) s2 (by decide) (k:=k) (by omega)
 have oT2:iX (pQ 2 (W1 l e) (cc ((e+1)%3))):=mX _ _ _
 have X2:_=some (il (W2 l e),true):=qO oT2.1 o0.1 oT2.2 o0.2 (k:=k) (by omega)
 have T3:=xQ o2 (oc ((e+2)%3)) s1 (by decide) (k:=k) (by omega)
 have oT3:iX (pQ 0 (W2 l e) (cc ((e+2)%3))):=mX _ _ _
 have X3:_=some (il (W3 l e),true):=qO oT3.1 o1.1 oT3.2 o1.2 (k:=k) (by omega)
 have fin:=TH o0 o1 o2 o3 he (12+2*e) (k:=k) (i:=0) (by omega) (by omega)
 have d1:decide ((0:Int)≤1)=true:=rfl
 have d2:decide ((0:Int)≤2)=true:=rfl
 have d0:decide ((0:Int)≤0)=true:=rfl
 have d3:decide ((0:Int)≤3)=true:=rfl
 have e0:decide ((0:Int)<4)=true:=rfl
 have e1:decide ((1:Int)<4)=true:=rfl
 have e2:decide ((2:Int)<4)=true:=rfl
 have e3:decide ((3:Int)<4)=true:=rfl
 unfold cU.f gd
 rw [ey,HA (by omega),Option.bind_some,Option.bind_some,if_pos c16,Option.bind_some,m0,m1,fA]
 simp only [d0,d1,d2,d3,e0,e1,e2,e3,if_true,Option.bind_some,g0,g1,g2,t3,z0,z3,row,fB,T1,X1,T2,X2,T3,X3]
 exact fin
theorem Rx {k:Nat} (hk:900≤k):aR.f k mQ (il l)=some (ks (l.take 16) (W1 l e) (W2 l e) (W3 l e) (13+2*e)):=by
 have o0:=C8 hl he hlen
 have oR:=Av hl he hlen
 have o1:=C9 hl he hlen
 have o2:=HB hl he hlen
 have o3:=HC hl he hlen
 have fC:([]:List Int)++(il l).take 16=il (l.take 16):=by rw [List.nil_append];exact u6 l 16
 have i32:ak (32-((il l).length:Int))=((16-8*e:Nat):Int):=by rw [ag,hlen,cA (by omega) (by omega)];omega
 have fD:(([]:List Int)++(il l).drop 16)++List.replicate (((16-8*e:Nat):Int)).toNat (0:Int)=il (NY l e):=by
  rw [qp,List.nil_append,Int.toNat_natCast,kJ,C7];rfl
 have er:ak (ak (Int.tdiv ((il l).length:Int) 8)-2)=(e:Int):=by
  have t:Int.tdiv ((il l).length:Int) 8=(((il l).length/8:Nat):Int):=rfl
  rw [t,ag,hlen,show (16+8*e)/8=e+2 by omega,au (by omega),cA (by omega) (by omega)];omega
 have r1:ak ((e:Int)+1)=((e+1:Nat):Int):=au (n:=e+1) (by omega)
 have r2:ak ((e:Int)+2)=((e+2:Nat):Int):=au (n:=e+2) (by omega)
 have c16:decide (16≤((il l).length:Int))=true:=by rw [decide_eq_true_eq,ag,hlen];omega
 have oc:=fun n=>(show iX (cc n) from Lx n)
 have R1:=ub o0 (oc (e%3)) s1 (by decide) (k:=k) (by omega)
 have oT1:iX (pQ 0 (l.take 16) (cc (e%3))):=mX _ _ _
 have Y1:_=some (il (W1 l e)):=oy oT1.1 oR.1 oT1.2 oR.2 (k:=k) (by omega)
 have R2:=ub o1 (oc ((e+1)%3)) s2 (by decide) (k:=k) (by omega)
 have oT2:iX (pQ 2 (W1 l e) (cc ((e+1)%3))):=mX _ _ _
 have Y2:_=some (il (W2 l e)):=oy oT2.1 o0.1 oT2.2 o0.2 (k:=k) (by omega)
 have R3:=ub o2 (oc ((e+2)%3)) s1 (by decide) (k:=k) (by omega)
 have oT3:iX (pQ 0 (W2 l e) (cc ((e+2)%3))):=mX _ _ _
 have Y3:_=some (il (W3 l e)):=oy oT3.1 o1.1 oT3.2 o1.2 (k:=k) (by omega)
 have fin:=SJ o0 o1 o2 o3 he (13+2*e) (k:=k) (i:=0) (by omega) (by omega)
 unfold aR.f gd
 rw [er,if_pos c16,if_pos (by rw [decide_eq_true_eq,u6,ag,List.length_take];simp only [List.length_nil];omega),if_pos c16,
  if_pos (by rw [decide_eq_true_eq,qp,ag,List.length_drop];simp only [List.length_nil];omega),i32,if_pos (by rw [decide_eq_true_eq];omega),
  if_pos (by rw [decide_eq_true_eq,qp,List.nil_append,ag,List.length_drop];omega),fC,fD,Au (by omega),Option.bind_some,R1,Option.bind_some,Y1,Option.bind_some,r1,Au (by omega),Option.bind_some,R2,Option.bind_some,Y2,Option.bind_some,r2,Au (by omega),Option.bind_some,R3,Option.bind_some,Y3,Option.bind_some]
 exact fin
end
theorem HD {l:List Nat} {k:Nat}:kj.f k (il l)=some (decide (l.length=16∨l.length=24∨l.length=32)):=by
 (unfold kj.f;(try dsimp only [gd,gb,Option.bind_some]))
 rw [ag]
 have t8:Int.tmod (l.length:Int) 8=((l.length%8:Nat):Int):=rfl
 by_cases h1:16≤l.length
 ·rw [if_pos (by rw [decide_eq_true_eq];omega)]
  by_cases h2:l.length≤32
  ·rw [if_pos (by rw [decide_eq_true_eq];omega),t8]
   congr 1
   rw [Bool.eq_iff_iff,beq_iff_eq,decide_eq_true_eq];omega
  ·rw [if_neg (by rw [decide_eq_true_eq];omega),decide_eq_false (by omega)]
 ·rw [if_neg (by rw [decide_eq_true_eq];omega),decide_eq_false (by omega)]
theorem SK {l:List Nat} (hl: ∀x∈l,x<256) {e:Nat} (he:e<3) (hlen:l.length=16+8*e) {k:Nat} (hk:900≤k):jV.f k (il l)=some (some (mQ,ks (l.take 16) (W1 l e) (W2 l e) (W3 l e) (13+2*e)),0):=by
 unfold jV.f
 rw [HD,Option.bind_some,decide_eq_true (by omega),if_neg (by decide),JX (by omega),Option.bind_some,Rw hl he hlen hk,Option.bind_some]
theorem SL {l:List Nat} (hl: ∀x∈l,x<256) {e:Nat} (he:e<3) (hlen:l.length=16+8*e) {k:Nat} (hk:900≤k):fu.f k (il l)=some (some (mQ,ks (l.take 16) (W1 l e) (W2 l e) (W3 l e) (13+2*e)),0):=by
 have rb:=NB (k:=k) (by omega)
 have q:=Rx hl he hlen hk
 unfold fu.f
 rw [rb,Option.bind_some,q,Option.bind_some,ag]
 have he3:e=0∨e=1∨e=2:=by omega
 rcases he3 with rfl | rfl | rfl
 ·rw [if_neg (by rw [hlen];decide)]
 ·rw [if_pos (by rw [hlen];decide),if_neg (by rw [hlen];decide)]
 ·rw [if_pos (by rw [hlen];decide),if_pos (by rw [hlen];decide),if_neg (by rw [hlen];decide)]
theorem nc {w0 w1 w2 w3:List Nat} {n i:Nat} (h:i<n):rr (ks w0 w1 w2 w3 n) (i:Int)=il (kk w0 w1 w2 w3 i):=by
 unfold rr ks
 rw [Int.toNat_natCast,List.getD_eq_getElem?_getD,List.getElem?_map,List.getElem?_range h];rfl
theorem ud:([rr mQ 0,rr mQ 1,rr mQ 2,rr mQ 3]:List (List Int))=mQ:=rfl
theorem Tj (i:Nat):ak (2*(ak ((ak (1+(Int.tmod (i:Int) 2)))-1)))=((2*(i%2):Nat):Int):=by
 have t:Int.tmod (i:Int) 2=((i%2:Nat):Int):=rfl
 rw [t]
 have:i%2=0∨i%2=1:=by omega
 rcases this with h | h<;>rw [h]<;>rfl
theorem Tk (i:Nat):ak (2*(ak ((ak (2-(Int.tmod (i:Int) 2)))-1)))=((2*(1-i%2):Nat):Int):=by
 have t:Int.tmod (i:Int) 2=((i%2:Nat):Int):=rfl
 rw [t]
 have:i%2=0∨i%2=1:=by omega
 rcases this with h | h<;>rw [h]<;>rfl
section
variable (w0 w1 w2 w3:List Nat)
def er:Nat→Nat→List Nat→List Nat
 | _,0,x=>x
 | i,d+1,x=>er (i+1) d (pQ (2*(i%2)) x (kk w0 w1 w2 w3 i))
def dr:Nat→List Nat→List Nat
 | 0,x=>x
 | i+1,x=>dr i (lT (nS (2*(1-i%2)) (sq x)) (kk w0 w1 w2 w3 i))
def R5 (n:Nat) (p:List Nat):List Nat:=lT (nS 2 (lT (er w0 w1 w2 w3 0 (n-2) p) (kk w0 w1 w2 w3 (n-2)))) (kk w0 w1 w2 w3 (n-1))
def R6 (n:Nat) (p:List Nat):List Nat:=dr w0 w1 w2 w3 (n-2) (lT (nS 0 (lT p (kk w0 w1 w2 w3 (n-1)))) (kk w0 w1 w2 w3 (n-2)))
variable {w0 w1 w2 w3} (h0:iX w0) (h1:iX w1) (h2:iX w2) (h3:iX w3)
include h0 h1 h2 h3
theorem Ry (i:Nat): ∀ {x:List Nat},iX x→iX (dr w0 w1 w2 w3 i x):=by
 induction i with
 | zero=>intro x hx;exact hx
 | succ i ih=>
  intro x hx
  have o:iX (nS (2*(1-i%2)) (sq x)):=⟨mh _ _,ny _ _⟩
  exact ih (o.xor (su h0 h1 h2 h3 i))
theorem NC {n:Nat} {p:List Nat}:iX (R5 w0 w1 w2 w3 n p):=⟨qg _ _,w7 (ny _ _) (su h0 h1 h2 h3 _).2⟩
theorem ND {n:Nat} {p:List Nat}:iX (R6 w0 w1 w2 w3 n p):=Ry h0 h1 h2 h3 _ ⟨qg _ _,w7 (ny _ _) (su h0 h1 h2 h3 _).2⟩
theorem Rz {n:Nat} (hn:2≤n) (hn2:n<100) (d:Nat): ∀ {k i:Nat} {x:List Nat},i+d=n-2→iX x→d+400≤k→
 aG.l1 k (mQ,ks w0 w1 w2 w3 n) (il x) (i:Int)=some (il (lT (nS 2 (lT (er w0 w1 w2 w3 i d x) (kk w0 w1 w2 w3 (n-2)))) (kk w0 w1 w2 w3 (n-1))),0)∧
 aB.l1 k (mQ,ks w0 w1 w2 w3 n) (il x) (i:Int)=some (il (lT (nS 2 (lT (er w0 w1 w2 w3 i d x) (kk w0 w1 w2 w3 (n-2)))) (kk w0 w1 w2 w3 (n-1))),0):=by
 have n1:ak (((ks w0 w1 w2 w3 n).length:Int)-1)=((n-1:Nat):Int):=by rw [jc,cA (by omega) (by omega)];omega
 have n2:ak (((n-1:Nat):Int)-1)=((n-2:Nat):Int):=by rw [cA (by omega) (by omega)];omega
 have m2:ak (((ks w0 w1 w2 w3 n).length:Int)-2)=((n-2:Nat):Int):=by rw [jc,cA (by omega) (by omega)];omega
 have m1:ak (((n-2:Nat):Int)+1)=((n-1:Nat):Int):=by rw [cA (by omega) (by omega)];omega
 have c0: ∀z:Nat,decide (0≤(z:Int))=true:=fun z=>by rw [decide_eq_true_eq];omega
 have cl: ∀ {z:Nat},z<n→decide ((z:Int)<((ks w0 w1 w2 w3 n).length:Int))=true:=fun h=>by rw [decide_eq_true_eq,jc];omega
 induction d with
 | zero=>
  intro k i x hi hx hk
  obtain ⟨k,rfl⟩: ∃j,k=j+1:=⟨k-1,by omega⟩
  obtain rfl:i=n-2:=by omega
  have oa:=su h0 h1 h2 h3 (n-2)
  have ob:=su h0 h1 h2 h3 (n-1)
  have o1:=hx.xor oa
  have o2:iX (nS 2 (lT x (kk w0 w1 w2 w3 (n-2)))):=⟨mh _ _,ny _ _⟩
  constructor
  ·rw [aG.l1,n1,n2,if_neg (by rw [decide_eq_true_eq];omega)];unfold gd
   rw [if_pos (c0 _),if_pos (cl (by omega)),nc (by omega),qO hx.1 oa.1 hx.2 oa.2 (by omega),Option.bind_some,ud,xP o1.1 o1.2 s2 (by decide) (by omega),Option.bind_some,if_pos (c0 _),if_pos (cl (by omega)),nc (by omega),qO o2.1 ob.1 o2.2 ob.2 (by omega),Option.bind_some]
   rfl
  ·rw [aB.l1,m2,if_neg (by rw [decide_eq_true_eq];omega)];unfold gd
   rw [if_pos (c0 _),if_pos (cl (by omega)),nc (by omega),oy hx.1 oa.1 hx.2 oa.2 (by omega),Option.bind_some,ua o1.1 o1.2 s2 (by decide) (by omega),Option.bind_some,m1,if_pos (c0 _),if_pos (cl (by omega)),nc (by omega),oy o2.1 ob.1 o2.2 ob.2 (by omega),Option.bind_some]
   rfl
 | succ d ih=>
  intro k i x hi hx hk
  obtain ⟨k,rfl⟩: ∃j,k=j+1:=⟨k-1,by omega⟩
  have oa:=su h0 h1 h2 h3 i
  have a2:ak ((i:Int)+1)=((i+1:Nat):Int):=au (n:=i+1) (by omega)
  obtain ⟨x1,x2⟩:=ih (k:=k) (i:=i+1) (x:=pQ (2*(i%2)) x (kk w0 w1 w2 w3 i)) (by omega) (mX _ _ _) (by omega)
  constructor
  ·rw [aG.l1,n1,n2,if_pos (by rw [decide_eq_true_eq];omega)];unfold gd
   rw [if_pos (c0 _),if_pos (cl (by omega)),ud,nc (by omega),xQ hx oa (Tj i) (by omega) (by omega),Option.bind_some,a2]
   exact x1
  ·rw [aB.l1,m2,if_pos (by rw [decide_eq_true_eq];omega)];unfold gd
   rw [if_pos (c0 _),if_pos (cl (by omega)),nc (by omega),ub hx oa (Tj i) (by omega) (by omega),Option.bind_some,a2]
   exact x2
theorem Ly {n:Nat} (hn2:n<100) (i:Nat): ∀ {k:Nat} {x:List Nat},i≤n→iX x→i+400≤k→
 aG.l2 k (mQ,ks w0 w1 w2 w3 n) (il x) ((i:Int)-1)=some (il (dr w0 w1 w2 w3 i x),0)∧
 aB.l0 k (mQ,ks w0 w1 w2 w3 n) (il x) ((i:Int)-1)=some (il (dr w0 w1 w2 w3 i x),0):=by
 have c0: ∀z:Nat,decide (0≤(z:Int))=true:=fun z=>by rw [decide_eq_true_eq];omega
 have cl: ∀ {z:Nat},z<n→decide ((z:Int)<((ks w0 w1 w2 w3 n).length:Int))=true:=fun h=>by rw [decide_eq_true_eq,jc];omega
 induction i with
 | zero=>
  intro k x hi hx hk
  obtain ⟨k,rfl⟩: ∃j,k=j+1:=⟨k-1,by omega⟩
  constructor
  ·rw [aG.l2,if_neg (by decide)];rfl
  ·rw [aB.l0,if_neg (by decide)];rfl
 | succ i ih=>
  intro k x hi hx hk
  obtain ⟨k,rfl⟩: ∃j,k=j+1:=⟨k-1,by omega⟩
  have oa:=su h0 h1 h2 h3 i
  have om:iX (sq x):=⟨ti _,C2 hx.2⟩
  have ol:iX (nS (2*(1-i%2)) (sq x)):=⟨mh _ _,ny _ _⟩
  have a0:((i+1:Nat):Int)-1=(i:Int):=by omega
  have a2:ak ((i:Int)-1)=(i:Int)-1:=cA (by omega) (by omega)
  have c1:decide ((i:Int)≥0)=true:=c0 i
  obtain ⟨x1,x2⟩:=ih (k:=k) (x:=lT (nS (2*(1-i%2)) (sq x)) (kk w0 w1 w2 w3 i)) (by omega) (ol.xor oa) (by omega)
  rw [a0]
  constructor
  ·rw [aG.l2,if_pos c1,Hz hx.1 hx.2 (by omega),Option.bind_some];unfold gd
   rw [ud,xP om.1 om.2 (Tk i) (by omega) (by omega),Option.bind_some,if_pos (c0 _),if_pos (cl (by omega)),nc (by omega),qO ol.1 oa.1 ol.2 oa.2 (by omega),Option.bind_some,a2]
   exact x1
  ·rw [aB.l0,if_pos c1,C5 hx.1 hx.2 (by omega),Option.bind_some];unfold gd
   rw [ua om.1 om.2 (Tk i) (by omega) (by omega),Option.bind_some,if_pos (c0 _),if_pos (cl (by omega)),nc (by omega),oy ol.1 oa.1 ol.2 oa.2 (by omega),Option.bind_some,a2]
   exact x2
theorem HF {n:Nat} (hn:3≤n) (hn2:n<100) (dir:Bool) {p:List Nat} (hp:iX p) {k:Nat} (hk:600≤k):
 aG.f k (mQ,ks w0 w1 w2 w3 n) (il p) dir=some (il (if dir=true then R6 w0 w1 w2 w3 n p else R5 w0 w1 w2 w3 n p),0)∧
 aB.f k (mQ,ks w0 w1 w2 w3 n) (il p) dir=some (il (if dir=true then R6 w0 w1 w2 w3 n p else R5 w0 w1 w2 w3 n p),0):=by
 obtain ⟨k,rfl⟩: ∃j,k=j+1:=⟨k-1,by omega⟩
 have n1:ak (((ks w0 w1 w2 w3 n).length:Int)-1)=((n-1:Nat):Int):=by rw [jc,cA (by omega) (by omega)];omega
 have n2:ak (((n-1:Nat):Int)-1)=((n-2:Nat):Int):=by rw [cA (by omega) (by omega)];omega
 have n3:ak (((n-1:Nat):Int)-2)=((n-2:Nat):Int)-1:=by rw [cA (by omega) (by omega)];omega
 have n4:ak (((n-2:Nat):Int)-1)=((n-2:Nat):Int)-1:=by rw [cA (by omega) (by omega)]
 have m2:ak (((ks w0 w1 w2 w3 n).length:Int)-2)=((n-2:Nat):Int):=by rw [jc,cA (by omega) (by omega)];omega
 have m1:ak (((n-2:Nat):Int)+1)=((n-1:Nat):Int):=by rw [cA (by omega) (by omega)];omega
 have c0: ∀z:Nat,decide (0≤(z:Int))=true:=fun z=>by rw [decide_eq_true_eq];omega
 have cl: ∀ {z:Nat},z<n→decide ((z:Int)<((ks w0 w1 w2 w3 n).length:Int))=true:=fun h=>by rw [decide_eq_true_eq,jc];omega
 have ob:=su h0 h1 h2 h3 (n-1)
 have oa:=su h0 h1 h2 h3 (n-2)
 have o1:=hp.xor ob
 have o2:iX (nS 0 (lT p (kk w0 w1 w2 w3 (n-1)))):=⟨mh _ _,ny _ _⟩
 cases dir with
 | false=>
  obtain ⟨x1,x2⟩:=Rz h0 h1 h2 h3 (by omega:2≤n) hn2 (n-2) (k:=k+1) (i:=0) (x:=p) (by omega) hp (by omega)
  constructor
  ·unfold aG.f
   rw [ag,hp.1,if_neg (by decide),if_neg Bool.false_ne_true,if_neg Bool.false_ne_true];exact x1
  ·unfold aB.f
   rw [ag,hp.1,if_neg (by decide),if_neg Bool.false_ne_true,if_neg Bool.false_ne_true];exact x2
 | true=>
  obtain ⟨x1,_⟩:=Ly h0 h1 h2 h3 hn2 (n-2) (k:=k) (x:=lT (nS 0 (lT p (kk w0 w1 w2 w3 (n-1)))) (kk w0 w1 w2 w3 (n-2))) (by omega) (o2.xor oa) (by omega)
  obtain ⟨_,x2⟩:=Ly h0 h1 h2 h3 hn2 (n-2) (k:=k+1) (x:=lT (nS 0 (lT p (kk w0 w1 w2 w3 (n-1)))) (kk w0 w1 w2 w3 (n-2))) (by omega) (o2.xor oa) (by omega)
  constructor
  ·unfold aG.f
   rw [ag,hp.1,if_neg (by decide),if_pos rfl,if_pos rfl,aG.l0];unfold gd
   rw [n1,if_pos (c0 _),if_pos (cl (by omega)),nc (by omega),qO hp.1 ob.1 hp.2 ob.2 (by omega),Option.bind_some,ud,xP o1.1 o1.2 s1 (by decide) (by omega),Option.bind_some,n2,if_pos (c0 _),if_pos (cl (by omega)),nc (by omega),qO o2.1 oa.1 o2.2 oa.2 (by omega),Option.bind_some,n3]
   exact x1
  ·unfold aB.f gd
   rw [ag,hp.1,if_neg (by decide),if_pos rfl,if_pos rfl,m2,m1,if_pos (c0 _),if_pos (cl (by omega)),nc (by omega),oy hp.1 ob.1 hp.2 ob.2 (by omega),Option.bind_some,ua o1.1 o1.2 s1 (by decide) (by omega),Option.bind_some,if_pos (c0 _),if_pos (cl (by omega)),nc (by omega),oy o2.1 oa.1 o2.2 oa.2 (by omega),Option.bind_some,n4]
   exact x2
end
theorem HG {e:Nat} (he:e<3) {m:List Nat} (h:m.length=16+8*e) (hm: ∀x∈m,x<256): ∃S,(∀k,900≤k→jV.f k (il m)=some (some S,0))∧(∀k,900≤k→fu.f k (il m)=some (some S,0))∧
 ∀(dir:Bool) (b:List Nat),b.length=16→(∀x∈b,x<256)→ ∃o:List Nat,o.length=16∧(∀x∈o,x<256)∧ ∀k,900≤k→aG.f k S (il b) dir=some (il o,0)∧aB.f k S (il b) dir=some (il o,0):=by
 have o0:=C8 hm he h
 have o1:=C9 hm he h
 have o2:=HB hm he h
 have o3:=HC hm he h
 refine ⟨(mQ,ks (m.take 16) (W1 m e) (W2 m e) (W3 m e) (13+2*e)),fun k hk=>SK hm he h hk,fun k hk=>SL hm he h hk,fun dir b hb hbb=> ?_⟩
 have x:=fun (k:Nat) (hk:900≤k)=>HF o0 o1 o2 o3 (n:=13+2*e) (by omega) (by omega) dir (p:=b) ⟨hb,hbb⟩ (k:=k) (by omega)
 have oo:iX (if dir=true then R6 (m.take 16) (W1 m e) (W2 m e) (W3 m e) (13+2*e) b else R5 (m.take 16) (W1 m e) (W2 m e) (W3 m e) (13+2*e) b):=by
  cases dir
  ·exact NC o0 o1 o2 o3
  ·exact ND o0 o1 o2 o3
 exact ⟨_,oo.1,oo.2,x⟩
end Go.Scr.S.Ar
namespace Go.Scr.S.Ds
def J2 (x:List Nat) (q:Nat):Bool:=(x.getD (q/8) 0).testBit (7-q%8)
theorem NE (m:List Nat) (p:Nat):bt m p=(J2 m (p-1)).toNat:=by
 unfold bt J2
 rw [Nat.and_one_is_mod,Nat.testBit,Nat.one_and_eq_mod_two]
 have: ∀n:Nat,n%2=(n%2 != 0).toNat:=fun n=>by
  rcases Nat.mod_two_eq_zero_or_one n with h | h<;>rw [h]<;>rfl
 exact this _
theorem J3 {x:List Nat} {b i q:Nat} (hb:b<2) (hi:i/8<x.length):
 J2 (x.set (i/8) (x.getD (i/8) 0 ||| (b <<< (7-i%8)))) q=(J2 x q ||(decide (q=i)&&decide (b=1))):=by
 unfold J2
 rw [List.getD_eq_getElem?_getD,List.getElem?_set]
 by_cases h:i/8=q/8
 ·rw [if_pos h,if_pos hi,Option.getD_some,Nat.testBit_or,h,Nat.testBit_shiftLeft]
  congr 1
  by_cases hq:q=i
  ·subst hq
   rcases (by omega:b=0∨b=1) with rfl | rfl<;>simp
  ·rw [decide_eq_false hq,Bool.false_and]
   by_cases g:7-q%8≥7-i%8
   ·have:7-q%8-(7-i%8)≠0:=by omega
    rcases (by omega:b=0∨b=1) with rfl | rfl
    ·simp
    ·obtain ⟨j,hj⟩: ∃j,7-q%8-(7-i%8)=j+1:=⟨7-q%8-(7-i%8)-1,by omega⟩
     rw [decide_eq_true g,Bool.true_and,hj,Nat.testBit_succ,show 1/2=0 from rfl,Nat.zero_testBit]
   ·rw [decide_eq_false g];rfl
 ·rw [if_neg h,←List.getD_eq_getElem?_getD,decide_eq_false (fun e=>h (by rw [e])),Bool.false_and,Bool.or_false]
theorem J4 (m t:List Nat): ∀(i:Nat) (x:List Nat) (q:Nat),(i+t.length+7)/8≤x.length→
 J2 (zu m t i x) q=(J2 x q ||(decide (i≤q)&&(decide (q<i+t.length)&&decide (bt m (t.getD (q-i) 0)=1)))):=by
 induction t with
 | nil=>
  intro i x q h
  rw [zu]
  have:(decide (i≤q)&&(decide (q<i+([]:List Nat).length)&&decide (bt m (([]:List Nat).getD (q-i) 0)=1)))=false:=by
   by_cases g:i≤q
   ·rw [decide_eq_false (p:=q<i+([]:List Nat).length) (by simp only [List.length_nil];omega)];simp
   ·rw [decide_eq_false g];rfl
  rw [this,Bool.or_false]
 | cons p t ih=>
  intro i x q h
  rw [List.length_cons] at h
  rw [zu,ih _ _ _ (by rw [List.length_set];omega),J3 (kW _ _) (by omega),Bool.or_assoc]
  congr 1
  by_cases e:q=i
  ·subst e
   rw [decide_eq_true (p:=q=q) rfl,Bool.true_and,decide_eq_false (p:=q+1≤q) (by omega),Bool.false_and,Bool.or_false,decide_eq_true (p:=q≤q) (Nat.le_refl _),decide_eq_true (p:=q<q+(p::t).length) (by rw [List.length_cons];omega),Nat.sub_self,Bool.true_and,Bool.true_and];rfl
  ·rw [decide_eq_false e,Bool.false_and,Bool.false_or]
   by_cases g:i+1≤q
   ·rw [decide_eq_true g,decide_eq_true (p:=i≤q) (by omega),show q-i=(q-(i+1))+1 by omega,List.getD_cons_succ,List.length_cons,show i+1+t.length=i+(t.length+1) by omega]
   ·rw [decide_eq_false g,decide_eq_false (p:=i≤q) (by omega)];rfl
theorem RA (m t:List Nat) {p:Nat} (h1:1≤p) (h2:p≤t.length):bt (pm m t) p=bt m (t.getD (p-1) 0):=by
 have z: ∀n q,J2 (List.replicate n 0) q=false:=fun n q=>by
  unfold J2
  have:(List.replicate n 0).getD (q/8) 0=0:=by
   rw [List.getD_eq_getElem?_getD,List.getElem?_replicate];split<;>rfl
  rw [this,Nat.zero_testBit]
 rw [NE]
 unfold pm
 rw [J4 _ _ _ _ _ (by rw [List.length_replicate];omega),z,Bool.false_or,decide_eq_true (p:=0≤p-1) (by omega),decide_eq_true (p:=p-1<0+t.length) (by omega),Bool.true_and,Bool.true_and,Nat.sub_zero]
 have:=kW m (t.getD (p-1) 0)
 rcases (by omega:bt m (t.getD (p-1) 0)=0∨bt m (t.getD (p-1) 0)=1) with h | h<;>rw [h]<;>rfl
theorem J5 (m m':List Nat) (f:Nat→Nat) (s:List Nat) (h: ∀p∈s,bt m' p=bt m (f p)): ∀i x,zu m' s i x=zu m (s.map f) i x:=by
 induction s with
 | nil=>intro i x;rfl
 | cons p s ih=>intro i x;rw [List.map_cons,zu,zu,h p List.mem_cons_self,ih fun q hq=>h q (List.mem_cons_of_mem _ hq)]
theorem RB (m t s:List Nat) (h: ∀p∈s,1≤p∧p≤t.length):pm (pm m t) s=pm m (s.map fun p=>t.getD (p-1) 0):=by
 unfold pm
 rw [List.length_map]
 exact J5 m (pm m t) _ s (fun p hp=>RA m t (h p hp).1 (h p hp).2) 0 _
def KS (m:List Nat) (n:Nat):List (List Nat):=(List.range n).map fun i=>pm m (TT i)
theorem Lz (m:List Nat):Ce (KS m 16):=⟨by simp [KS],fun K hK=>by
 unfold KS at hK
 obtain ⟨i,hi,rfl⟩:=List.mem_map.1 hK
 exact ⟨by rw [lZ];unfold TT;rw [List.length_map];rfl,vT _ _⟩⟩
theorem Da (m:List Nat) (n:Nat):(KS m n).map il++[il (pm m (TT n))]=(KS m (n+1)).map il:=by simp [KS,List.range_succ]
theorem wg (m:List Nat) (n:Nat):((KS m n).map il).length=n:=by simp [KS]
theorem RC {i:Nat} (h:i<16):Pl 8 (TT i)∧Pl 8 (XX (i+1)):=by
 have: ∀i,i<16→((TT i).length≤64∧ ∀p∈TT i,1≤p∧p≤8*8)∧((XX (i+1)).length≤64∧ ∀p∈XX (i+1),1≤p∧p≤8*8):=by decide+kernel
 exact this i h
theorem LR:Pl 7 Jb:=by refine ⟨by decide,?_⟩;decide
theorem NF {i:Nat} (h:i<16):(XX (i+1)).length=56:=by
 have: ∀i,i<16→(XX (i+1)).length=56:=by decide+kernel
 exact this i h
section
variable {m:List Nat} (hm:B8 m)
include hm
theorem J6 (d:Nat): ∀ {k i:Nat},i+d=16→100≤k→d9.l0 (k+50*d) (il m) (il Ja,il Jb) (il (XX i)) ((KS m i).map il) (i:Int)=some ((KS m 16).map il,0):=by
 induction d with
 | zero=>
  intro k i hi hk
  obtain rfl:i=16:=by omega
  obtain ⟨k,rfl⟩: ∃j,k=j+1:=⟨k-1,by omega⟩
  rw [show k+1+50*0=k+1 from rfl,d9.l0,if_neg (by decide)]
 | succ d ih=>
  intro k i hi hk
  have ht:=(RC (i:=i) (by omega)).1
  have nx:=ih (k:=k) (i:=i+1) (by omega) hk
  have p:=rP hm.2 (by rw [hm.1];decide) (by rw [hm.1];exact ht) (k:=k+50*d) (by omega)
  rw [show k+50*(d+1)=k+50*d+50 by omega,Sk _ _ _ _ (by omega),p,Option.bind_some]
  unfold gd
  rw [if_pos (by rw [decide_eq_true_eq,wg];simp only [List.length_cons,List.length_nil];omega)]
  rw [←Da m i] at nx
  dsimp only
  exact nx
theorem SM (d:Nat): ∀ {k i:Nat},i+d=16→100≤k→bb.l0 (k+58*d) (il m) (il Ja) ((RS i:Nat):Int) ((KS m i).map il) ((i+1:Nat):Int)=some ((KS m 16).map il,0):=by
 induction d with
 | zero=>
  intro k i hi hk
  obtain rfl:i=16:=by omega
  obtain ⟨k,rfl⟩: ∃j,k=j+1:=⟨k-1,by omega⟩
  rw [show k+1+58*0=k+1 from rfl,bb.l0,if_neg (by decide)]
 | succ d ih=>
  intro k i hi hk
  have ht:=(RC (i:=i) (by omega)).2
  have xl:=NF (i:=i) (by omega)
  have nx:=ih (k:=k) (i:=i+1) (by omega) hk
  have p:=sL hm.2 (by rw [hm.1];decide) (by rw [hm.1];exact ht) (k:=k+58*d) (by omega)
  have ol:(pm m (XX (i+1))).length=7:=by rw [lZ,xl]
  have q:=sL (vT m (XX (i+1))) (by rw [ol];decide) (by rw [ol];exact LR) (k:=k+58*d) (by omega)
  have e:pm (pm m (XX (i+1))) Jb=pm m (TT i):=RB m (XX (i+1)) Jb (by rw [xl];decide)
  rw [e] at q
  rw [show k+58*(d+1)=k+58*d+58 by omega,Sl _ _ _ _ (by omega),p,Option.bind_some,Jc,Option.bind_some,q,Option.bind_some]
  unfold gd
  rw [if_pos (by rw [decide_eq_true_eq,wg];simp only [List.length_cons,List.length_nil];omega)]
  rw [←Da] at nx
  exact nx
theorem RD {k:Nat} (hk:2000≤k):d9.f k (il m)=some ((KS m 16).map il,0)∧bb.f k (il m)=some ((KS m 16).map il,0):=by
 constructor
 ·have x:=J6 hm 16 (k:=k-800) (i:=0) rfl (by omega)
  rw [show k-800+50*16=k by omega] at x
  unfold d9.f
  rw [ag,hm.1,if_neg (by decide),(vU (by omega)).1,Option.bind_some]
  exact x
 ·have x:=SM hm 16 (k:=k-928) (i:=0) rfl (by omega)
  rw [show k-928+58*16=k by omega] at x
  unfold bb.f
  rw [ag,hm.1,if_neg (by decide),(vU (by omega)).2,Option.bind_some]
  exact x
end
def H0 (m:List Nat) (j:Nat):List Nat:=(m.take (8*(j+1))).drop (8*j)
theorem NG {m:List Nat} (hb: ∀v∈m,v<256) {j:Nat} (h:8*(j+1)≤m.length):B8 (H0 m j):=by
 unfold H0
 exact ⟨by rw [List.length_drop,List.length_take];omega,fun v hv=>hb v (List.mem_of_mem_take (List.mem_of_mem_drop hv))⟩
def GS (m:List Nat) (n:Nat):List (List (List Int)):=(List.range n).map fun j=>(KS (H0 m j) 16).map il
theorem J7 (m:List Nat) (n:Nat):GS m n++[(KS (H0 m n) 16).map il]=GS m (n+1):=by simp [GS,List.range_succ]
theorem sQ (m:List Nat) (n:Nat):(GS m n).length=n:=by simp [GS]
def GG (m:List Nat) (n:Nat):List (List (List Nat)):=if n=2 then [KS (H0 m 0) 16,KS (H0 m 1) 16,KS (H0 m 0) 16] else (List.range n).map fun j=>KS (H0 m j) 16
section
variable {m:List Nat} (hb: ∀v∈m,v<256) {n:Nat} (hn:n=1∨n=2∨n=3) (hl:m.length=8*n)
include hb hn hl
theorem NH {S:List (List (List Int))} (hS:S=GS m n):(if n=2 then S++[S.getD 0 []] else S)=(GG m n).map fun K=>K.map il:=by
 subst hS
 rcases hn with rfl | rfl | rfl
 ·rfl
 ·rfl
 ·rfl
theorem SN (d:Nat): ∀ {k j:Nat},j+d=n→2000+d+1≤k→gP.l0 k (il m) (GS m j) (j:Int)=some (some ((GG m n).map fun K=>K.map il),0)∧bM.l0 k (il m) (GS m j) ((8*j:Nat):Int)=some (some ((GG m n).map fun K=>K.map il),0):=by
 have en:ak (Int.tdiv ((il m).length:Int) 8)=(n:Int):=by
  have:Int.tdiv ((il m).length:Int) 8=(((il m).length/8:Nat):Int):=rfl
  rw [this,ag,hl,au (by omega)];omega
 have ge:=NH hb hn hl rfl
 induction d with
 | zero=>
  intro k j hj hk
  obtain ⟨k,rfl⟩: ∃j,k=j+1:=⟨k-1,by omega⟩
  obtain rfl:j=n:=by omega
  have sl:decide ((0:Int)<((GS m j).length:Int))=true:=by rw [decide_eq_true_eq,sQ];omega
  have RW:decide ((GS m j).length+([(GS m j).getD 0 []]:List (List (List Int))).length≤1000000000)=true:=by rw [decide_eq_true_eq,sQ];simp only [List.length_cons,List.length_nil];omega
  constructor
  ·rw [gP.l0,en,if_neg (by rw [decide_eq_true_eq];omega)];unfold gd
   rw [if_pos sl,if_pos RW]
   by_cases e:j=2
   ·rw [if_pos e] at ge
    rw [if_pos (by subst e;rfl),ge]
   ·rw [if_neg e] at ge
    rw [if_neg (by simp;omega),ge]
  ·rw [bM.l0,if_neg (by rw [decide_eq_true_eq,ag,hl];omega)];unfold gd
   rw [if_pos sl,if_pos RW,ag,hl]
   by_cases e:j=2
   ·rw [if_pos e] at ge
    rw [if_pos (by subst e;rfl),ge]
   ·rw [if_neg e] at ge
    rw [if_neg (by simp;omega),ge]
 | succ d ih=>
  intro k j hj hk
  obtain ⟨k,rfl⟩: ∃j,k=j+1:=⟨k-1,by omega⟩
  obtain ⟨q1,q2⟩:=RD (NG hb (j:=j) (by omega)) (k:=k) (by omega)
  obtain ⟨x1,x2⟩:=ih (k:=k) (j:=j+1) (by omega) (by omega)
  have a1:ak ((j:Int)+1)=((j+1:Nat):Int):=au (n:=j+1) (by omega)
  have a2:ak (8*(j:Int))=((8*j:Nat):Int):=au (n:=8*j) (by omega)
  have a3:ak (8*((j+1:Nat):Int))=((8*(j+1):Nat):Int):=au (n:=8*(j+1)) (by omega)
  have a4:ak (((8*j:Nat):Int)+8)=((8*(j+1):Nat):Int):=au (n:=8*j+8) (by omega)
  have cut:((il m).take (8*(j+1))).drop (8*j)=il (H0 m j):=by rw [Gy,Gz];rfl
  have sl:decide ((GS m j).length+([(KS (H0 m j) 16).map il]:List (List (List Int))).length≤1000000000)=true:=by rw [decide_eq_true_eq,sQ];simp only [List.length_cons,List.length_nil];omega
  rw [←J7] at x1 x2
  constructor
  ·rw [gP.l0,en,if_pos (by rw [decide_eq_true_eq];omega)];unfold gd
   rw [a1,a2,a3,if_pos (by rw [decide_eq_true_eq];omega),if_pos (by rw [decide_eq_true_eq];omega),if_pos (by rw [decide_eq_true_eq,ag];omega),Int.toNat_natCast,Int.toNat_natCast,cut,q1,Option.bind_some,if_pos sl]
   exact x1
  ·rw [bM.l0,if_pos (by rw [decide_eq_true_eq,ag];omega)];unfold gd
   rw [a4,if_pos (by rw [decide_eq_true_eq];omega),if_pos (by rw [decide_eq_true_eq];omega),if_pos (by rw [decide_eq_true_eq,ag];omega),Int.toNat_natCast,Int.toNat_natCast,cut,q2,Option.bind_some,if_pos sl]
   exact x2
theorem RE {k:Nat} (hk:2100≤k):gP.f k (il m)=some (some ((GG m n).map fun K=>K.map il),0)∧bM.f k (il m)=some (some ((GG m n).map fun K=>K.map il),0):=by
 have en:ak (Int.tdiv ((il m).length:Int) 8)=(n:Int):=by
  have:Int.tdiv ((il m).length:Int) 8=(((il m).length/8:Nat):Int):=rfl
  rw [this,ag,hl,au (by omega)];omega
 have e8:Int.tmod ((il m).length:Int) 8=0:=by
  have:Int.tmod ((il m).length:Int) 8=(((il m).length%8:Nat):Int):=rfl
  rw [this,ag,hl,Nat.mul_mod_right];rfl
 obtain ⟨x1,x2⟩:=SN hb hn hl n (k:=k) (j:=0) (by omega) (by omega)
 constructor
 ·unfold gP.f
  rw [e8,en,if_neg (by decide),if_neg (by rw [decide_eq_true_eq];omega),if_neg (by rw [decide_eq_true_eq];omega)]
  exact x1
 ·unfold bM.f
  have x3:bM.l0 k (il m) [] 0=_:=x2
  rw [x3,ag,hl]
  rcases hn with rfl | rfl | rfl<;>rfl
theorem RF: ∀K∈GG m n,Ce K:=by
 intro K hK
 unfold GG at hK
 split at hK
 ·simp only [List.mem_cons,List.not_mem_nil,or_false] at hK
  rcases hK with rfl | rfl | rfl<;>exact Lz _
 ·obtain ⟨j,_,rfl⟩:=List.mem_map.1 hK
  exact Lz _
theorem HH:(GG m n).length=1∨(GG m n).length=3:=by
 rcases hn with rfl | rfl | rfl
 ·left;rfl
 ·right;rfl
 ·right;rfl
end
def H1 (G:List (List (List Nat))) (dir:Bool) (i:Nat) (x:List Nat):List Nat:=te (bif (!(dir==decide (i=1))) then (G.getD (bif dir then G.length-1-i else i) []).reverse else G.getD (bif dir then G.length-1-i else i) []) x
def bN (G:List (List (List Nat))) (dir:Bool):Nat→Nat→List Nat→List Nat
 | _,0,x=>x
 | i,d+1,x=>bN G dir (i+1) d (H1 G dir i x)
section
variable {G:List (List (List Nat))} (hG: ∀K∈G,Ce K) (hl:G.length=1∨G.length=3) (dir:Bool)
include hG hl
theorem SO (d:Nat): ∀ {k i:Nat} {x:List Nat},i+d=G.length→B8 x→500+d≤k→
 bR.l0 k (G.map fun K=>K.map il) dir (il x) (i:Int)=some (il (bN G dir i d x),0)∧aT.l0 k (G.map fun K=>K.map il) dir (il x) (i:Int)=some (il (bN G dir i d x),0):=by
 have gl:(G.map fun K=>K.map il).length=G.length:=by rw [List.length_map]
 have gat: ∀i:Nat,i<G.length→(G.map fun K=>K.map il).getD i []=(G.getD i []).map il∧Ce (G.getD i []):=fun i hi=>by
  have e:G.getD i []=G[i]:=by rw [List.getD_eq_getElem?_getD,List.getElem?_eq_getElem hi];rfl
  rw [e]
  exact ⟨by rw [List.getD_eq_getElem?_getD,List.getElem?_map,List.getElem?_eq_getElem hi];rfl,hG _ (List.getElem_mem hi)⟩
 induction d with
 | zero=>
  intro k i x hi hx hk
  obtain ⟨k,rfl⟩: ∃j,k=j+1:=⟨k-1,by omega⟩
  constructor
  ·rw [bR.l0,if_neg (by rw [decide_eq_true_eq,gl];omega)];rfl
  ·rw [aT.l0,if_neg (by rw [decide_eq_true_eq,gl];omega)];rfl
 | succ d ih=>
  intro k i x hi hx hk
  obtain ⟨k,rfl⟩: ∃j,k=j+1:=⟨k-1,by omega⟩
  have c0: ∀z:Nat,decide (0≤(z:Int))=true:=fun z=>by rw [decide_eq_true_eq];omega
  have c1:decide ((i:Int)<((G.map fun K=>K.map il).length:Int))=true:=by rw [decide_eq_true_eq,gl];omega
  have a2:ak ((i:Int)+1)=((i+1:Nat):Int):=au (n:=i+1) (by omega)
  obtain ⟨x1,x2⟩:=ih (k:=k) (i:=i+1) (x:=H1 G dir i x) (by omega) (yV _ _) (by omega)
  have ei:((i:Int)==1)=decide (i=1):=by rw [Bool.eq_iff_iff,beq_iff_eq,decide_eq_true_eq];omega
  cases dir with
  | false=>
   obtain ⟨g1,g2⟩:=gat i (by omega)
   have cl:bX.f k ((G.getD i []).map il)=some ([]++(G.getD i []).map il):=by
    unfold bX.f gd
    rw [if_pos (by rw [decide_eq_true_eq,List.length_map,g2.1];decide)]
   have o1:=tP g2 hx (k:=k) (by omega)
   have o2:=tP g2.rev hx (k:=k) (by omega)
   have r:=Cf g2 (!(false==decide (i=1))) hx (k:=k) (by omega)
   constructor
   ·rw [bR.l0,if_pos c1];unfold gd
    rw [if_pos (c0 _),if_pos c1,if_neg Bool.false_ne_true,ei,Int.toNat_natCast,g1,cl,Option.bind_some,K6 g2 (by omega),Option.bind_some,o2,Option.bind_some,o1,Option.bind_some,a2]
    cases h:(!(false==decide (i=1))) with
    | false=>
     have eb:H1 G false i x=te (G.getD i []) x:=by unfold H1;rw [h];rfl
     rw [eb] at x1
     rw [if_neg Bool.false_ne_true,x1,←eb];rfl
    | true=>
     have eb:H1 G false i x=te (G.getD i []).reverse x:=by unfold H1;rw [h];rfl
     rw [eb] at x1
     rw [if_pos rfl,x1,←eb];rfl
   ·rw [aT.l0,if_pos c1];unfold gd
    rw [if_neg Bool.false_ne_true,if_pos (c0 _),if_pos c1,ei,Int.toNat_natCast,g1,r,Option.bind_some,a2]
    exact x2
  | true=>
   have ej:ak (ak (((G.map fun K=>K.map il).length:Int)-1)-(i:Int))=((G.length-1-i:Nat):Int):=by
    have:ak (((G.map fun K=>K.map il).length:Int)-1)=((G.length-1:Nat):Int):=by rw [gl,cA (by omega) (by omega)];omega
    rw [this,cA (by omega) (by omega)];omega
   have cj:decide (((G.length-1-i:Nat):Int)<((G.map fun K=>K.map il).length:Int))=true:=by rw [decide_eq_true_eq,gl];omega
   obtain ⟨g1,g2⟩:=gat (G.length-1-i) (by omega)
   have cl:bX.f k ((G.getD (G.length-1-i) []).map il)=some ([]++(G.getD (G.length-1-i) []).map il):=by
    unfold bX.f gd
    rw [if_pos (by rw [decide_eq_true_eq,List.length_map,g2.1];decide)]
   have o1:=tP g2 hx (k:=k) (by omega)
   have o2:=tP g2.rev hx (k:=k) (by omega)
   have r:=Cf g2 (!(true==decide (i=1))) hx (k:=k) (by omega)
   constructor
   ·rw [bR.l0,if_pos c1];unfold gd
    rw [if_pos (c0 _),if_pos c1,if_pos rfl,ej,if_pos (c0 _),if_pos cj,ei,Int.toNat_natCast,g1,Option.bind_some,cl,Option.bind_some,K6 g2 (by omega),Option.bind_some,o2,Option.bind_some,o1,Option.bind_some,a2]
    cases h:(!(true==decide (i=1))) with
    | false=>
     have eb:H1 G true i x=te (G.getD (G.length-1-i) []) x:=by unfold H1;rw [h];rfl
     rw [eb] at x1
     rw [if_neg Bool.false_ne_true,x1,←eb];rfl
    | true=>
     have eb:H1 G true i x=te (G.getD (G.length-1-i) []).reverse x:=by unfold H1;rw [h];rfl
     rw [eb] at x1
     rw [if_pos rfl,x1,←eb];rfl
   ·rw [aT.l0,if_pos c1];unfold gd
    rw [if_pos rfl,ej,if_pos (c0 _),if_pos cj,ei,Int.toNat_natCast,g1,Option.bind_some,r,Option.bind_some,a2]
    exact x2
omit hG hl in
theorem RG (d:Nat): ∀ {i:Nat} {x:List Nat},B8 x→B8 (bN G dir i d x):=by
 induction d with
 | zero=>intro i x hx;exact hx
 | succ d ih=>intro i x hx;exact ih (yV _ _)
end
theorem J8 {n:Nat} (hn:n=1∨n=2∨n=3) {m:List Nat} (h:m.length=8*n) (hm: ∀x∈m,x<256): ∃S,(∀k,2100≤k→gP.f k (il m)=some (some S,0))∧(∀k,2100≤k→bM.f k (il m)=some (some S,0))∧
 ∀(dir:Bool) (b:List Nat),b.length=8→(∀x∈b,x<256)→ ∃o:List Nat,o.length=8∧(∀x∈o,x<256)∧ ∀k,2100≤k→bR.f k S (il b) dir=some (il o,0)∧aT.f k S (il b) dir=some (il o,0):=by
 refine ⟨(GG m n).map fun K=>K.map il,fun k hk=>(RE hm hn h hk).1,fun k hk=>(RE hm hn h hk).2,fun dir b hb hbb=> ?_⟩
 have x:=fun (k:Nat) (hk:2100≤k)=>SO (RF hm hn h) (HH hm hn h) dir (GG m n).length (k:=k) (i:=0) (x:=b) (by omega) ⟨hb,hbb⟩ (by have:=HH hm hn h;omega)
 have o:=RG (G:=GG m n) dir (GG m n).length (i:=0) (x:=b) ⟨hb,hbb⟩
 refine ⟨_,o.1,o.2,fun k hk=>⟨?_,?_⟩⟩
 ·unfold bR.f
  rw [ag,hb,if_neg (by decide)];exact (x k hk).1
 ·unfold aT.f
  rw [ag,hb,if_neg (by decide)];exact (x k hk).2
end Go.Scr.S.Ds
