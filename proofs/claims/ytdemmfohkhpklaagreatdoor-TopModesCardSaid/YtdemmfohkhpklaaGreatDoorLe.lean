/- The plain law: the ciphers, the modes, the contexts of both sides are one. -/
import Derived.Test.YtdemmfohkhpklaaGreatDoorFp
import Derived.Test.YtdemmfohkhpklaaGreatDoorLa
import Derived.Test.YtdemmfohkhpklaaGreatDoorLd
set_option linter.unusedVariables false
set_option linter.unusedSimpArgs false
set_option linter.unnecessarySimpa false
set_option linter.unusedSectionVars false
namespace Go.Scr.S
def pN (x:List Nat):Nat→Option Nat
 | 0=>none
 | n+1=>if x.getD n 0=128 then some n else pN x n
def ne (x:List Nat):Nat→Option Nat
 | 0=>if x.getD 0 0=128 then some 0 else none
 | n+1=>if x.getD (n+1) 0=0 then ne x n else if x.getD (n+1) 0=128 then some (n+1) else none
def oi (o:Option Nat):Int:=match o with
 | none=> -1
 | some i=>(i:Int)
theorem zq (x:List Nat): ∀n i,pN x n=some i→i<n:=by
 intro n
 induction n with
 | zero=>intro i h;cases h
 | succ n ih=>
  intro i h
  unfold pN at h
  split at h
  ·cases h;omega
  ·have:=ih i h;omega
theorem Ke {x:List Nat} (hl:x.length≤100) (n:Nat): ∀ {k:Nat},n≤x.length→n<k→bh.l0 k (il x) 128 ((n:Int)-1)=some (oi (pN x n)):=by
 induction n with
 | zero=>
  intro k h1 hk
  obtain ⟨k,rfl⟩: ∃j,k=j+1:=⟨k-1,by omega⟩
  rw [bh.l0,if_neg (by decide)];rfl
 | succ n ih=>
  intro k h1 hk
  obtain ⟨k,rfl⟩: ∃j,k=j+1:=⟨k-1,by omega⟩
  have a0:((n+1:Nat):Int)-1=(n:Int):=by omega
  have a1:ak ((n:Int)-1)=(n:Int)-1:=cA (by omega) (by omega)
  rw [a0,bh.l0,if_pos (by rw [decide_eq_true_eq];omega)];unfold gd
  rw [if_pos (by rw [decide_eq_true_eq];omega),if_pos (by rw [decide_eq_true_eq,ag];omega),bf,a1,pN]
  by_cases h:x.getD n 0=128
  ·rw [if_pos (by rw [h];rfl),if_pos h];rfl
  ·rw [if_neg (by rw [beq_iff_eq];omega),if_neg h];exact ih (by omega) (by omega)
theorem HP {x:List Nat} (hl:x.length≤100) (n:Nat): ∀ {k:Nat},n<x.length→n<k→aS.l0 k (il x) (n:Int)=some (oi (ne x n)):=by
 induction n with
 | zero=>
  intro k h1 hk
  obtain ⟨k,rfl⟩: ∃j,k=j+1:=⟨k-1,by omega⟩
  rw [aS.l0,if_neg (by decide)];unfold gd
  rw [if_pos (by decide),if_pos (by rw [decide_eq_true_eq,ag];omega),bf,ne]
  by_cases h:x.getD 0 0=128
  ·rw [if_pos (by rw [h];rfl),if_pos h];rfl
  ·rw [if_neg (by rw [beq_iff_eq];omega),if_neg h];rfl
 | succ n ih=>
  intro k h1 hk
  obtain ⟨k,rfl⟩: ∃j,k=j+1:=⟨k-1,by omega⟩
  have a1:ak (((n+1:Nat):Int)-1)=(n:Int):=by rw [cA (by omega) (by omega)];omega
  have c0:decide (0≤((n+1:Nat):Int))=true:=by rw [decide_eq_true_eq];omega
  have c1:decide (((n+1:Nat):Int)<((il x).length:Int))=true:=by rw [decide_eq_true_eq,ag];omega
  rw [aS.l0,if_pos (by rw [decide_eq_true_eq];omega)];unfold gd
  rw [if_pos c0,if_pos c1,bf,a1,ne]
  by_cases h0:x.getD (n+1) 0=0
  ·rw [if_pos (by rw [h0];rfl),if_pos h0];exact ih (by omega) (by omega)
  ·rw [if_neg (by rw [beq_iff_eq];omega),if_neg h0,if_pos c0,if_pos c1]
   by_cases h:x.getD (n+1) 0=128
   ·rw [if_pos (by rw [h];rfl),if_pos h];rfl
   ·rw [if_neg (by rw [beq_iff_eq];omega),if_neg h];rfl
theorem Kf {x:List Nat} {i:Nat} (h:x.length≤i):x.getD i 0=0:=by rw [List.getD_eq_getElem?_getD,List.getElem?_eq_none h];rfl
theorem HQ {a b:List Nat} (hl:a.length=b.length) (h: ∀i,i<a.length→a.getD i 0=b.getD i 0):a=b:=by
 refine List.ext_getElem hl fun i h1 h2=> ?_
 have:=h i h1
 rwa [List.getD_eq_getElem?_getD,List.getD_eq_getElem?_getD,List.getElem?_eq_getElem h1,List.getElem?_eq_getElem h2] at this
theorem Di (x:List Nat) (i j:Nat):(x.drop i).getD j 0=x.getD (i+j) 0:=by
 rw [List.getD_eq_getElem?_getD,List.getElem?_drop,List.getD_eq_getElem?_getD]
theorem Dj (r j:Nat):(nU 2 r).getD j 0=if j=0 then 128 else 0:=by
 show (128::List.replicate (r-1) 0).getD j 0=_
 cases j with
 | zero=>rfl
 | succ j=>
  rw [show (if j+1=0 then 128 else 0)=0 from if_neg (by omega),List.getD_cons_succ,List.getD_eq_getElem?_getD,List.getElem?_replicate]
  split<;>rfl
theorem va {x:List Nat} {i:Nat} (hi:i<x.length):x.drop i=nU 2 (x.length-i)↔x.getD i 0=128∧ ∀j,i<j→x.getD j 0=0:=by
 have pl:(nU 2 (x.length-i)).length=x.length-i:=by
  show (128::List.replicate (x.length-i-1) 0).length=_
  rw [List.length_cons,List.length_replicate];omega
 constructor
 ·intro h
  have g: ∀j,x.getD (i+j) 0=if j=0 then 128 else 0:=fun j=>by rw [←Di,h,Dj]
  refine ⟨by have:=g 0;simpa using this,fun j hj=> ?_⟩
  have:=g (j-i)
  rw [show i+(j-i)=j by omega,if_neg (by omega)] at this;exact this
 ·intro ⟨h1,h2⟩
  refine HQ (by rw [List.length_drop,pl]) fun j hj=> ?_
  rw [Di,Dj]
  by_cases e:j=0
  ·subst e;rw [if_pos rfl];exact h1
  ·rw [if_neg e];exact h2 _ (by omega)
theorem AB {x:List Nat} (n:Nat) (hn:n<x.length) (hz: ∀j,n<j→x.getD j 0=0):ne x n=(pN x (n+1)).bind fun i=>if x.drop i=nU 2 (x.length-i) then some i else none:=by
 have none_of: ∀m,m≤x.length→(∃j,m≤j∧x.getD j 0≠0)→(pN x m).bind (fun i=>if x.drop i=nU 2 (x.length-i) then some i else none)=none:=fun m hm ⟨j,hj,h0⟩=>by
  cases hli:pN x m with
  | none=>rfl
  | some i=>
   have:=zq x m i hli
   rw [Option.bind_some,if_neg (fun h=>h0 (((va (by omega)).1 h).2 j (by omega)))]
 induction n with
 | zero=>
  unfold ne pN
  by_cases h:x.getD 0 0=128
  ·rw [if_pos h,if_pos h,Option.bind_some,if_pos ((va hn).2 ⟨h,hz⟩)]
  ·rw [if_neg h,if_neg h];rfl
 | succ n ih=>
  rw [ne,pN]
  by_cases h0:x.getD (n+1) 0=0
  ·rw [if_pos h0,if_neg (by omega)]
   exact ih (by omega) fun j hj=>by
    rcases Nat.lt_or_ge (n+1) j with g | g
    ·exact hz j g
    ·rw [show j=n+1 by omega];exact h0
  ·rw [if_neg h0]
   by_cases h:x.getD (n+1) 0=128
   ·rw [if_pos h,if_pos h,Option.bind_some,if_pos ((va hn).2 ⟨h,hz⟩)]
   ·rw [if_neg h,if_neg h];exact (none_of (n+1) (by omega) ⟨n+1,Nat.le_refl _,h0⟩).symm
def lF (p:Nat) (x:List Nat):Nat:=
 if p=2 then (match ne x (x.length-1) with
  | none=>0
  | some i=>x.length-i)
 else if x.getD (x.length-1) 0<1 then 0 else if x.getD (x.length-1) 0>x.length then 0
 else if p=1∧x.drop (x.length-x.getD (x.length-1) 0)≠List.replicate (x.getD (x.length-1) 0) (x.getD (x.length-1) 0) then 0 else x.getD (x.length-1) 0
theorem El (x:List Nat): ∀n i,ne x n=some i→i≤n:=by
 intro n
 induction n with
 | zero=>intro i h;unfold ne at h;split at h<;>cases h;omega
 | succ n ih=>
  intro i h
  unfold ne at h
  split at h
  ·have:=ih i h;omega
  split at h<;>cases h;omega
theorem Kg (p:Nat) (x:List Nat):lF p x≤x.length:=by
 unfold lF
 split
 ·split<;>omega
 split
 ·omega
 split
 ·omega
 split<;>omega
theorem LD {a b:List Nat} (ha: ∀x∈a,x<256) (hb: ∀x∈b,x<256) (k:Nat):iB.f k (il a) (il b)=some (decide (a=b)):=by
 unfold iB.f;rw [HO ha hb]
theorem Kh {p:Nat} (hp:p=1∨p=2∨p=3) {x:List Nat} (hx: ∀y∈x,y<256) (h1:1≤x.length) (h2:x.length≤16) {k:Nat} (hk:100≤k):iC.f k (p:Int) (il x)=some ((lF p x:Nat):Int):=by
 obtain ⟨k,rfl⟩: ∃j,k=j+1:=⟨k-1,by omega⟩
 have l1:ak (((il x).length:Int)-1)=((x.length-1:Nat):Int):=by rw [ag,cA (by omega) (by omega)];omega
 have f0:decide (0≤((x.length-1:Nat):Int))=true:=by rw [decide_eq_true_eq];omega
 have f1:decide (((x.length-1:Nat):Int)<((il x).length:Int))=true:=by rw [decide_eq_true_eq,ag];omega
 have hv:=dN hx (x.length-1)
 have i0:ak ((x.getD (x.length-1) 0:Nat):Int)=((x.getD (x.length-1) 0:Nat):Int):=au (by omega)
 unfold iC.f gd
 rw [l1,if_pos f0,if_pos f1]
 by_cases p2:p=2
 ·subst p2
  rw [if_pos (by rfl),iC.l0]
  have q:bh.f k (il x) 128=some (oi (pN x x.length)):=by
   unfold bh.f
   have:=Ke (x:=x) (by omega) x.length (k:=k) (Nat.le_refl _) (by omega)
   rw [l1,show ((x.length-1:Nat):Int)=(x.length:Int)-1 by omega];exact this
  have al:=AB (x:=x) (x.length-1) (by omega) (fun j hj=>Kf (by omega))
  rw [show x.length-1+1=x.length by omega] at al
  unfold fG.f
  rw [q,Option.bind_some,Option.bind_some,ag]
  unfold lF
  rw [if_pos rfl,al]
  cases hli:pN x x.length with
  | none=>
   have e:ak ((x.length:Int)-oi none)=((x.length+1:Nat):Int):=by rw [show oi none= -1 from rfl,cA (by omega) (by omega)];omega
   rw [e,Option.bind_some,if_pos (by rw [decide_eq_true_eq];omega)];rfl
  | some i=>
   have hi:=zq x _ _ hli
   have e:ak ((x.length:Int)-oi (some i))=((x.length-i:Nat):Int):=by rw [show oi (some i)=(i:Int) from rfl,cA (by omega) (by omega)];omega
   have e2:ak ((x.length:Int)-((x.length-i:Nat):Int))=(i:Int):=by rw [cA (by omega) (by omega)];omega
   have dp: ∀n:Nat,(il x).drop n=il (x.drop n):=fun n=>jm x n
   rw [e,Option.bind_some,if_neg (by rw [decide_eq_true_eq];omega),e2];unfold gd
   rw [if_pos (by rw [decide_eq_true_eq];omega),if_pos (by rw [decide_eq_true_eq];omega),Option.bind_some,Int.toNat_natCast,dp,Az (.inr (.inl rfl)) (by omega) (by omega) (by omega),Option.bind_some,LD (fun y hy=>hx y (List.mem_of_mem_drop hy)) (ue (.inr (.inl rfl)) (by omega) (by omega)).2,Option.bind_some]
   by_cases g:x.drop i=nU 2 (x.length-i)
   ·rw [Option.bind_some,if_pos g,if_neg (by rw [decide_eq_true g];decide)]
   ·rw [Option.bind_some,if_neg g,if_pos (by rw [decide_eq_false g];rfl)];rfl
 ·rw [if_neg (by rw [beq_iff_eq];omega),bf,i0,ag]
  unfold lF
  rw [if_neg p2]
  by_cases a1:x.getD (x.length-1) 0<1
  ·rw [if_pos (by rw [decide_eq_true_eq];omega),if_pos a1];rfl
  ·rw [if_neg (by rw [decide_eq_true_eq];omega),if_neg a1,Option.bind_some]
   by_cases a2:x.getD (x.length-1) 0>x.length
   ·rw [if_pos (by rw [decide_eq_true_eq];omega),if_pos a2];rfl
   ·rw [if_neg (by rw [decide_eq_true_eq];omega),if_neg a2]
    generalize x.getD (x.length-1) 0=v at*
    rcases hp with rfl | rfl | rfl
    ·have e2:ak ((x.length:Int)-(v:Int))=((x.length-v:Nat):Int):=by rw [cA (by omega) (by omega)];omega
     have pe:nU 1 v=List.replicate v v:=rfl
     rw [if_pos (by rfl),e2,Option.bind_some]
     rw [if_pos (by rw [decide_eq_true_eq];omega),if_pos (by rw [decide_eq_true_eq];omega),Az (.inl rfl) (by omega) (by omega) (by omega),Option.bind_some,Int.toNat_natCast,jm,LD (fun y hy=>hx y (List.mem_of_mem_drop hy)) (ue (.inl rfl) (by omega) (by omega)).2,Option.bind_some,pe]
     by_cases g:x.drop (x.length-v)=List.replicate v v
     ·rw [if_neg (by rw [decide_eq_true g];decide),if_neg (fun h=>h.2 g)]
     ·rw [if_pos (by rw [decide_eq_false g];rfl),if_pos ⟨rfl,g⟩];rfl
    ·exact absurd rfl p2
    ·rw [if_neg (by decide),if_neg (fun h=>absurd h.1 (by decide))]
theorem HS {x:List Nat} (hx: ∀y∈x,y<256) (h2:x.length≤16) {v:Nat} (hv:v<256) (hvl:v≤x.length) (d:Nat): ∀ {k j:Nat},j+d=x.length→d<k→
 aS.l1 k 1 (il x) (v:Int) (j:Int)=some (if x.drop j=List.replicate d v then ((x.length-v:Nat):Int) else-1):=by
 have e2:ak (((il x).length:Int)-(v:Int))=((x.length-v:Nat):Int):=by rw [ag,cA (by omega) (by omega)];omega
 induction d with
 | zero=>
  intro k j hj hk
  obtain ⟨k,rfl⟩: ∃j,k=j+1:=⟨k-1,by omega⟩
  rw [aS.l1,if_neg (by rw [decide_eq_true_eq,ag];omega),e2,if_pos (show x.drop j=List.replicate 0 v from List.drop_of_length_le (by omega))]
 | succ d ih=>
  intro k j hj hk
  obtain ⟨k,rfl⟩: ∃j,k=j+1:=⟨k-1,by omega⟩
  have hjl:j<x.length:=by omega
  have c1:decide ((j:Int)<((il x).length:Int))=true:=by rw [decide_eq_true_eq,ag];omega
  have a2:ak ((j:Int)+1)=((j+1:Nat):Int):=au (n:=j+1) (by omega)
  have uv:U8 (v:Int)=(v:Int):=by rw [iR,Nat.mod_eq_of_lt hv]
  have dr:x.drop j=x.getD j 0::x.drop (j+1):=by
   rw [List.drop_eq_getElem_cons hjl,List.getD_eq_getElem?_getD,List.getElem?_eq_getElem hjl];rfl
  have nx:=ih (k:=k) (j:=j+1) (by omega) (by omega)
  rw [aS.l1,if_pos c1,if_pos (by rfl)];unfold gd
  rw [if_pos (by rw [decide_eq_true_eq];omega),if_pos c1,bf,uv,a2,dr,List.replicate_succ]
  by_cases g:x.getD j 0=v
  ·rw [if_neg (by rw [g];simp),nx]
   congr 1
   by_cases h:x.drop (j+1)=List.replicate d v
   ·rw [if_pos h,if_pos (by rw [g,h])]
   ·rw [if_neg h,if_neg (fun e=>h (List.cons.inj e).2)]
  ·rw [if_pos (by rw [bne_iff_ne];omega),if_neg (fun e=>g (List.cons.inj e).1)]
theorem HT {p:Nat} (hp:p=1∨p=2∨p=3) {x:List Nat} (hx: ∀y∈x,y<256) (h1:1≤x.length) (h2:x.length≤16) {k:Nat} (hk:100≤k):aS.f k (p:Int) (il x)=some (if lF p x=0 then-1 else ((x.length-lF p x:Nat):Int)):=by
 have l1:ak (((il x).length:Int)-1)=((x.length-1:Nat):Int):=by rw [ag,cA (by omega) (by omega)];omega
 have f0:decide (0≤((x.length-1:Nat):Int))=true:=by rw [decide_eq_true_eq];omega
 have f1:decide (((x.length-1:Nat):Int)<((il x).length:Int))=true:=by rw [decide_eq_true_eq,ag];omega
 have hv:=dN hx (x.length-1)
 have i0:ak ((x.getD (x.length-1) 0:Nat):Int)=((x.getD (x.length-1) 0:Nat):Int):=au (by omega)
 unfold aS.f gd
 rw [l1]
 by_cases p2:p=2
 ·subst p2
  have a:=HP (x:=x) (by omega) (x.length-1) (k:=k) (by omega) (by omega)
  rw [if_pos (by rfl),a]
  unfold lF
  rw [if_pos rfl]
  cases h:ne x (x.length-1) with
  | none=>rfl
  | some i=>
   have:=El x _ _ h
   dsimp only
   rw [if_neg (by omega),show x.length-(x.length-i)=i by omega];rfl
 ·rw [if_neg (by rw [beq_iff_eq];omega),if_pos f0,if_pos f1,bf,i0,ag]
  unfold lF
  rw [if_neg p2]
  by_cases a1:x.getD (x.length-1) 0<1
  ·rw [if_pos (by rw [decide_eq_true_eq];omega),if_pos a1];rfl
  ·rw [if_neg (by rw [decide_eq_true_eq];omega),if_neg a1,Option.bind_some]
   by_cases a2:x.getD (x.length-1) 0>x.length
   ·rw [if_pos (by rw [decide_eq_true_eq];omega),if_pos a2];rfl
   ·rw [if_neg (by rw [decide_eq_true_eq];omega),if_neg a2]
    generalize x.getD (x.length-1) 0=v at*
    have e2:ak ((x.length:Int)-(v:Int))=((x.length-v:Nat):Int):=by rw [cA (by omega) (by omega)];omega
    rw [e2,Option.bind_some]
    rcases hp with rfl | rfl | rfl
    ·have b:=HS hx h2 hv (by omega) v (k:=k) (j:=x.length-v) (by omega) (by omega)
     have b':aS.l1 k ((1:Nat):Int) (il x) (v:Int) ((x.length-v:Nat):Int)=_:=b
     rw [b']
     by_cases g:x.drop (x.length-v)=List.replicate v v
     ·rw [if_pos g,if_neg (show ¬(1=1∧x.drop (x.length-v)≠List.replicate v v) from fun h=>h.2 g),if_neg (by omega)]
     ·rw [if_neg g,if_pos (show 1=1∧x.drop (x.length-v)≠List.replicate v v from ⟨rfl,g⟩),if_pos rfl]
    ·exact absurd rfl p2
    ·rw [if_neg (show ¬(3=1∧x.drop (x.length-v)≠List.replicate v v) from fun h=>absurd h.1 (by decide)),if_neg (by omega)]
     obtain ⟨k,rfl⟩: ∃j,k=j+1:=⟨k-1,by omega⟩
     have e3:ak (((il x).length:Int)-(v:Int))=((x.length-v:Nat):Int):=by rw [ag];exact e2
     rw [aS.l1,if_pos (by rw [decide_eq_true_eq,ag];omega),if_neg (by decide),e3]
theorem wj {s p:Nat} (hs:s=8∨s=16) (hp:p=1∨p=2∨p=3) {x:List Nat} (hx:Bk s x) {k:Nat} (hk:100≤k):
 jb.f k (p:Int) (s:Int) (il x)=some (if lF p x=0 then ([],8) else (il (x.take (s-lF p x)),0))∧gw.f k (p:Int) (s:Int) (il x)=some (if lF p x=0 then ([],8) else (il (x.take (s-lF p x)),0)):=by
 have hl:=hx.1
 have lx:((il x).length:Int)=(s:Int):=by rw [ag,hl]
 have pl:=Kg p x
 have t1:kt.f k (p:Int)=some true:=by rcases hp with rfl | rfl | rfl<;>rfl
 have t2:jG.f k (s:Int)=some true:=by rcases hs with rfl | rfl<;>rfl
 have lg:=Kh hp hx.2 (by omega) (by omega) hk
 have ah:=HT hp hx.2 (by omega) (by omega) hk
 constructor
 ·unfold jb.f gd
  rw [t1,Option.bind_some,if_neg (by decide),t2,Option.bind_some,if_neg (by decide),lx,if_neg (by simp),lg,Option.bind_some]
  by_cases z:lF p x=0
  ·rw [if_pos (by rw [z];rfl),if_pos z]
  ·have e:ak ((s:Int)-((lF p x:Nat):Int))=((s-lF p x:Nat):Int):=by rw [cA (by omega) (by omega)];omega
   rw [if_neg (by rw [beq_iff_eq];omega),if_neg z,e,if_pos (by rw [decide_eq_true_eq];omega),if_pos (by rw [decide_eq_true_eq];omega),Int.toNat_natCast,jt,sV (by rw [List.length_take];omega),Option.bind_some]
 ·unfold gw.f gd
  rw [if_neg (by rw [decide_eq_true_eq];omega),if_neg (by rw [decide_eq_true_eq];omega),lx,ah,Option.bind_some]
  have body:(if decide ((if lF p x=0 then (-1:Int) else ((x.length-lF p x:Nat):Int))<0)=true then some (([]:List Int),(8:Int)) else if decide (0≤(if lF p x=0 then (-1:Int) else ((x.length-lF p x:Nat):Int)))=true then if decide ((if lF p x=0 then (-1:Int) else ((x.length-lF p x:Nat):Int))≤(s:Int))=true then if decide (([]:List Int).length+((il x).take (if lF p x=0 then (-1:Int) else ((x.length-lF p x:Nat):Int)).toNat).length≤1000000000)=true then some (([]:List Int)++(il x).take (if lF p x=0 then (-1:Int) else ((x.length-lF p x:Nat):Int)).toNat,(0:Int)) else none else none else none)=some (if lF p x=0 then ([],8) else (il (x.take (s-lF p x)),0)):=by
   by_cases z:lF p x=0
   ·rw [if_pos z,if_pos (by decide),if_pos z]
   ·rw [if_neg z,if_neg z,if_neg (by rw [decide_eq_true_eq];omega),if_pos (by rw [decide_eq_true_eq];omega),if_pos (by rw [decide_eq_true_eq];omega),Int.toNat_natCast,jt,if_pos (by rw [decide_eq_true_eq,ag,List.length_take,List.length_nil];omega),hl];rfl
  have sn:((s:Int) != (s:Int))=false:=by simp
  rw [sn,if_neg Bool.false_ne_true,body]
  rcases hs with rfl | rfl
  ·rw [if_neg (by decide)]
  ·rw [if_pos (by decide),if_neg (by decide)]
def AD (s p:Nat) (r:List Nat×Int):List Nat×Int:=
 if r.2≠0 then r
 else if lF p (r.1.drop (r.1.length-s))=0 then ([],8)
 else (r.1.take (r.1.length-s)++(r.1.drop (r.1.length-s)).take (s-lF p (r.1.drop (r.1.length-s))),0)
def wk (E:Bool→List Nat→List Nat) (s m p:Nat) (dir:Bool) (iv x:List Nat):List Nat×Int:=
 if 7≤m then (if x.length<s then ([],7) else (sA E s m dir iv x,0))
 else if p=4 then lD E s m dir iv x
 else bif dir then (if x=[] then ([],7) else AD s p (lD E s m dir iv x)) else lD E s m dir iv (x++nU p (s-x.length%s))
structure SZ (s m p:Nat) (iv:List Nat):Prop where
 m1:1≤m
 m9:m≤9
 p1:1≤p
 p4:p≤4
 mp:p=4∨m≤2
 iv:Iv s m iv
section
variable {t:Int} {s:Nat} {C:Int×Tn} {D:DT} {E:Bool→List Nat→List Nat} (P:Pr t s C D E) {m p:Nat} {iv:List Nat} (F:SZ s m p iv)
include P F
theorem Dk:((il iv).length:Int)=if m=1 then 0 else (s:Int):=by
 have hv:=F.iv
 unfold Iv at hv
 by_cases e:m=1
 ·rw [if_pos e] at hv ⊢;subst hv;rfl
 ·rw [if_neg e] at hv ⊢;rw [ag,hv.1]
theorem Dl (k:Nat):iS.f k (m:Int)=some (if m≤2 then 1 else if m≤6 then 2 else 3):=by
 have h1:=F.m1
 have h9:=F.m9
 have:m=1∨m=2∨m=3∨m=4∨m=5∨m=6∨m=7∨m=8∨m=9:=by omega
 rcases this with rfl | rfl | rfl | rfl | rfl | rfl | rfl | rfl | rfl<;>rfl
theorem Ki {dir:Bool} {key:List Int} {k:Nat} (hn:eJ.f k t key=some (some C,0)):i9.f k (t,(m:Int),(p:Int),dir) key (il iv)=some (some C,0):=by
 have h1:=F.m1
 have h9:=F.m9
 have p1:=F.p1
 have p4:=F.p4
 have mp:=F.mp
 have lv:=Dk P F
 have s1:=P.s1
 unfold i9.f
 rw [hn,Option.bind_some]
 dsimp only [oC]
 rw [if_neg (by decide),Dl P F,Option.bind_some,(kK P k).1,Option.bind_some,lv]
 have k0:((if m≤2 then (1:Int) else if m≤6 then 2 else 3)==0)=false:=by
  split
  ·rfl
  split<;>rfl
 have kp:p≠4→((if m≤2 then (1:Int) else if m≤6 then 2 else 3) != 1)=false:=fun h=>by rw [if_pos (by omega)];rfl
 have q1:decide ((p:Int)<1)=false:=by rw [decide_eq_false_iff_not];omega
 have q4:decide ((p:Int)>4)=false:=by rw [decide_eq_false_iff_not];omega
 have z: ∀a:Int,(a != a)=false:=fun a=>by simp
 by_cases e:m=1
 ·rw [if_pos (by rw [e];rfl),k0,if_neg Bool.false_ne_true,q1,if_neg Bool.false_ne_true,q4,if_neg Bool.false_ne_true,if_pos e,z]
  by_cases g:p=4
  ·rw [if_neg (by rw [g];decide),if_neg Bool.false_ne_true]
  ·rw [if_pos (by rw [bne_iff_ne];omega),kp g,if_neg Bool.false_ne_true,if_neg Bool.false_ne_true]
 ·rw [if_neg (by rw [beq_iff_eq];omega),k0,if_neg Bool.false_ne_true,q1,if_neg Bool.false_ne_true,q4,if_neg Bool.false_ne_true,if_neg e,z]
  by_cases g:p=4
  ·rw [if_neg (by rw [g];decide),if_neg Bool.false_ne_true]
  ·rw [if_pos (by rw [bne_iff_ne];omega),kp g,if_neg Bool.false_ne_true,if_neg Bool.false_ne_true]
theorem HU {dir:Bool} {key:List Int} {k:Nat} (hn:aq.f k t key=some (some D,0)):gt.f k (t,(m:Int),(p:Int),dir) key (il iv)=some 0:=by
 have h1:=F.m1
 have h9:=F.m9
 have p1:=F.p1
 have p4:=F.p4
 have mp:=F.mp
 have lv:=Dk P F
 unfold gt.f
 rw [hn,Option.bind_some]
 dsimp only [oC]
 have z: ∀a:Int,(a != a)=false:=fun a=>by simp
 rw [if_neg (by decide),if_neg (by rw [decide_eq_true_eq];omega),if_neg (by rw [decide_eq_true_eq];omega),if_neg (by rw [decide_eq_true_eq];omega),if_neg (by rw [decide_eq_true_eq];omega),P.ds,Option.bind_some,lv]
 by_cases g:p=4
 ·rw [if_neg (by rw [g];decide)]
  by_cases e:m=1
  ·rw [if_pos (by rw [e];rfl),if_pos e,z,if_neg Bool.false_ne_true]
  ·rw [if_neg (by rw [beq_iff_eq];omega),if_neg e,z,if_neg Bool.false_ne_true]
 ·rw [if_pos (by rw [bne_iff_ne];omega),if_neg (by rw [decide_eq_true_eq];omega)]
  by_cases e:m=1
  ·rw [if_pos (by rw [e];rfl),if_pos e,z,if_neg Bool.false_ne_true]
  ·rw [if_neg (by rw [beq_iff_eq];omega),if_neg e,z,if_neg Bool.false_ne_true]
end
section
variable {t:Int} {s:Nat} {C:Int×Tn} {D:DT} {E:Bool→List Nat→List Nat} (P:Pr t s C D E) {m p:Nat} {iv:List Nat} (F:SZ s m p iv)
include P F
theorem zr (h2:m≤2) {dir:Bool} {x:List Nat} (hx: ∀y∈x,y<256) (hz:x.length%s=0):(lD E s m dir iv x).2=0∧Bk x.length (lD E s m dir iv x).1:=by
 have h1:=F.m1
 have hq:x.length=(x.length/s)*s:=by
  have:=Nat.div_add_mod x.length s
  rw [hz,Nat.add_zero,Nat.mul_comm] at this;exact this.symm
 have hvo:Vo s m iv:=by
  have hv:=F.iv
  unfold Vo;unfold Iv at hv
  split
  ·trivial
  ·next e=>rw [if_neg e] at hv;exact hv
 obtain ⟨a,b,_⟩:=De P (by omega:m=1∨m=2) (dir:=dir) (x.length/s) hvo hx hq
 unfold lD
 rw [if_pos h2,if_pos hz]
 exact ⟨rfl,by rw [a];exact hq.symm,b⟩
theorem zt (h2:m≤2) {dir:Bool} {x:List Nat} (hz:¬ x.length%s=0):lD E s m dir iv x=([],7):=by
 unfold lD
 rw [if_pos h2,if_neg hz]
theorem NQ {dir:Bool} {key:List Int} {x:List Nat} (hx: ∀y∈x,y<256) (hl:x.length≤1000) {k:Nat} (hk:40000≤k) (hn:eJ.f k t key=some (some C,0)):
 gE.f k (t,(m:Int),(p:Int),dir) key (il iv) (il x)=some (il (wk E s m p dir iv x).1,(wk E s m p dir iv x).2):=by
 have h1:=F.m1
 have h9:=F.m9
 have p1:=F.p1
 have p4:=F.p4
 have mp:=F.mp
 have s1:=P.s1
 unfold gE.f
 rw [Ki P F hn,Option.bind_some]
 dsimp only [oC]
 rw [if_neg (by decide),Dl P F,Option.bind_some]
 unfold wk
 by_cases h7:7≤m
 ·have hv:Bk s iv:=by have:=F.iv;unfold Iv at this;rwa [if_neg (by omega)] at this
  have st:=SW P (dir:=dir) (by omega:m=7∨m=8∨m=9) (pd:=(p:Int)) hv hx (by omega) (k:=k) (by omega)
  rw [if_pos h7,if_neg (show ¬m≤2 by omega),if_neg (show ¬m≤6 by omega),if_pos (by decide),st]
  by_cases g:x.length<s
  ·rw [if_pos g,if_pos g];rfl
  ·rw [if_neg g,if_neg g];rfl
 ·rw [if_neg h7]
  have kn:((if m≤2 then (1:Int) else if m≤6 then 2 else 3)==3)=false:=by
   split
   ·rfl
   rw [if_pos (by omega)];rfl
  have nw:=(Dg P h1 (by omega) (dir:=dir) F.iv (k:=k)).1
  rw [kn,if_neg Bool.false_ne_true,nw,Option.bind_some,(kK P k).1,Option.bind_some]
  obtain ⟨k,rfl⟩: ∃j,k=j+1:=⟨k-1,by omega⟩
  have stp: ∀y:List Nat,(∀z∈y,z<256)→y.length≤2000→ax.f k ((C.1,C.2),(m:Int),dir,il iv,[],[]) (il y)=some (il (lD E s m dir iv y).1,(lD E s m dir iv y).2):=fun y h1' h2'=>(Ay P h1 (by omega) (dir:=dir) F.iv h1' (by omega) (k:=k) (by omega)).1
  rw [gE.l0]
  dsimp only
  by_cases e4:p=4
  ·rw [if_pos e4,if_neg (by rw [e4];decide),stp x hx (by omega),Option.bind_some]
   dsimp only
   rw [if_pos (show ((p:Int)==4)=true by rw [e4];rfl)]
   split<;>rfl
  ·have h2:m≤2:=by omega
   have hp:p=1∨p=2∨p=3:=by omega
   have p4':((p:Int)==4)=false:=by rw [beq_eq_false_iff_ne];omega
   rw [if_neg e4,if_pos (by rw [bne_iff_ne];omega)]
   cases dir with
   | false=>
    have md:Int.tmod ((il x).length:Int) (s:Int)=((x.length%s:Nat):Int):=by rw [ag];rfl
    have ml:=Nat.mod_lt x.length (by omega:s>0)
    have mle:=Nat.mod_le x.length s
    have ea:ak (((il x).length:Int)-((x.length%s:Nat):Int))=((x.length-x.length%s:Nat):Int):=by rw [ag,cA (by omega) (by omega)];omega
    have f0:decide (0≤((x.length-x.length%s:Nat):Int))=true:=by rw [decide_eq_true_eq];omega
    have f1:decide (((x.length-x.length%s:Nat):Int)≤((il x).length:Int))=true:=by rw [decide_eq_true_eq,ag];omega
    have ld:(x.drop (x.length-x.length%s)).length=x.length%s:=by rw [List.length_drop];omega
    have ad:=(Dh s1 hp (x:=x.drop (x.length-x.length%s)) (by rw [ld];exact ml) (k:=k) (by omega)).1
    rw [ld] at ad
    have pn:=ue hp (r:=s-x.length%s) (by omega) (by omega)
    have lt:(x.take (x.length-x.length%s)).length=x.length-x.length%s:=by rw [List.length_take];omega
    have ct:=zn (a:=x.take (x.length-x.length%s)) (b:=x.drop (x.length-x.length%s)++nU p (s-x.length%s)) (by omega) (by rw [List.length_append,ld,pn.1];omega) (k:=k) (by omega)
    rw [←List.append_assoc,List.take_append_drop] at ct
    have st:=stp (x++nU p (s-x.length%s)) (fun y hy=>by
     rcases List.mem_append.1 hy with hy | hy
     ·exact hx y hy
     ·exact pn.2 y hy) (by rw [List.length_append,pn.1];omega)
    have iN: ∀n:Nat,(n:Int).toNat=n:=Int.toNat_natCast
    rw [if_neg Bool.false_ne_true];unfold gb gd
    rw [if_pos (show (!decide ((s:Int)=0))=true by rw [Bool.not_eq_true',decide_eq_false_iff_not];omega),md,ea,if_pos f0,if_pos f1,iN,jm,Option.bind_some,ad,Option.bind_some,if_pos f0,if_pos f1,jt,Option.bind_some]
    dsimp only
    rw [ct,Option.bind_some,st,Option.bind_some]
    dsimp only
    rw [p4',if_neg Bool.false_ne_true]
    split<;>rfl
   | true=>
    dsimp only [cond_true]
    rw [if_pos rfl,sS]
    by_cases x0:x=[]
    ·rw [if_pos (by rw [decide_eq_true x0]),if_pos x0];rfl
    ·have xl:=List.length_pos_iff.2 x0
     rw [if_neg (by rw [decide_eq_false x0];decide),if_neg x0,stp x hx (by omega),Option.bind_some]
     dsimp only
     by_cases hz:x.length%s=0
     ·obtain ⟨o1,o2⟩:=zr P F h2 (dir:=true) hx hz
      have sx:s≤x.length:=Nat.le_of_dvd xl (Nat.dvd_of_mod_eq_zero hz)
      unfold AD
      generalize lD E s m true iv x=r at o1 o2
      obtain ⟨r1,r2⟩:=r
      dsimp only at o1 o2
      subst o1
      have lr:=o2.1
      have ea:ak (((il r1).length:Int)-(s:Int))=((r1.length-s:Nat):Int):=by rw [ag,cA (by omega) (by omega)];omega
      have f0:decide (0≤((r1.length-s:Nat):Int))=true:=by rw [decide_eq_true_eq];omega
      have f1:decide (((r1.length-s:Nat):Int)≤((il r1).length:Int))=true:=by rw [decide_eq_true_eq,ag];omega
      have bl:Bk s (r1.drop (r1.length-s)):=⟨by rw [List.length_drop];omega,fun y hy=>o2.2 y (List.mem_of_mem_drop hy)⟩
      have sr:=(wj s1 hp bl (k:=k) (by omega)).1
      have iN: ∀n:Nat,(n:Int).toNat=n:=Int.toNat_natCast
      dsimp only
      rw [if_neg (by decide),p4',if_neg Bool.false_ne_true,if_neg (by decide),ea];unfold gd
      rw [if_pos f0,if_pos f1,List.take_length,iN,jm,sr,Option.bind_some,if_neg (show ¬((0:Int)≠0) from fun h=>h rfl)]
      by_cases z:lF p (r1.drop (r1.length-s))=0
      ·rw [if_pos z,if_pos (by decide),if_pos z];rfl
      ·rw [if_neg z,if_neg z]
       dsimp only
       rw [if_neg (by decide),if_pos f0,if_pos f1,List.drop_zero,jt,zn (by rw [List.length_take];omega) (by rw [List.length_take,bl.1];omega) (by omega),Option.bind_some]
     ·rw [zt P F h2 hz];rfl
theorem NR {dir:Bool} {key:List Int} {x:List Nat} (hx: ∀y∈x,y<256) (hl:x.length≤1000) {k:Nat} (hk:40000≤k) (hn:aq.f k t key=some (some D,0)):
 gO.f k (t,(m:Int),(p:Int),dir) key (il iv) (il x)=some (il (wk E s m p dir iv x).1,(wk E s m p dir iv x).2):=by
 have h1:=F.m1
 have h9:=F.m9
 have p1:=F.p1
 have p4:=F.p4
 have mp:=F.mp
 have s1:=P.s1
 unfold gO.f
 rw [HU P F hn,Option.bind_some,if_neg (by decide),hn,Option.bind_some]
 dsimp only [oC]
 unfold wk
 by_cases h7:7≤m
 ·have hv:Bk s iv:=by have:=F.iv;unfold Iv at this;rwa [if_neg (by omega)] at this
  have st:=SX P (dir:=dir) (by omega:m=7∨m=8∨m=9) (pd:=(p:Int)) hv hx (by omega) (k:=k) (by omega)
  rw [if_pos h7,if_pos (by rw [decide_eq_true_eq];omega),st]
  by_cases g:x.length<s
  ·rw [if_pos g,if_pos g];rfl
  ·rw [if_neg g,if_neg g];rfl
 ·rw [if_neg h7,if_neg (by rw [decide_eq_true_eq];omega)]
  have nw:=(Dg P h1 (by omega) (dir:=dir) F.iv (k:=k)).2
  rw [(kK P k).2,Option.bind_some,nw,Option.bind_some]
  have stp: ∀y:List Nat,(∀z∈y,z<256)→y.length≤2000→ao.f k ((D.1,D.2.1,D.2.2.1,D.2.2.2.1,D.2.2.2.2.1,D.2.2.2.2.2),(m:Int),dir,il iv,[],0,[]) (il y)=some (il (lD E s m dir iv y).1,(lD E s m dir iv y).2):=fun y h1' h2'=>(Ay P h1 (by omega) (dir:=dir) F.iv h1' (by omega) (k:=k) (by omega)).2
  dsimp only
  by_cases e4:p=4
  ·rw [if_pos e4,if_pos (show ((p:Int)==4)=true by rw [e4];rfl),stp x hx (by omega),Option.bind_some]
  ·have h2:m≤2:=by omega
   have hp:p=1∨p=2∨p=3:=by omega
   have p4':((p:Int)==4)=false:=by rw [beq_eq_false_iff_ne];omega
   rw [if_neg e4,p4',if_neg Bool.false_ne_true]
   cases dir with
   | false=>
    have ml:=Nat.mod_lt x.length (by omega:s>0)
    have dm:=Nat.div_add_mod x.length s
    have td:ak (Int.tdiv ((il x).length:Int) (s:Int))=((x.length/s:Nat):Int):=by
     have:Int.tdiv ((il x).length:Int) (s:Int)=((x.length/s:Nat):Int):=by rw [ag];rfl
     rw [this];exact au (by have:=Nat.div_le_self x.length s;omega)
    have ea:ak (((x.length/s:Nat):Int)*(s:Int))=((x.length-x.length%s:Nat):Int):=by
     have e:((x.length/s:Nat):Int)*(s:Int)=((x.length-x.length%s:Nat):Int):=by
      rw [←Int.natCast_mul,Nat.mul_comm];congr 1;omega
     rw [e];exact au (by omega)
    have f0:decide (0≤((x.length-x.length%s:Nat):Int))=true:=by rw [decide_eq_true_eq];omega
    have f1:decide (((x.length-x.length%s:Nat):Int)≤((il x).length:Int))=true:=by rw [decide_eq_true_eq,ag];omega
    have ld:(x.drop (x.length-x.length%s)).length=x.length%s:=by rw [List.length_drop];have:=Nat.mod_le x.length s;omega
    have ad:=(Dh s1 hp (x:=x.drop (x.length-x.length%s)) (by rw [ld];exact ml) (k:=k) (by omega)).2
    rw [ld] at ad
    have pn:=ue hp (r:=s-x.length%s) (by omega) (by omega)
    have lt:(x.take (x.length-x.length%s)).length=x.length-x.length%s:=by rw [List.length_take];omega
    have ct:il (x.take (x.length-x.length%s))++il (x.drop (x.length-x.length%s)++nU p (s-x.length%s))=il (x++nU p (s-x.length%s)):=by
     rw [lE,←List.append_assoc,List.take_append_drop]
    have st:=stp (x++nU p (s-x.length%s)) (fun y hy=>by
     rcases List.mem_append.1 hy with hy | hy
     ·exact hx y hy
     ·exact pn.2 y hy) (by rw [List.length_append,pn.1];omega)
    have iN: ∀n:Nat,(n:Int).toNat=n:=Int.toNat_natCast
    rw [if_pos (by rfl)];unfold gb gd
    rw [if_pos (show (!decide ((s:Int)=0))=true by rw [Bool.not_eq_true',decide_eq_false_iff_not];omega),td,ea,if_pos f0,if_pos f1,iN,jm,Option.bind_some,ad,Option.bind_some,if_pos f0,if_pos f1,jt,Option.bind_some]
    dsimp only
    rw [if_pos (by rw [decide_eq_true_eq,ag,List.length_nil];omega),List.nil_append,if_pos (by rw [decide_eq_true_eq,ag,ag,List.length_append,ld,pn.1];omega),ct,st,Option.bind_some];rfl
   | true=>
    dsimp only [cond_true]
    have md:Int.tmod ((il x).length:Int) (s:Int)=((x.length%s:Nat):Int):=by rw [ag];rfl
    rw [if_neg (by decide),sS]
    by_cases x0:x=[]
    ·rw [if_pos (by rw [decide_eq_true x0]),if_pos x0];rfl
    ·have xl:=List.length_pos_iff.2 x0
     rw [if_neg (by rw [decide_eq_false x0];decide),if_neg x0,md];unfold gb
     rw [if_pos (show (!decide ((s:Int)=0))=true by rw [Bool.not_eq_true',decide_eq_false_iff_not];omega)]
     by_cases hz:x.length%s=0
     ·obtain ⟨o1,o2⟩:=zr P F h2 (dir:=true) hx hz
      have sx:s≤x.length:=Nat.le_of_dvd xl (Nat.dvd_of_mod_eq_zero hz)
      rw [if_neg (by rw [hz];decide),stp x hx (by omega),Option.bind_some]
      unfold AD
      generalize lD E s m true iv x=r at o1 o2
      obtain ⟨r1,r2⟩:=r
      dsimp only at o1 o2
      subst o1
      have lr:=o2.1
      have ea:ak (((il r1).length:Int)-(s:Int))=((r1.length-s:Nat):Int):=by rw [ag,cA (by omega) (by omega)];omega
      have f0:decide (0≤((r1.length-s:Nat):Int))=true:=by rw [decide_eq_true_eq];omega
      have f1:decide (((r1.length-s:Nat):Int)≤((il r1).length:Int))=true:=by rw [decide_eq_true_eq,ag];omega
      have bl:Bk s (r1.drop (r1.length-s)):=⟨by rw [List.length_drop];omega,fun y hy=>o2.2 y (List.mem_of_mem_drop hy)⟩
      have sr:=(wj s1 hp bl (k:=k) (by omega)).2
      have iN: ∀n:Nat,(n:Int).toNat=n:=Int.toNat_natCast
      dsimp only
      rw [ea];unfold gd
      rw [if_pos f0,if_pos f1,List.take_length,iN,jm,sr,Option.bind_some,if_neg (show ¬((0:Int)≠0) from fun h=>h rfl)]
      by_cases z:lF p (r1.drop (r1.length-s))=0
      ·rw [if_pos z,if_pos (by decide),if_pos z];rfl
      ·rw [if_neg z,if_neg z]
       dsimp only
       rw [if_neg (by decide),if_pos f0,if_pos f1,jt,if_pos (by rw [decide_eq_true_eq,ag,ag,List.length_take,List.length_take];omega),lE]
     ·rw [if_pos (by rw [bne_iff_ne];omega),zt P F h2 hz];rfl
end
theorem xU {a n:Int} (h:0<n) (h1:n<1000000) (k:Nat):ff.f k a n=some (a%n)∧eq.f k a n=some (a%n):=by
 have t:=Gs a n h
 have l0:=Int.emod_nonneg a (show n≠0 by omega)
 have l1:=Int.emod_lt_of_pos a h
 have g:(!decide (n=0))=true:=by rw [Bool.not_eq_true',decide_eq_false_iff_not];omega
 have e:(if decide (Int.tmod a n<0)=true then some (ak (Int.tmod a n+n)) else some (Int.tmod a n))=some (a%n):=by
  by_cases z:Int.tmod a n<0
  ·rw [if_pos z] at t
   rw [if_pos (by rw [decide_eq_true_eq];exact z),t,cA (by omega) (by omega)]
  ·rw [if_neg z] at t
   rw [if_neg (by rw [decide_eq_true_eq];exact z),t]
 unfold ff.f eq.f gb
 rw [if_pos g,e];exact ⟨rfl,rfl⟩
theorem NS {n:Nat} (hn:n≤100) (d:Nat): ∀ {i:Nat} {x:List Nat},i+d=n→Bk n x→ ∃o,Bk n o∧ ∀k,d<k→bT.l0 k (n:Int) (il x) (i:Int)=some (il o):=by
 induction d with
 | zero=>
  intro i x hi hx
  refine ⟨x,hx,fun k hk=> ?_⟩
  obtain ⟨k,rfl⟩: ∃j,k=j+1:=⟨k-1,by omega⟩
  rw [bT.l0,if_neg (by rw [decide_eq_true_eq];omega)]
 | succ d ih=>
  intro i x hi hx
  have e1:ak ((i:Int)*37)=((i*37:Nat):Int):=au (n:=i*37) (by omega)
  have e2:U8 ((i*37:Nat):Int)=((i*37%256:Nat):Int):=iR _
  have a2:ak ((i:Int)+1)=((i+1:Nat):Int):=au (n:=i+1) (by omega)
  obtain ⟨o,ho,hk⟩:=ih (i:=i+1) (x:=x.set i (i*37%256)) (by omega) ⟨by rw [List.length_set];exact hx.1,fun v hv=>by
   rcases List.mem_or_eq_of_mem_set hv with hv | rfl
   ·exact hx.2 v hv
   ·exact Nat.mod_lt _ (by decide)⟩
  refine ⟨o,ho,fun k hk'=> ?_⟩
  obtain ⟨k,rfl⟩: ∃j,k=j+1:=⟨k-1,by omega⟩
  rw [bT.l0,if_pos (by rw [decide_eq_true_eq];omega)];unfold gd
  rw [if_pos (by rw [decide_eq_true_eq];omega),if_pos (by rw [decide_eq_true_eq,ag,hx.1];omega),e1,e2,a2,Int.toNat_natCast,kw]
  exact hk k (by omega)
theorem HV {n:Nat} (hn:n≤100) {l:List Nat} (hl: ∀y∈l,y<256) (h100:l.length≤100): ∃o,Bk n o∧ ∀k,200≤k→bT.f k (n:Int) (il l)=some (il o):=by
 have mn:Nat.min (il l).length (List.replicate ((n:Int)).toNat (0:Int)).length=min l.length n:=by rw [ag,List.length_replicate,Int.toNat_natCast]
 have bx:Bk n (l.take (min l.length n)++List.replicate (n-min l.length n) 0):=⟨by rw [List.length_append,List.length_take,List.length_replicate];omega,fun v hv=>by
  rcases List.mem_append.1 hv with hv | hv
  ·exact hl v (List.mem_of_mem_take hv)
  ·rw [List.eq_of_mem_replicate hv];decide⟩
 have ex:(il l).take (min l.length n)++(List.replicate ((n:Int)).toNat (0:Int)).drop (min l.length n)=il (l.take (min l.length n)++List.replicate (n-min l.length n) 0):=by
  rw [Int.toNat_natCast,jt,List.drop_replicate,kJ,lE]
 have st: ∃o,Bk n o∧ ∀k,200≤k→bT.l0 k (n:Int) (il (l.take (min l.length n)++List.replicate (n-min l.length n) 0)) (l.length:Int)=some (il o):=by
  by_cases h:l.length≤n
  ·obtain ⟨o,h1,h2⟩:=NS hn (n-l.length) (i:=l.length) (by omega) bx
   exact ⟨o,h1,fun k hk=>h2 k (by omega)⟩
  ·refine ⟨_,bx,fun k hk=> ?_⟩
   obtain ⟨k,rfl⟩: ∃j,k=j+1:=⟨k-1,by omega⟩
   rw [bT.l0,if_neg (by rw [decide_eq_true_eq];omega)]
 obtain ⟨o,h1,h2⟩:=st
 refine ⟨o,h1,fun k hk=> ?_⟩
 unfold bT.f gd
 rw [if_pos (by rw [decide_eq_true_eq];omega),if_pos (by rw [decide_eq_true_eq];omega),mn,Option.bind_some,ex,ag]
 exact h2 k hk
theorem NT {t:Int} (h1:1≤t) (h8:t≤8): ∃(L:List Nat) (s:Nat),0<L.length∧L.length≤3∧(∀k,bP.f k t=some (il L))∧(∀k,dq.f k t=some (s:Int))∧(s=8∨s=16)∧ ∀n∈L,n≤32∧Vk t n s:=by
 have:t=1∨t=2∨t=3∨t=4∨t=5∨t=6∨t=7∨t=8:=by omega
 rcases this with rfl | rfl | rfl | rfl | rfl | rfl | rfl | rfl
 ·exact ⟨[8],8,by decide,by decide,fun _=>rfl,fun _=>rfl,.inl rfl,fun n hn=>by have e:n=8:=(by simpa using hn);subst e;exact ⟨by decide,(.inl ⟨rfl,rfl,rfl⟩)⟩⟩
 ·exact ⟨[16,24],8,by decide,by decide,fun _=>rfl,fun _=>rfl,.inl rfl,fun n hn=>by have e:n=16∨n=24:=(by simpa using hn);exact ⟨by omega,(.inr (.inl ⟨rfl,e,rfl⟩))⟩⟩
 ·exact ⟨[16],8,by decide,by decide,fun _=>rfl,fun _=>rfl,.inl rfl,fun n hn=>by have e:n=16:=(by simpa using hn);subst e;exact ⟨by decide,(.inr (.inr (.inl ⟨rfl,rfl,rfl⟩)))⟩⟩
 ·exact ⟨[16],8,by decide,by decide,fun _=>rfl,fun _=>rfl,.inl rfl,fun n hn=>by have e:n=16:=(by simpa using hn);subst e;exact ⟨by decide,(.inr (.inr (.inr (.inl ⟨rfl,rfl,rfl⟩))))⟩⟩
 ·exact ⟨[32],8,by decide,by decide,fun _=>rfl,fun _=>rfl,.inl rfl,fun n hn=>by have e:n=32:=(by simpa using hn);subst e;exact ⟨by decide,(.inr (.inr (.inr (.inr (.inr (.inl ⟨rfl,rfl,rfl⟩))))))⟩⟩
 ·exact ⟨[16,24,32],16,by decide,by decide,fun _=>rfl,fun _=>rfl,.inr rfl,fun n hn=>by have e:n=16∨n=24∨n=32:=(by simpa using hn);exact ⟨by omega,(.inr (.inr (.inr (.inr (.inr (.inr (.inl ⟨rfl,e,rfl⟩)))))))⟩⟩
 ·exact ⟨[16,24,32],16,by decide,by decide,fun _=>rfl,fun _=>rfl,.inr rfl,fun n hn=>by have e:n=16∨n=24∨n=32:=(by simpa using hn);exact ⟨by omega,(.inr (.inr (.inr (.inr (.inr (.inr (.inr ⟨rfl,e,rfl⟩)))))))⟩⟩
 ·exact ⟨[16],8,by decide,by decide,fun _=>rfl,fun _=>rfl,.inl rfl,fun n hn=>by have e:n=16:=(by simpa using hn);subst e;exact ⟨by decide,(.inr (.inr (.inr (.inr (.inl ⟨rfl,rfl,rfl⟩)))))⟩⟩
theorem HW {a b d:Int} {i:Nat} (hi:i<9) {dir:Bool} {ky vb:List Nat} (hk: ∀y∈ky,y<256) (hv: ∀y∈vb,y<256) (lk:ky.length≤100) (lv:vb.length≤100):
 ∃(t:Int) (s p:Nat) (key iv:List Nat),Vk t key.length s∧(∀y∈key,y<256)∧SZ s (i+1) p iv∧ ∀k,1000≤k→eF.f k (a,b,(i:Int),d,dir,il ky,il vb)=some ((t,((i+1:Nat):Int),(p:Int),dir),il key,il iv):=by
 have ha:=Int.emod_nonneg a (show (8:Int)≠0 by decide)
 have ha8:=Int.emod_lt_of_pos a (show (0:Int)<8 by decide)
 obtain ⟨L,s,L0,L3,eL,eS,hs,hL⟩:=NT (t:=1+a%8) (by omega) (by omega)
 have tag: ∀k,g8.f k a=some (1+a%8):=fun k=>by
  unfold g8.f
  rw [(xU (by decide) (by decide) k).1,Option.bind_some,cA (by omega) (by omega)]
 have hb:=Int.emod_nonneg b (show (L.length:Int)≠0 by omega)
 have hb3:=Int.emod_lt_of_pos b (show (0:Int)<(L.length:Int) by omega)
 obtain ⟨j,hj⟩: ∃j:Nat,b%(L.length:Int)=(j:Int):=⟨(b%(L.length:Int)).toNat,by omega⟩
 have jl:j<L.length:=by omega
 have mem:L.getD j 0∈L:=by rw [List.getD_eq_getElem?_getD,List.getElem?_eq_getElem jl];exact List.getElem_mem jl
 obtain ⟨n32,vk⟩:=hL _ mem
 obtain ⟨key,bk,ek⟩:=HV (n:=L.getD j 0) (by omega) hk lk
 have kyf: ∀k,200≤k→gq.f k (1+a%8) b (il ky)=some (il key):=fun k hk'=>by
  unfold gq.f gd
  rw [eL,Option.bind_some,ag,(xU (by omega) (by omega) k).1,Option.bind_some,hj,if_pos (by rw [decide_eq_true_eq];omega),if_pos (by rw [decide_eq_true_eq];omega),bf,ek k hk',Option.bind_some]
 obtain ⟨ivb,bi,ei⟩:=HV (n:=s) (by omega) hv lv
 have ivf: ∃iv,Iv s (i+1) iv∧ ∀k,200≤k→gQ.f k ((i+1:Nat):Int) (s:Int) (il vb)=some (il iv):=by
  by_cases e:i=0
  ·subst e;exact ⟨[],rfl,fun k _=>rfl⟩
  ·refine ⟨ivb,by unfold Iv;rw [if_neg (by omega)];exact bi,fun k hk'=> ?_⟩
   unfold gQ.f
   rw [if_neg (by rw [beq_iff_eq];omega),ei k hk',Option.bind_some]
 obtain ⟨iv,hiv,eiv⟩:=ivf
 have w9: ∀k,eq.f k (i:Int) 9=some (i:Int):=fun k=>by
  rw [(xU (by decide) (by decide) k).2];congr 1;omega
 have i1:ak (1+(i:Int))=((i+1:Nat):Int):=by rw [cA (by omega) (by omega)];omega
 have hd:=Int.emod_nonneg d (show (4:Int)≠0 by decide)
 have hd4:=Int.emod_lt_of_pos d (show (0:Int)<4 by decide)
 obtain ⟨q,hq⟩: ∃q:Nat,d%4=(q:Int):=⟨(d%4).toNat,by omega⟩
 have kl:key.length=L.getD j 0:=bk.1
 by_cases h2:i+1≤2
 ·refine ⟨1+a%8,s,q+1,key,iv,by rw [kl];exact vk,bk.2,⟨by omega,by omega,by omega,by omega,.inr h2,hiv⟩,fun k hk'=> ?_⟩
  have q1:ak (1+(q:Int))=((q+1:Nat):Int):=by rw [cA (by omega) (by omega)];omega
  unfold eF.f
  dsimp only
  rw [tag,Option.bind_some,w9,Option.bind_some,i1,if_pos (by rw [decide_eq_true_eq];omega),(xU (by decide) (by decide) k).2,Option.bind_some,hq,q1,kyf k (by omega),Option.bind_some,eS,Option.bind_some,eiv k (by omega),Option.bind_some]
 ·refine ⟨1+a%8,s,4,key,iv,by rw [kl];exact vk,bk.2,⟨by omega,by omega,by omega,by omega,.inl rfl,hiv⟩,fun k hk'=> ?_⟩
  unfold eF.f
  dsimp only
  rw [tag,Option.bind_some,w9,Option.bind_some,i1,if_neg (by rw [decide_eq_true_eq];omega),kyf k (by omega),Option.bind_some,eS,Option.bind_some,eiv k (by omega),Option.bind_some];rfl
theorem NU {a b c d:Int} {dir:Bool} {ky vb x:List Nat} (hk: ∀y∈ky,y<256) (hv: ∀y∈vb,y<256) (hx: ∀y∈x,y<256) (lk:ky.length≤100) (lv:vb.length≤100) (lx:x.length≤100) (n:Nat): ∀ {i:Nat} (w:Int),i+n=9→ ∀k,50000+n<k→
 cM.l0 k (a,b,c,d,dir,il ky,il vb) (il x) w (i:Int)=some true:=by
 induction n with
 | zero=>
  intro i w hi k hk'
  obtain ⟨k,rfl⟩: ∃j,k=j+1:=⟨k-1,by omega⟩
  rw [cM.l0,if_neg (by rw [decide_eq_true_eq];omega)]
 | succ n ih=>
  intro i w hi k hk'
  obtain ⟨k,rfl⟩: ∃j,k=j+1:=⟨k-1,by omega⟩
  obtain ⟨t,s,p,key,iv,vk,kb,F,mk⟩:=HW (a:=a) (b:=b) (d:=d) (i:=i) (by omega) (dir:=dir) hk hv lk lv
  obtain ⟨C,D,E,P,nw⟩:=SP vk kb
  obtain ⟨n1,n2⟩:=nw k (by omega)
  have sp:=NQ P F (dir:=dir) (key:=il key) hx (by omega) (k:=k) (by omega) n1
  have sr:=NR P F (dir:=dir) (key:=il key) hx (by omega) (k:=k) (by omega) n2
  have a2:ak ((i:Int)+1)=((i+1:Nat):Int):=au (n:=i+1) (by omega)
  rw [cM.l0,if_pos (by rw [decide_eq_true_eq];omega)]
  dsimp only
  rw [mk k (by omega),Option.bind_some]
  dsimp only
  rw [sp,Option.bind_some,sr,Option.bind_some,if_neg (by simp),if_neg (by simp),a2]
  exact ih _ (by omega) k (by omega)
theorem Kj (j:Nat):gZ.f (j+400)=some true:=by kernel_rfl
theorem AF {a b c d:Int} {dir:Bool} {ky vb x:List Int} (hk: ∀y∈ky,In .u8 y) (hv: ∀y∈vb,In .u8 y) (hx: ∀y∈x,In .u8 y) {k:Nat} (h:60000≤k):cM.f k (a,b,c,d,dir,ky,vb) x=some true:=by
 obtain ⟨ky,rfl,hk2⟩:=Gt hk
 obtain ⟨vb,rfl,hv2⟩:=Gt hv
 obtain ⟨x,rfl,hx2⟩:=Gt hx
 have kn:gZ.f k=some true:=by
  obtain ⟨j,rfl⟩: ∃j,k=j+400:=⟨k-400,by omega⟩
  exact Kj j
 unfold cM.f
 rw [kn,Option.bind_some,if_neg (by decide),ag]
 by_cases lx:x.length≤100
 ·rw [if_neg (by rw [decide_eq_true_eq];omega)]
  unfold fZ.f
  dsimp only
  rw [ag,ag]
  by_cases lk:ky.length≤100
  ·rw [if_pos (by rw [decide_eq_true_eq];omega),Option.bind_some]
   by_cases lv:vb.length≤100
   ·rw [decide_eq_true (by omega),if_neg (by decide)]
    exact NU hk2 hv2 hx2 lk lv lx 9 (i:=0) _ (by omega) k (by omega)
   ·rw [decide_eq_false (by omega),if_pos (by decide)]
  ·rw [if_neg (by rw [decide_eq_true_eq];omega),Option.bind_some,if_pos (by decide)]
 ·rw [if_pos (by rw [decide_eq_true_eq];omega)]
end Go.Scr.S
