/- The plain law: the ciphers, the modes, the contexts of both sides are one. -/
import Derived.Test.YtdemmfohkhpklaaGreatDoorFp
import Derived.Test.YtdemmfohkhpklaaGreatDoorLa
import Derived.Test.YtdemmfohkhpklaaGreatDoorLb
import Derived.Test.YtdemmfohkhpklaaGreatDoorLc
import Derived.Test.YtdemmfohkhpklaaGreatDoorXp
set_option linter.unusedVariables false
set_option linter.unusedSimpArgs false
set_option linter.unnecessarySimpa false
set_option linter.unusedSectionVars false
namespace Go.Scr.S
abbrev DT:Type:=Int×(Option (List (List (List Int))))×(Option (List Int))×(Option (Int×(List Int)))×(Option ((List Int)×(List Int)))×(Option ((List (List Int))×(List (List Int))))
def Bk (s:Nat) (b:List Nat):Prop:=b.length=s∧ ∀x∈b,x<256
theorem HI {s:Nat} {A:Nat→Bool→List Nat→List Nat→Prop} (law: ∀dir b,b.length=s→(∀x∈b,x<256)→ ∃o:List Nat,o.length=s∧(∀x∈o,x<256)∧ ∀k,3000≤k→A k dir b o):
 ∃E:Bool→List Nat→List Nat,∀dir b,Bk s b→Bk s (E dir b)∧ ∀k,3000≤k→A k dir b (E dir b):=by
 classical
 refine ⟨fun dir b=>if h:Bk s b then Classical.choose (law dir b h.1 h.2) else [],fun dir b h=> ?_⟩
 have:=Classical.choose_spec (law dir b h.1 h.2)
 simp only [h,dif_pos]
 exact ⟨⟨this.1,this.2.1⟩,this.2.2⟩
structure Pr (t:Int) (s:Nat) (C:Int×Tn) (D:DT) (E:Bool→List Nat→List Nat):Prop where
 s1:s=8∨s=16
 ct:C.1=t
 dt:D.1=t
 cs: ∀k,ie.f k t=some (s:Int)
 ds: ∀k,dq.f k t=some (s:Int)
 ok: ∀dir b,Bk s b→Bk s (E dir b)
 en: ∀k b,3000≤k→Bk s b→bK.f k C (il b)=some (il (E false b),0)
 de: ∀k b,3000≤k→Bk s b→bV.f k C (il b)=some (il (E true b),0)
 bl: ∀k dir b,3000≤k→Bk s b→bG.f k D (il b) dir=some (il (E dir b),0)
def Vk (t:Int) (n s:Nat):Prop:=
 (t=1∧n=8∧s=8)∨(t=2∧(n=16∨n=24)∧s=8)∨(t=3∧n=16∧s=8)∨(t=4∧n=16∧s=8)∨(t=8∧n=16∧s=8)∨(t=5∧n=32∧s=8)∨(t=6∧(n=16∨n=24∨n=32)∧s=16)∨(t=7∧(n=16∨n=24∨n=32)∧s=16)
def Ef (t:Int) (m:List Nat) (s:Nat):Prop:= ∃C D E,Pr t s C D E∧ ∀k,3100≤k→eJ.f k t (il m)=some (some C,0)∧aq.f k t (il m)=some (some D,0)
section
variable {a:List Int}
theorem TI {t:Int} (h:(t=1∧a.length=8)∨(t=2∧a.length=16)∨(t=2∧a.length=24)) {k:Nat}:eJ.f (k+20) t a=((gP.f (k+20) a).bind fun r=>oC r.1 none fun z=>some (some (t,.m0 z),0)):=by
 unfold eJ.f
 rcases h with ⟨rfl,h⟩ | ⟨rfl,h⟩ | ⟨rfl,h⟩<;>rw [h]<;>exact Eq.trans (by kernel_rfl) (Eq.refl _)
theorem TJ (h:a.length=16) {k:Nat}:eJ.f (k+20) 3 a=((ki.f (k+20) a).bind fun r=>oC r.1 none fun z=>some (some (3,.m1 z),0)):=by
 unfold eJ.f
 rw [h];exact Eq.trans (by kernel_rfl) (Eq.refl _)
theorem TK (h:a.length=16∨a.length=24∨a.length=32) {k:Nat}:eJ.f (k+20) 6 a=((iz.f (k+20) a).bind fun r=>oC r.1 none fun z=>some (some (6,.m2 z),0)):=by
 unfold eJ.f
 rcases h with h | h | h<;>rw [h]<;>exact Eq.trans (by kernel_rfl) (Eq.refl _)
theorem TM (h:a.length=16∨a.length=24∨a.length=32) {k:Nat}:eJ.f (k+20) 7 a=((jV.f (k+20) a).bind fun r=>oC r.1 none fun z=>some (some (7,.m3 z),0)):=by
 unfold eJ.f
 rcases h with h | h | h<;>rw [h]<;>exact Eq.trans (by kernel_rfl) (Eq.refl _)
theorem TN {t:Int} (h:(t=4∧a.length=16)∨(t=5∧a.length=32)∨(t=8∧a.length=16)) {k:Nat}:eJ.f (k+20) t a=((ig.f (k+20) t a).bind fun r=>oC r.1 none fun z=>some (some (t,.m4 z),0)):=by
 unfold eJ.f
 rcases h with ⟨rfl,h⟩ | ⟨rfl,h⟩ | ⟨rfl,h⟩<;>rw [h]<;>exact Eq.trans (by kernel_rfl) (Eq.refl _)
theorem mR {t:Int} {L:List Int} {x:Bool} {i k:Nat} (hi:i<L.length) (h4:L.length<10):aq.l0 (k+1) t a L x (i:Int)=aq.l0 k t a L (x ||(rd L (i:Int)==(a.length:Int))) ((i+1:Nat):Int):=by
 have a2:ak ((i:Int)+1)=((i+1:Nat):Int):=au (n:=i+1) (by omega)
 have c1:decide ((i:Int)<(L.length:Int))=true:=by rw [decide_eq_true_eq];omega
 cases x with
 | true=>rw [aq.l0,if_pos c1,if_pos rfl,a2];rfl
 | false=>
  rw [aq.l0,if_pos c1,if_neg Bool.false_ne_true];unfold gd
  rw [if_pos (by rw [decide_eq_true_eq];omega),if_pos c1,a2];rfl
theorem sR {t:Int} {L:List Int} {k:Nat} {n:Int} (hn:n=(L.length:Int)):aq.l0 (k+1) t a L true n=(if (t==1)=true then (bM.f k a).bind fun F5=>oC F5.1 (some (some (t,none,none,none,none,none),0)) fun F6=>some (some (t,some F6,none,none,none,none),0) else if (t==2)=true then (bM.f k a).bind fun yQ=>oC yQ.1 (some (some (t,none,none,none,none,none),0)) fun F7=>some (some (t,some F7,none,none,none,none),0) else if (t==3)=true then (gz.f k a).bind fun F8=>oC F8.1 (some (some (t,none,none,none,none,none),0)) fun F9=>some (some (t,none,some F9,none,none,none),0) else if (t==6)=true then (gB.f k a).bind fun Ga=>oC Ga.1 (some (some (t,none,none,none,none,none),0)) fun Gb=>some (some (t,none,none,none,some Gb,none),0) else if (t==7)=true then (fu.f k a).bind fun uI=>oC uI.1 (some (some (t,none,none,none,none,none),0)) fun zV=>some (some (t,none,none,none,none,some zV),0) else (eH.f k t a).bind fun zW=>oC zW.1 (some (some (t,none,none,none,none,none),0)) fun zX=>some (some (t,none,none,some zX,none,none),0)):=by
 rw [aq.l0,if_neg (by rw [decide_eq_true_eq];omega),if_neg (by decide)]
theorem TO {t:Int} (h:(t=1∧a.length=8)∨(t=2∧a.length=16)∨(t=2∧a.length=24)) {k:Nat}: ∃j,k≤j∧aq.f (k+20) t a=((bM.f j a).bind fun r=>oC r.1 (some (some (t,none,none,none,none,none),0)) fun z=>some (some (t,some z,none,none,none,none),0)):=by
 rcases h with ⟨rfl,h⟩ | ⟨rfl,h⟩ | ⟨rfl,h⟩
 ·refine ⟨k+18,by omega,?_⟩
  have q:aq.f (k+20) 1 a=aq.l0 (k+19+1) 1 a [8] false ((0:Nat):Int):=by
   unfold aq.f
   rw [show bP.f (k+20) 1=some [8] from rfl,Option.bind_some,if_neg (by decide)];rfl
  rw [q,mR (i:=0) (k:=k+19) (by decide) (by decide),h,show (false ||(rd ([8]:List Int) ((0:Nat):Int)==((8:Nat):Int)))=true from rfl,show k+19=k+18+1 from rfl,sR (n:=((0+1:Nat):Int)) rfl,if_pos (by decide)]
 ·refine ⟨k+17,by omega,?_⟩
  have q:aq.f (k+20) 2 a=aq.l0 (k+19+1) 2 a [16,24] false ((0:Nat):Int):=by
   unfold aq.f
   rw [show bP.f (k+20) 2=some [16,24] from rfl,Option.bind_some,if_neg (by decide)];rfl
  rw [q,mR (i:=0) (k:=k+19) (by decide) (by decide),show k+19=k+18+1 from rfl,mR (i:=0+1) (k:=k+18) (by decide) (by decide),h,show ((false ||(rd ([16,24]:List Int) ((0:Nat):Int)==((16:Nat):Int))) ||(rd ([16,24]:List Int) ((0+1:Nat):Int)==((16:Nat):Int)))=true from rfl,show k+18=k+17+1 from rfl,sR (n:=((0+1+1:Nat):Int)) rfl,if_neg (by decide),if_pos (by decide)]
 ·refine ⟨k+17,by omega,?_⟩
  have q:aq.f (k+20) 2 a=aq.l0 (k+19+1) 2 a [16,24] false ((0:Nat):Int):=by
   unfold aq.f
   rw [show bP.f (k+20) 2=some [16,24] from rfl,Option.bind_some,if_neg (by decide)];rfl
  rw [q,mR (i:=0) (k:=k+19) (by decide) (by decide),show k+19=k+18+1 from rfl,mR (i:=0+1) (k:=k+18) (by decide) (by decide),h,show ((false ||(rd ([16,24]:List Int) ((0:Nat):Int)==((24:Nat):Int))) ||(rd ([16,24]:List Int) ((0+1:Nat):Int)==((24:Nat):Int)))=true from rfl,show k+18=k+17+1 from rfl,sR (n:=((0+1+1:Nat):Int)) rfl,if_neg (by decide),if_pos (by decide)]
theorem TP {t:Int} (h:(t=3∧a.length=16)) {k:Nat}: ∃j,k≤j∧aq.f (k+20) t a=((gz.f j a).bind fun r=>oC r.1 (some (some (t,none,none,none,none,none),0)) fun z=>some (some (t,none,some z,none,none,none),0)):=by
 obtain ⟨rfl,h⟩:=h
 refine ⟨k+18,by omega,?_⟩
 have q:aq.f (k+20) 3 a=aq.l0 (k+19+1) 3 a [16] false ((0:Nat):Int):=by
  unfold aq.f
  rw [show bP.f (k+20) 3=some [16] from rfl,Option.bind_some,if_neg (by decide)];rfl
 rw [q,mR (i:=0) (k:=k+19) (by decide) (by decide),h,show (false ||(rd ([16]:List Int) ((0:Nat):Int)==((16:Nat):Int)))=true from rfl,show k+19=k+18+1 from rfl,sR (n:=((0+1:Nat):Int)) rfl,if_neg (by decide),if_neg (by decide),if_pos (by decide)]
theorem TQ {t:Int} (h:(t=6∧a.length=16)∨(t=6∧a.length=24)∨(t=6∧a.length=32)) {k:Nat}: ∃j,k≤j∧aq.f (k+20) t a=((gB.f j a).bind fun r=>oC r.1 (some (some (t,none,none,none,none,none),0)) fun z=>some (some (t,none,none,none,some z,none),0)):=by
 rcases h with ⟨rfl,h⟩ | ⟨rfl,h⟩ | ⟨rfl,h⟩
 ·refine ⟨k+16,by omega,?_⟩
  have q:aq.f (k+20) 6 a=aq.l0 (k+19+1) 6 a [16,24,32] false ((0:Nat):Int):=by
   unfold aq.f
   rw [show bP.f (k+20) 6=some [16,24,32] from rfl,Option.bind_some,if_neg (by decide)];rfl
  rw [q,mR (i:=0) (k:=k+19) (by decide) (by decide),show k+19=k+18+1 from rfl,mR (i:=0+1) (k:=k+18) (by decide) (by decide),show k+18=k+17+1 from rfl,mR (i:=0+1+1) (k:=k+17) (by decide) (by decide),h,show (((false ||(rd ([16,24,32]:List Int) ((0:Nat):Int)==((16:Nat):Int))) ||(rd ([16,24,32]:List Int) ((0+1:Nat):Int)==((16:Nat):Int))) ||(rd ([16,24,32]:List Int) ((0+1+1:Nat):Int)==((16:Nat):Int)))=true from rfl,show k+17=k+16+1 from rfl,sR (n:=((0+1+1+1:Nat):Int)) rfl,if_neg (by decide),if_neg (by decide),if_neg (by decide),if_pos (by decide)]
 ·refine ⟨k+16,by omega,?_⟩
  have q:aq.f (k+20) 6 a=aq.l0 (k+19+1) 6 a [16,24,32] false ((0:Nat):Int):=by
   unfold aq.f
   rw [show bP.f (k+20) 6=some [16,24,32] from rfl,Option.bind_some,if_neg (by decide)];rfl
  rw [q,mR (i:=0) (k:=k+19) (by decide) (by decide),show k+19=k+18+1 from rfl,mR (i:=0+1) (k:=k+18) (by decide) (by decide),show k+18=k+17+1 from rfl,mR (i:=0+1+1) (k:=k+17) (by decide) (by decide),h,show (((false ||(rd ([16,24,32]:List Int) ((0:Nat):Int)==((24:Nat):Int))) ||(rd ([16,24,32]:List Int) ((0+1:Nat):Int)==((24:Nat):Int))) ||(rd ([16,24,32]:List Int) ((0+1+1:Nat):Int)==((24:Nat):Int)))=true from rfl,show k+17=k+16+1 from rfl,sR (n:=((0+1+1+1:Nat):Int)) rfl,if_neg (by decide),if_neg (by decide),if_neg (by decide),if_pos (by decide)]
 ·refine ⟨k+16,by omega,?_⟩
  have q:aq.f (k+20) 6 a=aq.l0 (k+19+1) 6 a [16,24,32] false ((0:Nat):Int):=by
   unfold aq.f
   rw [show bP.f (k+20) 6=some [16,24,32] from rfl,Option.bind_some,if_neg (by decide)];rfl
  rw [q,mR (i:=0) (k:=k+19) (by decide) (by decide),show k+19=k+18+1 from rfl,mR (i:=0+1) (k:=k+18) (by decide) (by decide),show k+18=k+17+1 from rfl,mR (i:=0+1+1) (k:=k+17) (by decide) (by decide),h,show (((false ||(rd ([16,24,32]:List Int) ((0:Nat):Int)==((32:Nat):Int))) ||(rd ([16,24,32]:List Int) ((0+1:Nat):Int)==((32:Nat):Int))) ||(rd ([16,24,32]:List Int) ((0+1+1:Nat):Int)==((32:Nat):Int)))=true from rfl,show k+17=k+16+1 from rfl,sR (n:=((0+1+1+1:Nat):Int)) rfl,if_neg (by decide),if_neg (by decide),if_neg (by decide),if_pos (by decide)]
theorem TR {t:Int} (h:(t=7∧a.length=16)∨(t=7∧a.length=24)∨(t=7∧a.length=32)) {k:Nat}: ∃j,k≤j∧aq.f (k+20) t a=((fu.f j a).bind fun r=>oC r.1 (some (some (t,none,none,none,none,none),0)) fun z=>some (some (t,none,none,none,none,some z),0)):=by
 rcases h with ⟨rfl,h⟩ | ⟨rfl,h⟩ | ⟨rfl,h⟩
 ·refine ⟨k+16,by omega,?_⟩
  have q:aq.f (k+20) 7 a=aq.l0 (k+19+1) 7 a [16,24,32] false ((0:Nat):Int):=by
   unfold aq.f
   rw [show bP.f (k+20) 7=some [16,24,32] from rfl,Option.bind_some,if_neg (by decide)];rfl
  rw [q,mR (i:=0) (k:=k+19) (by decide) (by decide),show k+19=k+18+1 from rfl,mR (i:=0+1) (k:=k+18) (by decide) (by decide),show k+18=k+17+1 from rfl,mR (i:=0+1+1) (k:=k+17) (by decide) (by decide),h,show (((false ||(rd ([16,24,32]:List Int) ((0:Nat):Int)==((16:Nat):Int))) ||(rd ([16,24,32]:List Int) ((0+1:Nat):Int)==((16:Nat):Int))) ||(rd ([16,24,32]:List Int) ((0+1+1:Nat):Int)==((16:Nat):Int)))=true from rfl,show k+17=k+16+1 from rfl,sR (n:=((0+1+1+1:Nat):Int)) rfl,if_neg (by decide),if_neg (by decide),if_neg (by decide),if_neg (by decide),if_pos (by decide)]
 ·refine ⟨k+16,by omega,?_⟩
  have q:aq.f (k+20) 7 a=aq.l0 (k+19+1) 7 a [16,24,32] false ((0:Nat):Int):=by
   unfold aq.f
   rw [show bP.f (k+20) 7=some [16,24,32] from rfl,Option.bind_some,if_neg (by decide)];rfl
  rw [q,mR (i:=0) (k:=k+19) (by decide) (by decide),show k+19=k+18+1 from rfl,mR (i:=0+1) (k:=k+18) (by decide) (by decide),show k+18=k+17+1 from rfl,mR (i:=0+1+1) (k:=k+17) (by decide) (by decide),h,show (((false ||(rd ([16,24,32]:List Int) ((0:Nat):Int)==((24:Nat):Int))) ||(rd ([16,24,32]:List Int) ((0+1:Nat):Int)==((24:Nat):Int))) ||(rd ([16,24,32]:List Int) ((0+1+1:Nat):Int)==((24:Nat):Int)))=true from rfl,show k+17=k+16+1 from rfl,sR (n:=((0+1+1+1:Nat):Int)) rfl,if_neg (by decide),if_neg (by decide),if_neg (by decide),if_neg (by decide),if_pos (by decide)]
 ·refine ⟨k+16,by omega,?_⟩
  have q:aq.f (k+20) 7 a=aq.l0 (k+19+1) 7 a [16,24,32] false ((0:Nat):Int):=by
   unfold aq.f
   rw [show bP.f (k+20) 7=some [16,24,32] from rfl,Option.bind_some,if_neg (by decide)];rfl
  rw [q,mR (i:=0) (k:=k+19) (by decide) (by decide),show k+19=k+18+1 from rfl,mR (i:=0+1) (k:=k+18) (by decide) (by decide),show k+18=k+17+1 from rfl,mR (i:=0+1+1) (k:=k+17) (by decide) (by decide),h,show (((false ||(rd ([16,24,32]:List Int) ((0:Nat):Int)==((32:Nat):Int))) ||(rd ([16,24,32]:List Int) ((0+1:Nat):Int)==((32:Nat):Int))) ||(rd ([16,24,32]:List Int) ((0+1+1:Nat):Int)==((32:Nat):Int)))=true from rfl,show k+17=k+16+1 from rfl,sR (n:=((0+1+1+1:Nat):Int)) rfl,if_neg (by decide),if_neg (by decide),if_neg (by decide),if_neg (by decide),if_pos (by decide)]
theorem TV {t:Int} (h:(t=4∧a.length=16)∨(t=5∧a.length=32)∨(t=8∧a.length=16)) {k:Nat}: ∃j,k≤j∧aq.f (k+20) t a=((eH.f j t a).bind fun r=>oC r.1 (some (some (t,none,none,none,none,none),0)) fun z=>some (some (t,none,none,some z,none,none),0)):=by
 rcases h with ⟨rfl,h⟩ | ⟨rfl,h⟩ | ⟨rfl,h⟩
 ·refine ⟨k+18,by omega,?_⟩
  have q:aq.f (k+20) 4 a=aq.l0 (k+19+1) 4 a [16] false ((0:Nat):Int):=by
   unfold aq.f
   rw [show bP.f (k+20) 4=some [16] from rfl,Option.bind_some,if_neg (by decide)];rfl
  rw [q,mR (i:=0) (k:=k+19) (by decide) (by decide),h,show (false ||(rd ([16]:List Int) ((0:Nat):Int)==((16:Nat):Int)))=true from rfl,show k+19=k+18+1 from rfl,sR (n:=((0+1:Nat):Int)) rfl,if_neg (by decide),if_neg (by decide),if_neg (by decide),if_neg (by decide),if_neg (by decide)]
 ·refine ⟨k+18,by omega,?_⟩
  have q:aq.f (k+20) 5 a=aq.l0 (k+19+1) 5 a [32] false ((0:Nat):Int):=by
   unfold aq.f
   rw [show bP.f (k+20) 5=some [32] from rfl,Option.bind_some,if_neg (by decide)];rfl
  rw [q,mR (i:=0) (k:=k+19) (by decide) (by decide),h,show (false ||(rd ([32]:List Int) ((0:Nat):Int)==((32:Nat):Int)))=true from rfl,show k+19=k+18+1 from rfl,sR (n:=((0+1:Nat):Int)) rfl,if_neg (by decide),if_neg (by decide),if_neg (by decide),if_neg (by decide),if_neg (by decide)]
 ·refine ⟨k+18,by omega,?_⟩
  have q:aq.f (k+20) 8 a=aq.l0 (k+19+1) 8 a [16] false ((0:Nat):Int):=by
   unfold aq.f
   rw [show bP.f (k+20) 8=some [16] from rfl,Option.bind_some,if_neg (by decide)];rfl
  rw [q,mR (i:=0) (k:=k+19) (by decide) (by decide),h,show (false ||(rd ([16]:List Int) ((0:Nat):Int)==((16:Nat):Int)))=true from rfl,show k+19=k+18+1 from rfl,sR (n:=((0+1:Nat):Int)) rfl,if_neg (by decide),if_neg (by decide),if_neg (by decide),if_neg (by decide),if_neg (by decide)]
end
theorem pD {t:Int} {n:Nat} (hn:n=1∨n=2∨n=3) (ht:(t=1∧n=1)∨(t=2∧n=2)∨(t=2∧n=3)) {m:List Nat} (h:m.length=8*n) (hm: ∀x∈m,x<256):Ef t m 8:=by
 obtain ⟨S,n1,n2,law⟩:=Ds.J8 hn h hm
 obtain ⟨E,hE⟩:=HI (s:=8) (A:=fun k dir b o=>bR.f k S (il b) dir=some (il o,0)∧aT.f k S (il b) dir=some (il o,0)) fun dir b h1 h2=>by
  obtain ⟨o,o1,o2,o3⟩:=law dir b h1 h2
  exact ⟨o,o1,o2,fun k hk=>o3 k (by omega)⟩
 have ha:(t=1∧(il m).length=8)∨(t=2∧(il m).length=16)∨(t=2∧(il m).length=24):=by rw [ag];omega
 refine ⟨(t,.m0 S),(t,some S,none,none,none,none),E,⟨.inl rfl,rfl,rfl,fun k=> ?_,fun k=> ?_,fun dir b hb=>(hE dir b hb).1,fun k b hk hb=> ?_,fun k b hk hb=> ?_,fun k dir b hk hb=> ?_⟩,fun k hk=> ?_⟩
 ·rcases ha with ⟨rfl,_⟩ | ⟨rfl,_⟩ | ⟨rfl,_⟩<;>rfl
 ·rcases ha with ⟨rfl,_⟩ | ⟨rfl,_⟩ | ⟨rfl,_⟩<;>rfl
 ·show (bR.f k S (il b) false).bind _=_
  rw [((hE false b hb).2 k hk).1];rfl
 ·show (bR.f k S (il b) true).bind _=_
  rw [((hE true b hb).2 k hk).1];rfl
 ·have q:bG.f k (t,some S,none,none,none,none) (il b) dir=(aT.f k S (il b) dir).bind fun r=>some (r.1,r.2):=by
   rcases ha with ⟨rfl,_⟩ | ⟨rfl,_⟩ | ⟨rfl,_⟩<;>kernel_rfl
  rw [q,((hE dir b hb).2 k hk).2];rfl
 ·obtain ⟨k,rfl⟩: ∃j,k=j+20:=⟨k-20,by omega⟩
  obtain ⟨j,hj,q⟩:=TO ha (k:=k)
  rw [TI ha,q,n1 _ (by omega),n2 _ (by omega)];exact ⟨rfl,rfl⟩
theorem pI {m:List Nat} (h:m.length=16) (hm: ∀x∈m,x<256):Ef 3 m 8:=by
 obtain ⟨S,R,n1,n2,law⟩:=Id.He h hm
 obtain ⟨E,hE⟩:=HI (s:=8) (A:=fun k dir b o=>bO.f k S (il b) dir=some (il o,0)∧aA.f k R (il b) dir=some (il o,0)) fun dir b h1 h2=>by
  obtain ⟨o,o1,o2,o3⟩:=law dir b h1 h2
  exact ⟨o,o1,o2,fun k hk=>o3 k (by omega)⟩
 have ha:(il m).length=16:=by rw [ag];exact h
 refine ⟨(3,.m1 S),(3,none,some R,none,none,none),E,⟨.inl rfl,rfl,rfl,fun k=>rfl,fun k=>rfl,fun dir b hb=>(hE dir b hb).1,fun k b hk hb=> ?_,fun k b hk hb=> ?_,fun k dir b hk hb=> ?_⟩,fun k hk=> ?_⟩
 ·show (bO.f k S (il b) false).bind _=_
  rw [((hE false b hb).2 k hk).1];rfl
 ·show (bO.f k S (il b) true).bind _=_
  rw [((hE true b hb).2 k hk).1];rfl
 ·show (aA.f k R (il b) dir).bind _=_
  rw [((hE dir b hb).2 k hk).2];rfl
 ·obtain ⟨k,rfl⟩: ∃j,k=j+20:=⟨k-20,by omega⟩
  obtain ⟨j,hj,q⟩:=TP ⟨rfl,ha⟩ (k:=k) (a:=il m)
  rw [TJ ha,q,n1 _ (by omega),n2 _ (by omega)];exact ⟨rfl,rfl⟩
theorem pT {m:List Nat} {n:Nat} (hn:n=2∨n=3∨n=4) (h:m.length=8*n) (hm: ∀x∈m,x<256):Ef 6 m 16:=by
 obtain ⟨S,R,n1,n2,law⟩:=Tw.zh hn h hm
 obtain ⟨E,hE⟩:=HI (s:=16) (A:=fun k dir b o=>am.f k S (il b) dir=some (il o,0)∧aj.f k R (il b) dir=some (il o,0)) fun dir b h1 h2=>by
  obtain ⟨o,o1,o2,o3⟩:=law dir b h1 h2
  exact ⟨o,o1,o2,fun k hk=>o3 k (by omega)⟩
 have ha:(il m).length=16∨(il m).length=24∨(il m).length=32:=by rw [ag];omega
 refine ⟨(6,.m2 S),(6,none,none,none,some R,none),E,⟨.inr rfl,rfl,rfl,fun k=>rfl,fun k=>rfl,fun dir b hb=>(hE dir b hb).1,fun k b hk hb=> ?_,fun k b hk hb=> ?_,fun k dir b hk hb=> ?_⟩,fun k hk=> ?_⟩
 ·show (am.f k S (il b) false).bind _=_
  rw [((hE false b hb).2 k hk).1];rfl
 ·show (am.f k S (il b) true).bind _=_
  rw [((hE true b hb).2 k hk).1];rfl
 ·show (aj.f k R (il b) dir).bind _=_
  rw [((hE dir b hb).2 k hk).2];rfl
 ·obtain ⟨k,rfl⟩: ∃j,k=j+20:=⟨k-20,by omega⟩
  obtain ⟨j,hj,q⟩:=TQ (ha.elim (fun e=> .inl ⟨rfl,e⟩) fun ha=>ha.elim (fun e=> .inr (.inl ⟨rfl,e⟩)) fun e=> .inr (.inr ⟨rfl,e⟩)) (k:=k) (a:=il m)
  rw [TK ha,q,n1 _ (by omega),n2 _ (by omega)];exact ⟨rfl,rfl⟩
theorem pA {m:List Nat} {e:Nat} (he:e<3) (h:m.length=16+8*e) (hm: ∀x∈m,x<256):Ef 7 m 16:=by
 obtain ⟨S,n1,n2,law⟩:=Ar.HG he h hm
 obtain ⟨E,hE⟩:=HI (s:=16) (A:=fun k dir b o=>aG.f k S (il b) dir=some (il o,0)∧aB.f k S (il b) dir=some (il o,0)) fun dir b h1 h2=>by
  obtain ⟨o,o1,o2,o3⟩:=law dir b h1 h2
  exact ⟨o,o1,o2,fun k hk=>o3 k (by omega)⟩
 have ha:(il m).length=16∨(il m).length=24∨(il m).length=32:=by rw [ag];omega
 refine ⟨(7,.m3 S),(7,none,none,none,none,some S),E,⟨.inr rfl,rfl,rfl,fun k=>rfl,fun k=>rfl,fun dir b hb=>(hE dir b hb).1,fun k b hk hb=> ?_,fun k b hk hb=> ?_,fun k dir b hk hb=> ?_⟩,fun k hk=> ?_⟩
 ·show (aG.f k S (il b) false).bind _=_
  rw [((hE false b hb).2 k hk).1];rfl
 ·show (aG.f k S (il b) true).bind _=_
  rw [((hE true b hb).2 k hk).1];rfl
 ·show (aB.f k S (il b) dir).bind _=_
  rw [((hE dir b hb).2 k hk).2];rfl
 ·obtain ⟨k,rfl⟩: ∃j,k=j+20:=⟨k-20,by omega⟩
  obtain ⟨j,hj,q⟩:=TR (ha.elim (fun e=> .inl ⟨rfl,e⟩) fun ha=>ha.elim (fun e=> .inr (.inl ⟨rfl,e⟩)) fun e=> .inr (.inr ⟨rfl,e⟩)) (k:=k) (a:=il m)
  rw [TM ha,q,n1 _ (by omega),n2 _ (by omega)];exact ⟨rfl,rfl⟩
theorem pS {j:Nat} (hj:j<3) {m:List Nat} (h:m.length=Sm.sz j) (hm: ∀x∈m,x<256):Ef (Sm.Ae j:Int) m 8:=by
 obtain ⟨S,R,n1,n2,law⟩:=Sm.Js hj h hm
 obtain ⟨E,hE⟩:=HI (s:=8) (A:=fun k dir b o=>cZ.f k S (il b) dir=some (il o,0)∧cH.f k R (il b) dir=some (il o,0)) fun dir b h1 h2=>by
  obtain ⟨o,o1,o2,o3⟩:=law dir b h1 h2
  exact ⟨o,o1,o2,fun k hk=>o3 k (by omega)⟩
 have ha:((Sm.Ae j:Int)=4∧(il m).length=16)∨((Sm.Ae j:Int)=5∧(il m).length=32)∨((Sm.Ae j:Int)=8∧(il m).length=16):=by
  rw [ag,h]
  match j,hj with
  | 0,_=>exact .inl ⟨rfl,rfl⟩
  | 1,_=>exact .inr (.inl ⟨rfl,rfl⟩)
  | 2,_=>exact .inr (.inr ⟨rfl,rfl⟩)
 generalize (Sm.Ae j:Int)=t at*
 refine ⟨(t,.m4 S),(t,none,none,some R,none,none),E,⟨.inl rfl,rfl,rfl,fun k=> ?_,fun k=> ?_,fun dir b hb=>(hE dir b hb).1,fun k b hk hb=> ?_,fun k b hk hb=> ?_,fun k dir b hk hb=> ?_⟩,fun k hk=> ?_⟩
 ·rcases ha with ⟨rfl,_⟩ | ⟨rfl,_⟩ | ⟨rfl,_⟩<;>rfl
 ·rcases ha with ⟨rfl,_⟩ | ⟨rfl,_⟩ | ⟨rfl,_⟩<;>rfl
 ·show (cZ.f k S (il b) false).bind _=_
  rw [((hE false b hb).2 k hk).1];rfl
 ·show (cZ.f k S (il b) true).bind _=_
  rw [((hE true b hb).2 k hk).1];rfl
 ·have q:bG.f k (t,none,none,some R,none,none) (il b) dir=(cH.f k R (il b) dir).bind fun r=>some (r.1,r.2):=by
   rcases ha with ⟨rfl,_⟩ | ⟨rfl,_⟩ | ⟨rfl,_⟩<;>kernel_rfl
  rw [q,((hE dir b hb).2 k hk).2];rfl
 ·obtain ⟨k,rfl⟩: ∃j,k=j+20:=⟨k-20,by omega⟩
  obtain ⟨j,hj,q⟩:=TV ha (k:=k)
  rw [TN ha,q,n1 _ (by omega),n2 _ (by omega)];exact ⟨rfl,rfl⟩
theorem SP {t:Int} {m:List Nat} {s:Nat} (hv:Vk t m.length s) (hm: ∀x∈m,x<256):Ef t m s:=by
 rcases hv with ⟨rfl,h,rfl⟩ | ⟨rfl,h,rfl⟩ | ⟨rfl,h,rfl⟩ | ⟨rfl,h,rfl⟩ | ⟨rfl,h,rfl⟩ | ⟨rfl,h,rfl⟩ | ⟨rfl,h,rfl⟩ | ⟨rfl,h,rfl⟩
 ·exact pD (n:=1) (.inl rfl) (.inl ⟨rfl,rfl⟩) h hm
 ·rcases h with h | h
  ·exact pD (n:=2) (.inr (.inl rfl)) (.inr (.inl ⟨rfl,rfl⟩)) h hm
  ·exact pD (n:=3) (.inr (.inr rfl)) (.inr (.inr ⟨rfl,rfl⟩)) h hm
 ·exact pI h hm
 ·exact pS (j:=0) (by decide) h hm
 ·exact pS (j:=2) (by decide) h hm
 ·exact pS (j:=1) (by decide) h hm
 ·rcases h with h | h | h
  ·exact pT (n:=2) (.inl rfl) h hm
  ·exact pT (n:=3) (.inr (.inl rfl)) h hm
  ·exact pT (n:=4) (.inr (.inr rfl)) h hm
 ·rcases h with h | h | h
  ·exact pA (e:=0) (by decide) h hm
  ·exact pA (e:=1) (by decide) h hm
  ·exact pA (e:=2) (by decide) h hm
def xS:Nat→List Nat→List Nat
 | 0,x=>x
 | n+1,x=>if (x.getD n 0+1)%256=0 then xS n (x.set n ((x.getD n 0+1)%256)) else x.set n ((x.getD n 0+1)%256)
def Eg (x:List Nat):List Nat:=xS x.length x
theorem J9 (n:Nat): ∀ {x:List Nat},(∀v∈x,v<256)→(xS n x).length=x.length∧ ∀v∈xS n x,v<256:=by
 induction n with
 | zero=>intro x h;exact ⟨rfl,h⟩
 | succ n ih=>
  intro x h
  have hs: ∀v∈x.set n ((x.getD n 0+1)%256),v<256:=fun v hv=>by
   rcases List.mem_or_eq_of_mem_set hv with hv | rfl
   ·exact h v hv
   ·exact Nat.mod_lt _ (by decide)
  unfold xS
  split
  ·obtain ⟨a,b⟩:=ih hs
   exact ⟨by rw [a,List.length_set],b⟩
  ·exact ⟨by rw [List.length_set],hs⟩
theorem NI (n:Nat): ∀ {k:Nat} {x:List Nat},n≤x.length→x.length<1000→n<k→gg.l0 k (il x) (n:Int)=some (il (xS n x))∧cT.l0 k (il x) (n:Int)=some (il (xS n x)):=by
 induction n with
 | zero=>
  intro k x h1 h2 h3
  obtain ⟨k,rfl⟩: ∃j,k=j+1:=⟨k-1,by omega⟩
  constructor
  ·rw [gg.l0,if_neg (by decide)];rfl
  ·rw [cT.l0,if_neg (by decide)];rfl
 | succ n ih=>
  intro k x h1 h2 h3
  obtain ⟨k,rfl⟩: ∃j,k=j+1:=⟨k-1,by omega⟩
  have a1:ak (((n+1:Nat):Int)-1)=(n:Int):=by rw [cA (by omega) (by omega)];omega
  have c0:decide (0≤(n:Int))=true:=by rw [decide_eq_true_eq];omega
  have c1:decide ((n:Int)<((il x).length:Int))=true:=by rw [decide_eq_true_eq,ag];omega
  have e1:U8 (((x.getD n 0:Nat):Int)+1)=(((x.getD n 0+1)%256:Nat):Int):=iR (x.getD n 0+1)
  have e2:(x.set n ((x.getD n 0+1)%256)).getD n 0=(x.getD n 0+1)%256:=by
   rw [List.getD_eq_getElem?_getD,List.getElem?_set,if_pos rfl,if_pos (by omega)];rfl
  obtain ⟨x1,x2⟩:=ih (k:=k) (x:=x.set n ((x.getD n 0+1)%256)) (by rw [List.length_set];omega) (by rw [List.length_set];omega) (by omega)
  have c2:decide ((n:Int)<((il (x.set n ((x.getD n 0+1)%256))).length:Int))=true:=by rw [decide_eq_true_eq,ag,List.length_set];omega
  constructor
  ·rw [gg.l0,if_pos (by rw [decide_eq_true_eq];omega),a1];unfold gd
   rw [if_pos c0,if_pos c1,if_pos c0,if_pos c1,bf,e1,Int.toNat_natCast,kw,Option.bind_some,if_pos c0,if_pos c2,bf,e2,xS]
   by_cases h:(x.getD n 0+1)%256=0
   ·rw [if_pos (by rw [h];rfl),if_pos h];exact x1
   ·rw [if_neg (by rw [beq_iff_eq];omega),if_neg h]
  ·rw [cT.l0,if_pos (by rw [decide_eq_true_eq];omega),a1];unfold gd
   rw [if_pos c0,if_pos c1,if_pos c0,if_pos c1,bf,e1,Int.toNat_natCast,kw,Option.bind_some,if_pos c0,if_pos c2,bf,e2,xS]
   by_cases h:(x.getD n 0+1)%256=0
   ·rw [if_neg (by rw [h];decide),if_pos h];exact x2
   ·rw [if_pos (by rw [bne_iff_ne];omega),if_neg h]
theorem HJ {x:List Nat} (h:x.length<1000) {k:Nat} (hk:x.length<k):gg.f k (il x)=some (il (Eg x))∧cT.f k (il x)=some (il (Eg x)):=by
 obtain ⟨a,b⟩:=NI x.length (k:=k) (x:=x) (Nat.le_refl _) h hk
 have e:(List.replicate 0 (0:Int))++il x=il x:=rfl
 have e':([]:List Int)++il x=il x:=rfl
 constructor
 ·unfold gg.f gd
  rw [e,ag,if_pos (by rw [decide_eq_true_eq];omega),if_pos (by rw [decide_eq_true_eq];omega),if_pos (by rw [decide_eq_true_eq,List.length_replicate];omega)];exact a
 ·unfold cT.f gd
  rw [e',ag,if_pos (by rw [decide_eq_true_eq,List.length_nil];omega)];exact b
def oH (dir:Bool) (c o:Nat):Nat:=bif dir then c else o
structure St where
 v:List Nat
 q:List Nat
 u:List Nat
def fresh (E:Bool→List Nat→List Nat) (m:Nat) (σ:St):St:=
 if σ.q=[] then ⟨if m=5 then E false σ.v else if m=6 then Eg σ.v else σ.v,E false σ.v,[]⟩ else σ
def lq (σ:St) (c:Nat):Nat:=c ^^^ σ.q.getD 0 0
def mS (m:Nat) (dir:Bool) (σ:St) (c:Nat):St:=
 if m=3 then ⟨σ.v.drop 1++[oH dir c (lq σ c)],[],σ.u++[oH dir c (lq σ c)]⟩
 else if m=4∧σ.q.drop 1=[] then ⟨σ.u++[oH dir c (lq σ c)],[],[]⟩
 else ⟨σ.v,σ.q.drop 1,σ.u++[oH dir c (lq σ c)]⟩
def qI (m:Nat) (σ:St):Bool:=decide (m=4)&&decide (σ.q.drop 1=[])
abbrev PM (C:Int×Tn) (m:Nat) (dir:Bool) (σ:St):(Int×Tn)×Int×Bool×(List Int)×(List Int)×(List Int):=((C.1,C.2),(m:Int),dir,il σ.v,il σ.q,il σ.u)
structure So (s m:Nat) (σ:St):Prop where
 v:Bk s σ.v
 q: ∀x∈σ.q,x<256
 u: ∀x∈σ.u,x<256
 n:σ.q=[]∨(σ.q.length+σ.u.length=s)
section
variable {t:Int} {s:Nat} {C:Int×Tn} {D:DT} {E:Bool→List Nat→List Nat} (P:Pr t s C D E)
include P
theorem zm {m:Nat} {σ:St} (h:So s m σ):So s m (fresh E m σ)∧(fresh E m σ).q≠[]:=by
 unfold fresh
 have oE:=P.ok false σ.v h.v
 have s1:=P.s1
 split
 ·refine ⟨⟨?_,oE.2,fun x hx=>(List.not_mem_nil hx).elim,.inr (by rw [oE.1];rfl)⟩,fun e=> ?_⟩
  ·show Bk s (if m=5 then E false σ.v else if m=6 then Eg σ.v else σ.v)
   split
   ·exact oE
   split
   ·have:=J9 σ.v.length h.v.2
    exact ⟨this.1.trans h.v.1,this.2⟩
   ·exact h.v
  ·have:=congrArg List.length e
   rw [show (E false σ.v).length=s from oE.1] at this
   simp only [List.length_nil] at this;omega
 ·next e=>exact ⟨h,e⟩
theorem HK {m:Nat} {dir:Bool} {v:List Nat} (hv:Bk s v) (q:List Int) {k:Nat} (hk:3000≤k):fb.f k ((C.1,C.2),(m:Int),dir,il v,q,[])=some (PM C m dir ⟨if m=5 then E false v else if m=6 then Eg v else v,E false v,[]⟩):=by
 have s1:=P.s1
 have hl:=hv.1
 have oE:=P.ok false v hv
 have hc:an.f k (il (E false v))=some (il (E false v)):=by
  unfold an.f gd
  rw [if_pos (by rw [decide_eq_true_eq,ag,oE.1,List.length_nil];omega)];rfl
 have hi:=(HJ (x:=v) (by omega) (k:=k) (by omega)).1
 unfold fb.f
 show (bK.f k C (il v)).bind _=_
 rw [P.en k v hk hv,Option.bind_some,hc,Option.bind_some,hi,Option.bind_some]
 dsimp only
 by_cases h5:m=5
 ·subst h5;rfl
 ·rw [if_neg (by rw [beq_iff_eq];omega)]
  by_cases h6:m=6
  ·subst h6;rfl
  ·rw [if_neg (by rw [beq_iff_eq];omega),if_neg h5,if_neg h6];rfl
end
theorem mz (a:List Nat) (b:Nat):il a++[(b:Int)]=il (a++[b]):=by simp [il]
theorem Db (a:List Nat):(il a).drop 1=il (a.drop 1):=by simp [il]
theorem sS (a:List Nat):(((il a).length:Int)==0)=decide (a=[]):=by
 rw [ag,Bool.eq_iff_iff,beq_iff_eq,decide_eq_true_eq,←List.length_eq_zero_iff];omega
theorem Dc (dir:Bool) (σ:St) (c:Nat):mS 3 dir σ c=⟨σ.v.drop 1++[oH dir c (lq σ c)],[],σ.u++[oH dir c (lq σ c)]⟩:=rfl
theorem tj (dir:Bool) (σ:St) (c:Nat):mS 4 dir σ c=if σ.q.drop 1=[] then ⟨σ.u++[oH dir c (lq σ c)],[],[]⟩ else ⟨σ.v,σ.q.drop 1,σ.u++[oH dir c (lq σ c)]⟩:=by
 unfold mS;simp
theorem nk {m:Nat} (h:m=5∨m=6) (dir:Bool) (σ:St) (c:Nat):mS m dir σ c=⟨σ.v,σ.q.drop 1,σ.u++[oH dir c (lq σ c)]⟩:=by
 rcases h with rfl | rfl<;>rfl
theorem to (σ:St):qI 4 σ=decide (σ.q.drop 1=[]):=by unfold qI;simp
theorem mD {m:Nat} (h:m≠4) (σ:St):qI m σ=false:=by unfold qI;simp [h]
section
variable {t:Int} {s:Nat} {C:Int×Tn} {D:DT} {E:Bool→List Nat→List Nat} (P:Pr t s C D E)
include P
theorem LA {m:Nat} (hm:m=3∨m=4∨m=5∨m=6) {dir:Bool} {σ:St} (h:So s m σ) {c:Nat} (hc:c<256) {k:Nat} (hk:3000≤k):
 dL.f k (PM C m dir σ) (c:Int)=some (((lq (fresh E m σ) c:Nat):Int),PM C m dir (mS m dir (fresh E m σ) c),qI m (fresh E m σ))∧
 (σ.q=[]→σ.u=[]→fc.f k (PM C m dir σ) (c:Int)=some (((lq (fresh E m σ) c:Nat):Int),PM C m dir (mS m dir (fresh E m σ) c),qI m (fresh E m σ))):=by
 obtain ⟨⟨h1,h2,h3,h4⟩,h5⟩:=zm P h
 have s1:=P.s1
 have b0:=HK P (m:=m) (dir:=dir) h.v (il σ.q) hk
 have bq:σ.q=[]→(fb.f k ((C.1,C.2),(m:Int),dir,il σ.v,il σ.q,[])=some (PM C m dir (fresh E m σ))∧(fresh E m σ).u=[]):=fun e=>by
  unfold fresh;rw [if_pos e];exact ⟨b0,rfl⟩
 have br:σ.q≠[]→fresh E m σ=σ:=fun e=>by unfold fresh;rw [if_neg e]
 clear b0
 generalize fresh E m σ=τ at*
 have ql:0<τ.q.length:=List.length_pos_iff.2 h5
 have vl:=h1.1
 have n4:τ.q.length+τ.u.length=s:=h4.resolve_left h5
 have q0:=dN h2 0
 have f1:decide (0<((il τ.q).length:Int))=true:=by rw [decide_eq_true_eq,ag];omega
 have f2:decide (1≤((il τ.q).length:Int))=true:=by rw [decide_eq_true_eq,ag];omega
 have f2v:decide (1≤((il τ.v).length:Int))=true:=by rw [decide_eq_true_eq,ag];omega
 have f3:rd (il τ.q) 0=((τ.q.getD 0 0:Nat):Int):=bf τ.q 0
 have f4:aK .u8 (c:Int) ((τ.q.getD 0 0:Nat):Int)=((lq τ c:Nat):Int):=BZ hc q0
 have f6:an.f k (il (τ.v.drop 1))=some (il (τ.v.drop 1)):=by
  unfold an.f gd
  rw [if_pos (by rw [decide_eq_true_eq,ag,List.length_drop,List.length_nil];omega)];rfl
 have g0: ∀x:Int,decide (0+([x]:List Int).length≤1000000000)=true:=fun _=>rfl
 have gv: ∀x:Int,decide ((il (τ.v.drop 1)).length+([x]:List Int).length≤1000000000)=true:=fun x=>by
  rw [decide_eq_true_eq,ag,List.length_drop,List.length_singleton];omega
 have gu: ∀x:Int,decide ((il τ.u).length+([x]:List Int).length≤1000000000)=true:=fun x=>by
  rw [decide_eq_true_eq,ag,List.length_singleton];omega
 have i33:(((3:Nat):Int)==3)=true:=rfl
 have i43:(((4:Nat):Int)==3)=false:=rfl
 have i44:(((4:Nat):Int)==4)=true:=rfl
 have i53:(((5:Nat):Int)==3)=false:=rfl
 have i54:(((5:Nat):Int)==4)=false:=rfl
 have i63:(((6:Nat):Int)==3)=false:=rfl
 have i64:(((6:Nat):Int)==4)=false:=rfl
 have one: ∀b:Nat,[(b:Int)]=il [b]:=fun _=>rfl
 have nil0:([]:List Int)=il []:=rfl
 by_cases e:σ.q=[]
 ·obtain ⟨bq,hu⟩:=bq e
  have z:(((il σ.q).length:Int)==0)=true:=by rw [e];rfl
  have uu: ∀x:List Nat,τ.u++x=x:=fun x=>by rw [hu];rfl
  constructor
  ·unfold dL.f PM
   dsimp only
   rw [if_pos z,bq,Option.bind_some]
   dsimp only [PM]
   rcases hm with rfl | rfl | rfl | rfl<;>cases dir<;>by_cases g:τ.q.drop 1=[]<;>simp only [gd,f1,f2,f2v,f3,f4,f6,g0,gv,i33,i43,i44,i53,i54,i63,i64,Db,sS,mz,g,decide_true,decide_false,if_true,if_false,Bool.false_eq_true,Option.bind_some,Dc,tj,nk (.inl rfl),nk (.inr rfl),to,mD (show (3:Nat)≠4 by decide),mD (show (5:Nat)≠4 by decide),mD (show (6:Nat)≠4 by decide),uu,oH,cond_true,cond_false]<;>rfl
  ·intro _ eu
   unfold fc.f PM
   dsimp only
   rw [if_pos z,bq,Option.bind_some]
   dsimp only [PM]
   rcases hm with rfl | rfl | rfl | rfl<;>cases dir<;>by_cases g:τ.q.drop 1=[]<;>simp only [gd,f1,f2,f2v,f3,f4,f6,g0,gv,i33,i43,i44,i53,i54,i63,i64,Db,sS,mz,g,decide_true,decide_false,if_true,if_false,Bool.false_eq_true,Option.bind_some,Dc,tj,nk (.inl rfl),nk (.inr rfl),to,mD (show (3:Nat)≠4 by decide),mD (show (5:Nat)≠4 by decide),mD (show (6:Nat)≠4 by decide),uu,oH,cond_true,cond_false]<;>rfl
 ·refine ⟨?_,fun e'=>absurd e' e⟩
  have:=br e
  subst this
  have z:(((il τ.q).length:Int)==0)=false:=by rw [sS];exact decide_eq_false e
  unfold dL.f PM
  dsimp only
  rw [if_neg (by rw [z];decide)]
  rcases hm with rfl | rfl | rfl | rfl<;>cases dir<;>by_cases g:τ.q.drop 1=[]<;>simp only [gd,f1,f2,f2v,f3,f4,f6,gu,gv,i33,i43,i44,i53,i54,i63,i64,Db,sS,mz,g,decide_true,decide_false,if_true,if_false,Bool.false_eq_true,Option.bind_some,Dc,tj,nk (.inl rfl),nk (.inr rfl),to,mD (show (3:Nat)≠4 by decide),mD (show (5:Nat)≠4 by decide),mD (show (6:Nat)≠4 by decide),oH,cond_true,cond_false]<;>rfl
end
abbrev RM (D:DT) (m:Nat) (dir:Bool) (σ:St) (made:List Nat) (i:Nat):DT×Int×Bool×(List Int)×(List Int)×Int×(List Int):=((D.1,D.2.1,D.2.2.1,D.2.2.2.1,D.2.2.2.2.1,D.2.2.2.2.2),(m:Int),dir,il σ.v,il made,(i:Int),il σ.u)
def DR (s:Nat) (σ:St) (made:List Nat) (i:Nat):Prop:=σ.q=made.drop i∧(∀x∈made,x<256)∧(made=[]∧i=0∨made.length=s∧i≤s)
def LB (E:Bool→List Nat→List Nat) (σ:St) (made:List Nat):List Nat:=if σ.q=[] then E false σ.v else made
def LC (σ:St) (i:Nat):Nat:=if σ.q=[] then 1 else i+1
theorem Aw (l:List Nat) (i:Nat):(l.drop i).getD 0 0=l.getD i 0:=by
 rw [List.getD_eq_getElem?_getD,List.getElem?_drop,List.getD_eq_getElem?_getD];rfl
section
variable {t:Int} {s:Nat} {C:Int×Tn} {D:DT} {E:Bool→List Nat→List Nat} (P:Pr t s C D E)
include P
theorem Dd {m:Nat} (hm:m=4∨m=5∨m=6) {dir:Bool} {σ:St} (h:So s m σ) {made:List Nat} {i:Nat} (hd:DR s σ made i) (c:Nat):DR s (mS m dir (fresh E m σ) c) (LB E σ made) (LC σ i):=by
 obtain ⟨d1,d2,d3⟩:=hd
 have oE:=P.ok false σ.v h.v
 have s1:=P.s1
 have tq:(mS m dir (fresh E m σ) c).q=(fresh E m σ).q.drop 1:=by
  unfold mS
  rw [if_neg (by omega)]
  by_cases g:m=4∧(fresh E m σ).q.drop 1=[]
  ·rw [if_pos g,g.2]
  ·rw [if_neg g]
 unfold DR LB LC
 rw [tq]
 by_cases e:σ.q=[]
 ·rw [if_pos e,if_pos e]
  refine ⟨by unfold fresh;rw [if_pos e],oE.2,.inr ⟨oE.1,by omega⟩⟩
 ·rw [if_neg e,if_neg e]
  refine ⟨by unfold fresh;rw [if_neg e,d1,List.drop_drop],d2,?_⟩
  rcases d3 with ⟨rfl,rfl⟩ | ⟨a,b⟩
  ·exact absurd d1 e
  ·have:i≠s:=fun h=>e (by rw [d1];exact List.drop_of_length_le (by omega))
   exact .inr ⟨a,by omega⟩
theorem sy {m:Nat} (hm:m=3∨m=4∨m=5∨m=6) {dir:Bool} {σ:St} (h:So s m σ) {c:Nat} (hc:c<256):So s m (mS m dir (fresh E m σ) c):=by
 obtain ⟨⟨h1,h2,h3,h4⟩,h5⟩:=zm P h
 have s1:=P.s1
 generalize fresh E m σ=τ at*
 have q0:=dN h2 0
 have n4:=h4.resolve_left h5
 have ql:0<τ.q.length:=List.length_pos_iff.2 h5
 have sl:oH dir c (lq τ c)<256:=by
  unfold oH;cases dir
  ·exact Nat.xor_lt_two_pow (n:=8) hc q0
  ·exact hc
 have bu: ∀x∈τ.u++[oH dir c (lq τ c)],x<256:=fun x hx=>by
  rcases List.mem_append.1 hx with hx | hx
  ·exact h3 x hx
  ·rw [List.mem_singleton.1 hx];exact sl
 unfold mS
 split
 ·refine ⟨⟨?_,fun x hx=> ?_⟩,fun x hx=>(List.not_mem_nil hx).elim,bu,.inl rfl⟩
  ·show (τ.v.drop 1++[_]).length=s
   rw [List.length_append,List.length_drop,List.length_singleton,h1.1];omega
  ·rcases List.mem_append.1 hx with hx | hx
   ·exact h1.2 x (List.mem_of_mem_drop hx)
   ·rw [List.mem_singleton.1 hx];exact sl
 split
 ·next g=>
  have:=congrArg List.length g.2
  rw [List.length_drop,List.length_nil] at this
  exact ⟨⟨by show (τ.u++[_]).length=s;rw [List.length_append,List.length_singleton];omega,bu⟩,fun x hx=>(List.not_mem_nil hx).elim,fun x hx=>(List.not_mem_nil hx).elim,.inl rfl⟩
 ·refine ⟨h1,fun x hx=>h2 x (List.mem_of_mem_drop hx),bu,?_⟩
  right
  show (τ.q.drop 1).length+(τ.u++[_]).length=s
  rw [List.length_drop,List.length_append,List.length_singleton];omega
theorem Tl {m:Nat} (hm:m=4∨m=5∨m=6) {dir:Bool} {σ:St} (h:So s m σ) {made:List Nat} {i:Nat} (hd:DR s σ made i) {c:Nat} (hc:c<256) {k:Nat} (hk:3000≤k):
 b7.f k (RM D m dir σ made i) (c:Int)=some (((lq (fresh E m σ) c:Nat):Int),RM D m dir (mS m dir (fresh E m σ) c) (LB E σ made) (LC σ i),qI m (fresh E m σ))∧
 (σ.q=[]→σ.u=[]→du.f k (RM D m dir σ made i) (c:Int)=some (((lq (fresh E m σ) c:Nat):Int),RM D m dir (mS m dir (fresh E m σ) c) (LB E σ made) (LC σ i),qI m (fresh E m σ))):=by
 obtain ⟨d1,d2,d3⟩:=hd
 have s1:=P.s1
 have oE:=P.ok false σ.v h.v
 have vl:=h.v.1
 have en:aD.f k (D.1,D.2.1,D.2.2.1,D.2.2.2.1,D.2.2.2.2.1,D.2.2.2.2.2) (il σ.v)=some (il (E false σ.v)):=by
  unfold aD.f
  show (bG.f k D (il σ.v) false).bind _=_
  rw [P.bl k false σ.v hk h.v,Option.bind_some]
 have ic:=(HJ (x:=σ.v) (by omega) (k:=k) (by omega)).2
 have i44:(((4:Nat):Int)==4)=true:=rfl
 have i45:(((4:Nat):Int)==5)=false:=rfl
 have i46:(((4:Nat):Int)==6)=false:=rfl
 have i54:(((5:Nat):Int)==4)=false:=rfl
 have i55:(((5:Nat):Int)==5)=true:=rfl
 have i64:(((6:Nat):Int)==4)=false:=rfl
 have i65:(((6:Nat):Int)==5)=false:=rfl
 have i66:(((6:Nat):Int)==6)=true:=rfl
 have j5:((5:Nat)=5)=True:=by simp
 have j45:((4:Nat)=5)=False:=by simp
 have j46:((4:Nat)=6)=False:=by simp
 have j65:((6:Nat)=5)=False:=by simp
 have j66:((6:Nat)=6)=True:=by simp
 by_cases e:σ.q=[]
 ·have f1:decide (0<((il (E false σ.v)).length:Int))=true:=by rw [decide_eq_true_eq,ag,oE.1];omega
  have f0:decide ((0:Int)≤0)=true:=rfl
  have f3:rd (il (E false σ.v)) 0=(((E false σ.v).getD 0 0:Nat):Int):=bf (E false σ.v) 0
  have f4:aK .u8 (c:Int) (((E false σ.v).getD 0 0:Nat):Int)=((c ^^^ (E false σ.v).getD 0 0:Nat):Int):=BZ hc (dN oE.2 0)
  have g0: ∀x:Int,decide (0+([x]:List Int).length≤1000000000)=true:=fun _=>rfl
  have g1: ∀x:Int,((([x]:List Int).length:Int)==((il (E false σ.v)).length:Int))=false:=fun x=>by
   rw [ag,oE.1,beq_eq_false_iff_ne];show ((1:Nat):Int)≠_;omega
  have g:¬ (E false σ.v).drop 1=[]:=fun g=>by
   have:=congrArg List.length g
   rw [List.length_drop,oE.1,List.length_nil] at this;omega
  have i01:ak (0+1)=((1:Nat):Int):=rfl
  have one: ∀b:Nat,[(b:Int)]=il [b]:=fun _=>rfl
  have hix:made≠[]→((i:Int)==((il made).length:Int))=true:=fun hm0=>by
   rcases d3 with ⟨a,_⟩ | ⟨a,b⟩
   ·exact absurd a hm0
   ·rw [e] at d1
    have:=congrArg List.length d1
    rw [List.length_nil,List.length_drop] at this
    rw [ag,beq_iff_eq];omega
  have fe:fresh E m σ=⟨if m=5 then E false σ.v else if m=6 then Eg σ.v else σ.v,E false σ.v,[]⟩:=by unfold fresh;rw [if_pos e]
  have me:LB E σ made=E false σ.v:=by unfold LB;rw [if_pos e]
  have xe:LC σ i=1:=by unfold LC;rw [if_pos e]
  rw [fe,me,xe]
  constructor
  ·unfold b7.f RM
   dsimp only
   by_cases hm0:made=[]
   ·rcases hm with rfl | rfl | rfl<;>cases dir<;>simp only [gd,sS,hm0,decide_true,if_true,if_false,Bool.false_eq_true,en,ic,Option.bind_some,i44,i45,i46,i54,i55,i64,i65,i66,j5,j45,j46,j65,j66,f0,f1,f3,f4,g0,g1,i01,tj,nk (.inl rfl),nk (.inr rfl),to,mD (show (5:Nat)≠4 by decide),mD (show (6:Nat)≠4 by decide),g,decide_false,lq,oH,cond_true,cond_false,List.nil_append]<;>rfl
   ·rcases hm with rfl | rfl | rfl<;>cases dir<;>simp only [gd,sS,hm0,hix hm0,decide_true,decide_false,if_true,if_false,Bool.false_eq_true,en,ic,Option.bind_some,i44,i45,i46,i54,i55,i64,i65,i66,j5,j45,j46,j65,j66,f0,f1,f3,f4,g0,g1,i01,tj,nk (.inl rfl),nk (.inr rfl),to,mD (show (5:Nat)≠4 by decide),mD (show (6:Nat)≠4 by decide),g,decide_false,lq,oH,cond_true,cond_false,List.nil_append]<;>rfl
  ·intro _ eu
   unfold du.f RM
   dsimp only
   by_cases hm0:made=[]
   ·rcases hm with rfl | rfl | rfl<;>cases dir<;>simp only [gd,sS,hm0,decide_true,if_true,if_false,Bool.false_eq_true,en,ic,Option.bind_some,i44,i45,i46,i54,i55,i64,i65,i66,j5,j45,j46,j65,j66,f0,f1,f3,f4,g0,g1,i01,tj,nk (.inl rfl),nk (.inr rfl),to,mD (show (5:Nat)≠4 by decide),mD (show (6:Nat)≠4 by decide),g,decide_false,lq,oH,cond_true,cond_false,List.nil_append]<;>rfl
   ·rcases hm with rfl | rfl | rfl<;>cases dir<;>simp only [gd,sS,hm0,hix hm0,decide_true,decide_false,if_true,if_false,Bool.false_eq_true,en,ic,Option.bind_some,i44,i45,i46,i54,i55,i64,i65,i66,j5,j45,j46,j65,j66,f0,f1,f3,f4,g0,g1,i01,tj,nk (.inl rfl),nk (.inr rfl),to,mD (show (5:Nat)≠4 by decide),mD (show (6:Nat)≠4 by decide),g,decide_false,lq,oH,cond_true,cond_false,List.nil_append]<;>rfl
 ·refine ⟨?_,fun e'=>absurd e' e⟩
  have fe:fresh E m σ=σ:=by unfold fresh;rw [if_neg e]
  have me:LB E σ made=made:=by unfold LB;rw [if_neg e]
  have xe:LC σ i=i+1:=by unfold LC;rw [if_neg e]
  rw [fe,me,xe]
  have ql:0<σ.q.length:=List.length_pos_iff.2 e
  have n4:=h.n.resolve_left e
  have qm:σ.q.length=made.length-i:=by rw [d1,List.length_drop]
  have il0:i<made.length:=by omega
  have ms:made.length=s:=by
   rcases d3 with ⟨rfl,_⟩ | ⟨a,_⟩
   ·exact absurd il0 (by simp)
   ·exact a
  have hm0:made≠[]:=fun h0=>by rw [h0] at il0;exact absurd il0 (by simp)
  have hix:((i:Int)==((il made).length:Int))=false:=by rw [ag,beq_eq_false_iff_ne];omega
  have f0:decide (0≤(i:Int))=true:=by rw [decide_eq_true_eq];omega
  have f1:decide ((i:Int)<((il made).length:Int))=true:=by rw [decide_eq_true_eq,ag];omega
  have f3:rd (il made) (i:Int)=((σ.q.getD 0 0:Nat):Int):=by rw [bf,d1,Aw]
  have f4:aK .u8 (c:Int) ((σ.q.getD 0 0:Nat):Int)=((lq σ c:Nat):Int):=BZ hc (dN h.q 0)
  have gu: ∀x:Int,decide ((il σ.u).length+([x]:List Int).length≤1000000000)=true:=fun x=>by
   rw [decide_eq_true_eq,ag,List.length_singleton];omega
  have a2:ak ((i:Int)+1)=((i+1:Nat):Int):=au (n:=i+1) (by omega)
  have lu: ∀b:Nat,(((il (σ.u++[b])).length:Int)==((il made).length:Int))=decide (σ.q.drop 1=[]):=fun b=>by
   rw [ag,ag,Bool.eq_iff_iff,beq_iff_eq,decide_eq_true_eq,←List.length_eq_zero_iff,List.length_append,List.length_singleton,List.length_drop];omega
  unfold b7.f RM
  dsimp only
  rcases hm with rfl | rfl | rfl<;>cases dir<;>by_cases g:σ.q.drop 1=[]<;>simp only [gd,sS,hm0,hix,decide_true,decide_false,if_true,if_false,Bool.false_eq_true,Option.bind_some,i44,i54,i64,f0,f1,f3,f4,gu,a2,mz,lu,tj,nk (.inl rfl),nk (.inr rfl),to,mD (show (5:Nat)≠4 by decide),mD (show (6:Nat)≠4 by decide),g,oH,cond_true,cond_false]<;>rfl
theorem TW {dir:Bool} {σ:St} (h:So s 3 σ) (hq:σ.q=[]) (made:List Nat) (i:Nat) {c:Nat} (hc:c<256) {k:Nat} (hk:3000≤k) (u:List Nat):
 dj.f k (RM D 3 dir ⟨σ.v,σ.q,u⟩ made i) (c:Int)=some (((lq (fresh E 3 σ) c:Nat):Int),RM D 3 dir ⟨(mS 3 dir (fresh E 3 σ) c).v,[],[]⟩ made i):=by
 have s1:=P.s1
 have oE:=P.ok false σ.v h.v
 have vl:=h.v.1
 have en:aD.f k (D.1,D.2.1,D.2.2.1,D.2.2.2.1,D.2.2.2.2.1,D.2.2.2.2.2) (il σ.v)=some (il (E false σ.v)):=by
  unfold aD.f
  show (bG.f k D (il σ.v) false).bind _=_
  rw [P.bl k false σ.v hk h.v,Option.bind_some]
 have fe:fresh E 3 σ=⟨σ.v,E false σ.v,[]⟩:=by unfold fresh;rw [if_pos hq];rfl
 have f1:decide (0<((il (E false σ.v)).length:Int))=true:=by rw [decide_eq_true_eq,ag,oE.1];omega
 have f2:decide (1≤((il σ.v).length:Int))=true:=by rw [decide_eq_true_eq,ag];omega
 have f3:rd (il (E false σ.v)) 0=(((E false σ.v).getD 0 0:Nat):Int):=bf (E false σ.v) 0
 have f4:aK .u8 (c:Int) (((E false σ.v).getD 0 0:Nat):Int)=((c ^^^ (E false σ.v).getD 0 0:Nat):Int):=BZ hc (dN oE.2 0)
 have g1:decide (([]:List Int).length+(il (σ.v.drop 1)).length≤1000000000)=true:=by rw [decide_eq_true_eq,ag,List.length_drop,List.length_nil];omega
 have g2: ∀x:Int,decide ((il (σ.v.drop 1)).length+([x]:List Int).length≤1000000000)=true:=fun x=>by
  rw [decide_eq_true_eq,ag,List.length_drop,List.length_singleton];omega
 rw [fe]
 unfold dj.f RM
 dsimp only
 cases dir<;>simp only [gd,en,Option.bind_some,f1,f2,f3,f4,Db,g1,List.nil_append,g2,mz,if_true,if_false,Bool.false_eq_true,Dc,lq,oH,cond_true,cond_false]<;>rfl
end
def mU (E:Bool→List Nat→List Nat) (m:Nat) (dir:Bool):St→List Nat→List Nat
 | _,[]=>[]
 | σ,c::xs=>lq (fresh E m σ) c::mU E m dir (mS m dir (fresh E m σ) c) xs
theorem o6 {m:Nat} {dir:Bool} {τ:St} {c:Nat} (h:qI m τ=true):(mS m dir τ c).q=[]∧(mS m dir τ c).u=[]:=by
 unfold qI at h
 rw [Bool.and_eq_true,decide_eq_true_eq,decide_eq_true_eq] at h
 unfold mS
 rw [if_neg (by omega),if_pos h];exact ⟨rfl,rfl⟩
theorem u7 (c:Nat) (xs:List Nat):rd (il (c::xs)) 0=(c:Int):=rfl
theorem wh (c:Nat) (xs:List Nat):(il (c::xs)).drop (1:Int).toNat=il xs:=rfl
section
variable {t:Int} {s:Nat} {C:Int×Tn} {D:DT} {E:Bool→List Nat→List Nat} (P:Pr t s C D E) {m:Nat} (hm:m=3∨m=4∨m=5∨m=6) {dir:Bool}
include P hm
theorem SQ (xs:List Nat): ∀ {k:Nat} {σ:St} {acc:List Nat},So s m σ→(∀x∈xs,x<256)→acc.length+xs.length≤100000→3000+xs.length+1≤k→
 ax.l2 k 1 C.1 C.2 (m:Int) dir (il σ.v) (il σ.q) (il σ.u) (il xs) (il acc)=some (il (acc++mU E m dir σ xs),0)∧
 (σ.q=[]→σ.u=[]→ax.l1 k 1 C.1 C.2 (m:Int) dir (il σ.v) (il σ.q) (il xs) (il acc)=some (il (acc++mU E m dir σ xs),0)):=by
 induction xs with
 | nil=>
  intro k σ acc h hx ha hk
  obtain ⟨k,rfl⟩: ∃j,k=j+1:=⟨k-1,by omega⟩
  rw [mU,List.append_nil]
  exact ⟨by rw [ax.l2,if_pos (by rfl)],fun _ _=>by rw [ax.l1,if_pos (by rfl)]⟩
 | cons c xs ih=>
  intro k σ acc h hx ha hk
  obtain ⟨k,rfl⟩: ∃j,k=j+1:=⟨k-1,by omega⟩
  rw [List.length_cons] at ha hk
  have hc:=hx c List.mem_cons_self
  obtain ⟨bA,bB⟩:=LA P hm (dir:=dir) h hc (k:=k) (by omega)
  have nx:=ih (k:=k) (σ:=mS m dir (fresh E m σ) c) (acc:=acc++[lq (fresh E m σ) c]) (sy P hm h hc) (fun y hy=>hx y (List.mem_cons_of_mem _ hy)) (by rw [List.length_append,List.length_singleton];omega) (by omega)
  have er:acc++[lq (fresh E m σ) c]++mU E m dir (mS m dir (fresh E m σ) c) xs=acc++mU E m dir σ (c::xs):=by rw [mU,List.append_assoc];rfl
  rw [er] at nx
  have z:¬ (((il (c::xs)).length:Int)==0)=true:=by rw [sS];simp
  have f1:decide (0<((il (c::xs)).length:Int))=true:=by rw [decide_eq_true_eq,ag,List.length_cons];omega
  have f2:decide ((1:Int)≤((il (c::xs)).length:Int))=true:=by rw [decide_eq_true_eq,ag,List.length_cons];omega
  have f0:decide ((0:Int)≤1)=true:=rfl
  have fa: ∀x:Int,decide ((il acc).length+([x]:List Int).length≤1000000000)=true:=fun x=>by rw [decide_eq_true_eq,ag,List.length_singleton];omega
  have o11:((1:Int)==1)=true:=rfl
  constructor
  ·rw [ax.l2,if_neg z,if_pos o11];unfold gd
   rw [if_pos f1,u7,bA,Option.bind_some]
   cases g:qI m (fresh E m σ) with
   | false=>
    dsimp only [oB]
    rw [if_pos (fa _),if_pos f0,if_pos f2,wh,mz]
    exact nx.1
   | true=>
    obtain ⟨g1,g2⟩:=o6 (dir:=dir) (c:=c) g
    dsimp only [oB]
    rw [if_pos (fa _),if_pos f0,if_pos f2,wh,mz]
    exact nx.2 g1 g2
  ·intro e1 e2
   have bB:=bB e1 e2
   unfold PM at bB
   rw [e2] at bB
   rw [ax.l1,if_neg z,if_pos o11];unfold gd
   rw [if_pos f1,u7]
   have bB':fc.f k ((C.1,C.2),(m:Int),dir,il σ.v,il σ.q,[]) (c:Int)=_:=bB
   rw [bB',Option.bind_some]
   cases g:qI m (fresh E m σ) with
   | false=>
    dsimp only [oB]
    rw [if_pos (fa _),if_pos f0,if_pos f2,wh,mz]
    exact nx.1
   | true=>
    obtain ⟨g1,g2⟩:=o6 (dir:=dir) (c:=c) g
    dsimp only [oB]
    rw [if_pos (fa _),if_pos f0,if_pos f2,wh,mz]
    exact nx.2 g1 g2
theorem SR {xs:List Nat} {k:Nat} {σ:St} (h:So s m σ) (hu:σ.u=[]) (hx: ∀x∈xs,x<256) (ha:xs.length≤100000) (hk:3000+xs.length+1≤k):
 ax.l0 k 1 C.1 C.2 (m:Int) dir (il σ.v) (il σ.q) (il xs) []=some (il (mU E m dir σ xs),0):=by
 obtain ⟨k,rfl⟩: ∃j,k=j+1:=⟨k-1,by omega⟩
 match xs,hx,ha,hk with
 | [],_,_,_=>rw [ax.l0,if_pos (by rfl)];rfl
 | c::xs,hx,ha,hk=>
  rw [List.length_cons] at ha hk
  have hc:=hx c List.mem_cons_self
  obtain ⟨bA,_⟩:=LA P hm (dir:=dir) h hc (k:=k) (by omega)
  have nx:=SQ P hm (dir:=dir) xs (k:=k) (σ:=mS m dir (fresh E m σ) c) (acc:=[lq (fresh E m σ) c]) (sy P hm h hc) (fun y hy=>hx y (List.mem_cons_of_mem _ hy)) (by rw [List.length_singleton];omega) (by omega)
  have er:[lq (fresh E m σ) c]++mU E m dir (mS m dir (fresh E m σ) c) xs=mU E m dir σ (c::xs):=by rw [mU];rfl
  rw [er] at nx
  have z:¬ (((il (c::xs)).length:Int)==0)=true:=by rw [sS];simp
  have f1:decide (0<((il (c::xs)).length:Int))=true:=by rw [decide_eq_true_eq,ag,List.length_cons];omega
  have f2:decide ((1:Int)≤((il (c::xs)).length:Int))=true:=by rw [decide_eq_true_eq,ag,List.length_cons];omega
  have f0:decide ((0:Int)≤1)=true:=rfl
  have fa: ∀x:Int,decide (([]:List Int).length+([x]:List Int).length≤1000000000)=true:=fun x=>rfl
  have o11:((1:Int)==1)=true:=rfl
  unfold PM at bA
  rw [hu] at bA
  have bA':dL.f k ((C.1,C.2),(m:Int),dir,il σ.v,il σ.q,[]) (c:Int)=_:=bA
  rw [ax.l0,if_neg z,if_pos o11];unfold gd
  rw [if_pos f1,u7,bA',Option.bind_some]
  cases g:qI m (fresh E m σ) with
  | false=>
   dsimp only [oB]
   rw [if_pos (fa _),if_pos f0,if_pos f2,wh]
   exact nx.1
  | true=>
   obtain ⟨g1,g2⟩:=o6 (dir:=dir) (c:=c) g
   dsimp only [oB]
   rw [if_pos (fa _),if_pos f0,if_pos f2,wh]
   exact nx.2 g1 g2
end
section
variable {t:Int} {s:Nat} {C:Int×Tn} {D:DT} {E:Bool→List Nat→List Nat} (P:Pr t s C D E) {m:Nat} {dir:Bool}
include P
theorem Ax {a:List Nat} {j d:Nat} (hj:j+(d+1)=a.length) (ha:a.length≤100000):decide ((j:Int)<((il a).length:Int))=true∧decide (0≤(j:Int))=true∧ak ((j:Int)+1)=((j+1:Nat):Int)∧ ∃c,rd (il a) (j:Int)=((c:Nat):Int)∧a.drop j=c::a.drop (j+1)∧c∈a:=by
 have hl:j<a.length:=by omega
 refine ⟨by rw [decide_eq_true_eq,ag];omega,by rw [decide_eq_true_eq];omega,au (n:=j+1) (by omega),a[j],?_,List.drop_eq_getElem_cons hl,List.getElem_mem hl⟩
 rw [bf,List.getD_eq_getElem?_getD,List.getElem?_eq_getElem hl];rfl
theorem SS (hm:m=4∨m=5∨m=6) {a:List Nat} (hx: ∀x∈a,x<256) (ha:a.length≤100000) (d:Nat): ∀ {k j i:Nat} {σ:St} {made acc:List Nat},j+d=a.length→So s m σ→DR s σ made i→acc.length+d≤100000→3000+d+1≤k→
 ao.l2 k (il a) 1 D.1 D.2.1 D.2.2.1 D.2.2.2.1 D.2.2.2.2.1 D.2.2.2.2.2 (m:Int) dir (il σ.v) (il made) (i:Int) (il σ.u) (il acc) (j:Int)=some (il (acc++mU E m dir σ (a.drop j)),0)∧
 (σ.q=[]→σ.u=[]→ao.l1 k (il a) 1 D.1 D.2.1 D.2.2.1 D.2.2.2.1 D.2.2.2.2.1 D.2.2.2.2.2 (m:Int) dir (il σ.v) (il made) (i:Int) (il acc) (j:Int)=some (il (acc++mU E m dir σ (a.drop j)),0)):=by
 have m1:((m:Int)==1)=false:=by rw [beq_eq_false_iff_ne];omega
 have m2:((m:Int)==2)=false:=by rw [beq_eq_false_iff_ne];omega
 have m3:((m:Int)==3)=false:=by rw [beq_eq_false_iff_ne];omega
 induction d with
 | zero=>
  intro k j i σ made acc hj h hd hacc hk
  obtain ⟨k,rfl⟩: ∃j,k=j+1:=⟨k-1,by omega⟩
  have e:a.drop j=[]:=List.drop_of_length_le (by omega)
  rw [e,mU,List.append_nil]
  exact ⟨by rw [ao.l2,if_neg (by rw [decide_eq_true_eq,ag];omega)],fun _ _=>by rw [ao.l1,if_neg (by rw [decide_eq_true_eq,ag];omega)]⟩
 | succ d ih=>
  intro k j i σ made acc hj h hd hacc hk
  obtain ⟨k,rfl⟩: ∃j,k=j+1:=⟨k-1,by omega⟩
  obtain ⟨c1,c0,a2,c,rc,dc,mc⟩:=Ax P hj ha
  have hc:=hx c mc
  obtain ⟨bA,bB⟩:=Tl P hm (dir:=dir) h hd hc (k:=k) (by omega)
  have nx:=ih (k:=k) (j:=j+1) (σ:=mS m dir (fresh E m σ) c) (acc:=acc++[lq (fresh E m σ) c]) (by omega) (sy P (.inr hm) h hc) (Dd P hm (dir:=dir) h hd c) (by rw [List.length_append,List.length_singleton];omega) (by omega)
  have er:acc++[lq (fresh E m σ) c]++mU E m dir (mS m dir (fresh E m σ) c) (a.drop (j+1))=acc++mU E m dir σ (a.drop j):=by rw [dc,mU,List.append_assoc];rfl
  rw [er] at nx
  have fa: ∀x:Int,decide ((il acc).length+([x]:List Int).length≤1000000000)=true:=fun x=>by rw [decide_eq_true_eq,ag,List.length_singleton];omega
  constructor
  ·rw [ao.l2,if_pos c1,if_neg (by rw [m1];decide),if_neg (by rw [m2];decide),if_neg (by rw [m3];decide)];unfold gd
   rw [if_pos c0,if_pos c1,rc,bA,Option.bind_some,a2]
   cases g:qI m (fresh E m σ) with
   | false=>
    dsimp only [oB]
    rw [if_pos (fa _),mz]
    exact nx.1
   | true=>
    obtain ⟨g1,g2⟩:=o6 (dir:=dir) (c:=c) g
    dsimp only [oB]
    rw [if_pos (fa _),mz]
    exact nx.2 g1 g2
  ·intro e1 e2
   have bB:=bB e1 e2
   unfold RM at bB
   rw [e2] at bB
   have bB':du.f k ((D.1,D.2.1,D.2.2.1,D.2.2.2.1,D.2.2.2.2.1,D.2.2.2.2.2),(m:Int),dir,il σ.v,il made,(i:Int),[]) (c:Int)=_:=bB
   rw [ao.l1,if_pos c1,if_neg (by rw [m1];decide),if_neg (by rw [m2];decide),if_neg (by rw [m3];decide)];unfold gd
   rw [if_pos c0,if_pos c1,rc,bB',Option.bind_some,a2]
   cases g:qI m (fresh E m σ) with
   | false=>
    dsimp only [oB]
    rw [if_pos (fa _),mz]
    exact nx.1
   | true=>
    obtain ⟨g1,g2⟩:=o6 (dir:=dir) (c:=c) g
    dsimp only [oB]
    rw [if_pos (fa _),mz]
    exact nx.2 g1 g2
theorem ST (hm:m=4∨m=5∨m=6) {a:List Nat} (hx: ∀x∈a,x<256) (ha:a.length≤100000) {k:Nat} {v:List Nat} (hv:Bk s v) (hk:3000+a.length+1≤k):
 ao.l0 k (il a) 1 D.1 D.2.1 D.2.2.1 D.2.2.2.1 D.2.2.2.2.1 D.2.2.2.2.2 (m:Int) dir (il v) [] 0 [] 0=some (il (mU E m dir ⟨v,[],[]⟩ a),0):=by
 have m1:((m:Int)==1)=false:=by rw [beq_eq_false_iff_ne];omega
 have m2:((m:Int)==2)=false:=by rw [beq_eq_false_iff_ne];omega
 have m3:((m:Int)==3)=false:=by rw [beq_eq_false_iff_ne];omega
 obtain ⟨k,rfl⟩: ∃j,k=j+1:=⟨k-1,by omega⟩
 have h:So s m ⟨v,[],[]⟩:=⟨hv,fun x hx=>(List.not_mem_nil hx).elim,fun x hx=>(List.not_mem_nil hx).elim,.inl rfl⟩
 have hd:DR s ⟨v,[],[]⟩ [] 0:=⟨rfl,fun x hx=>(List.not_mem_nil hx).elim,.inl ⟨rfl,rfl⟩⟩
 by_cases hz:a=[]
 ·subst hz
  rw [ao.l0,if_neg (by decide)];rfl
 ·have hl:=List.length_pos_iff.2 hz
  obtain ⟨c1,c0,a2,c,rc,dc,mc⟩:=Ax P (a:=a) (j:=0) (d:=a.length-1) (by omega) ha
  have hc:=hx c mc
  obtain ⟨bA,_⟩:=Tl P hm (dir:=dir) h hd hc (k:=k) (by omega)
  have nx:=SS P hm hx ha (dir:=dir) (a.length-1) (k:=k) (j:=0+1) (acc:=[lq (fresh E m ⟨v,[],[]⟩) c]) (by omega) (sy P (.inr hm) h hc) (Dd P hm (dir:=dir) h hd c) (by rw [List.length_singleton];omega) (by omega)
  have er:[lq (fresh E m ⟨v,[],[]⟩) c]++mU E m dir (mS m dir (fresh E m ⟨v,[],[]⟩) c) (a.drop (0+1))=mU E m dir ⟨v,[],[]⟩ a:=by
   have:a=c::a.drop (0+1):=dc
   conv=>rhs;rw [this]
   rw [mU];rfl
  rw [er] at nx
  have bA':b7.f k ((D.1,D.2.1,D.2.2.1,D.2.2.2.1,D.2.2.2.2.1,D.2.2.2.2.2),(m:Int),dir,il v,[],0,[]) (c:Int)=_:=bA
  have fa: ∀x:Int,decide (([]:List Int).length+([x]:List Int).length≤1000000000)=true:=fun x=>rfl
  have rc':rd (il a) 0=(c:Int):=rc
  have c1':decide ((0:Int)<((il a).length:Int))=true:=c1
  have c0':decide ((0:Int)≤0)=true:=rfl
  have a2':ak ((0:Int)+1)=((0+1:Nat):Int):=a2
  rw [ao.l0,if_pos c1',if_neg (by rw [m1];decide),if_neg (by rw [m2];decide),if_neg (by rw [m3];decide)];unfold gd
  rw [if_pos c0',if_pos c1',rc',bA',Option.bind_some,a2']
  cases g:qI m (fresh E m ⟨v,[],[]⟩) with
  | false=>
   dsimp only [oB]
   rw [if_pos (fa _)]
   exact nx.1
  | true=>
   obtain ⟨g1,g2⟩:=o6 (dir:=dir) (c:=c) g
   dsimp only [oB]
   rw [if_pos (fa _)]
   exact nx.2 g1 g2
theorem SU {a:List Nat} (hx: ∀x∈a,x<256) (ha:a.length≤100000) (d:Nat): ∀ {k j:Nat} {σ:St} {acc:List Nat},j+d=a.length→So s 3 σ→σ.q=[]→acc.length+d≤100000→3000+d+1≤k→
 ao.l0 k (il a) 1 D.1 D.2.1 D.2.2.1 D.2.2.2.1 D.2.2.2.2.1 D.2.2.2.2.2 3 dir (il σ.v) [] 0 (il acc) (j:Int)=some (il (acc++mU E 3 dir σ (a.drop j)),0):=by
 induction d with
 | zero=>
  intro k j σ acc hj h hq hacc hk
  obtain ⟨k,rfl⟩: ∃j,k=j+1:=⟨k-1,by omega⟩
  have e:a.drop j=[]:=List.drop_of_length_le (by omega)
  rw [e,mU,List.append_nil,ao.l0,if_neg (by rw [decide_eq_true_eq,ag];omega)]
 | succ d ih=>
  intro k j σ acc hj h hq hacc hk
  obtain ⟨k,rfl⟩: ∃j,k=j+1:=⟨k-1,by omega⟩
  obtain ⟨c1,c0,a2,c,rc,dc,mc⟩:=Ax P hj ha
  have hc:=hx c mc
  have b:=TW P (dir:=dir) h hq [] 0 hc (k:=k) (by omega) []
  have b':dj.f k ((D.1,D.2.1,D.2.2.1,D.2.2.2.1,D.2.2.2.2.1,D.2.2.2.2.2),3,dir,il σ.v,[],0,[]) (c:Int)=_:=b
  have nx:=ih (k:=k) (j:=j+1) (σ:=mS 3 dir (fresh E 3 σ) c) (acc:=acc++[lq (fresh E 3 σ) c]) (by omega) (sy P (.inl rfl) h hc) rfl (by rw [List.length_append,List.length_singleton];omega) (by omega)
  have er:acc++[lq (fresh E 3 σ) c]++mU E 3 dir (mS 3 dir (fresh E 3 σ) c) (a.drop (j+1))=acc++mU E 3 dir σ (a.drop j):=by rw [dc,mU,List.append_assoc];rfl
  rw [er] at nx
  have fa: ∀x:Int,decide ((il acc).length+([x]:List Int).length≤1000000000)=true:=fun x=>by rw [decide_eq_true_eq,ag,List.length_singleton];omega
  rw [ao.l0,if_pos c1,if_neg (by decide),if_neg (by decide),if_pos (by decide)];unfold gd
  rw [if_pos c0,if_pos c1,rc,b',Option.bind_some,a2]
  dsimp only
  rw [if_pos (fa _),mz]
  exact nx
end
def blk (E:Bool→List Nat→List Nat) (s m:Nat) (dir:Bool) (v b:List Nat):List Nat×List Nat:=
 if m=1 then (E dir b,v) else bif dir then (Ds.xL s (E true b) v,b) else (E false (Ds.xL s b v),E false (Ds.xL s b v))
def jx (E:Bool→List Nat→List Nat) (s m:Nat) (dir:Bool):Nat→List Nat→List Nat→List Nat×List Nat
 | 0,v,_=>([],v)
 | q+1,v,x=>((blk E s m dir v (x.take s)).1++(jx E s m dir q (blk E s m dir v (x.take s)).2 (x.drop s)).1,(jx E s m dir q (blk E s m dir v (x.take s)).2 (x.drop s)).2)
theorem sV {x:List Nat} (h:x.length≤100000) (k:Nat):an.f k (il x)=some (il x):=by
 unfold an.f gd
 rw [if_pos (by rw [decide_eq_true_eq,ag,List.length_nil];omega)];rfl
theorem jt (l:List Nat) (n:Nat):(il l).take n=il (l.take n):=by simp [il,List.map_take]
theorem jm (l:List Nat) (n:Nat):(il l).drop n=il (l.drop n):=by simp [il,List.map_drop]
theorem lE (a b:List Nat):il a++il b=il (a++b):=by simp [il]
def Vo (s m:Nat) (v:List Nat):Prop:=if m=1 then True else Bk s v
section
variable {t:Int} {s:Nat} {C:Int×Tn} {D:DT} {E:Bool→List Nat→List Nat} (P:Pr t s C D E) {m:Nat} (hm:m=1∨m=2) {dir:Bool}
include P hm
theorem u9 {v b:List Nat} (hv:Vo s m v) (hb:Bk s b):Bk s (blk E s m dir v b).1∧Vo s m (blk E s m dir v b).2:=by
 unfold blk
 rcases hm with rfl | rfl
 ·rw [if_pos rfl];exact ⟨P.ok _ _ hb,trivial⟩
 ·have hv:Bk s v:=hv
  rw [if_neg (by decide)]
  cases dir with
  | true=>exact ⟨⟨Ds.jH _ _ _,Ds.tc (P.ok _ _ hb).2 hv.2⟩,hb⟩
  | false=>
   have:Bk s (E false (Ds.xL s b v)):=P.ok _ _ ⟨Ds.jH _ _ _,Ds.tc hb.2 hv.2⟩
   exact ⟨this,this⟩
theorem HL {v b:List Nat} (hv:Vo s m v) (hb:Bk s b) (made:List Int) (made2:List Int) (ix:Int) {k:Nat} (hk:3000≤k):
 fp.f k ((C.1,C.2),(m:Int),dir,il v,made,[]) (il b)=some (il (blk E s m dir v b).1,((C.1,C.2),(m:Int),dir,il (blk E s m dir v b).2,made,[]))∧
 cQ.f k ((D.1,D.2.1,D.2.2.1,D.2.2.2.1,D.2.2.2.2.1,D.2.2.2.2.2),(m:Int),dir,il v,made2,ix,[]) (il b)=some (il (blk E s m dir v b).1,((D.1,D.2.1,D.2.2.1,D.2.2.2.1,D.2.2.2.2.1,D.2.2.2.2.2),(m:Int),dir,il (blk E s m dir v b).2,made2,ix,[])):=by
 have s1:=P.s1
 have e1:bK.f k (C.1,C.2) (il b)=some (il (E false b),0):=P.en k b hk hb
 have e2:bV.f k (C.1,C.2) (il b)=some (il (E true b),0):=P.de k b hk hb
 have r1: ∀x,Bk s x→aD.f k (D.1,D.2.1,D.2.2.1,D.2.2.2.1,D.2.2.2.2.1,D.2.2.2.2.2) (il x)=some (il (E false x)):=fun x hx=>by
  unfold aD.f
  show (bG.f k D (il x) false).bind _=_
  rw [P.bl k false x hk hx,Option.bind_some]
 have r2:aV.f k (D.1,D.2.1,D.2.2.1,D.2.2.2.1,D.2.2.2.2.1,D.2.2.2.2.2) (il b)=some (il (E true b)):=by
  unfold aV.f
  show (bG.f k D (il b) true).bind _=_
  rw [P.bl k true b hk hb,Option.bind_some]
 have i11:(((1:Nat):Int)==1)=true:=rfl
 have i21:(((2:Nat):Int)==1)=false:=rfl
 unfold fp.f cQ.f blk
 rcases hm with rfl | rfl
 ·have r1b:=r1 b hb
  cases dir<;>simp only [i11,if_true,if_false,Bool.false_eq_true,e1,e2,r1b,r2,Option.bind_some]<;>(refine ⟨?_,?_⟩<;>trivial)
 ·have hv:Bk s v:=hv
  have hbl:=hb.1
  have hc:=sV (x:=b) (by omega) k
  have gb:decide (([]:List Int).length+(il b).length≤1000000000)=true:=by rw [decide_eq_true_eq,ag,List.length_nil];omega
  have oT:=P.ok true b hb
  obtain ⟨x1,x2⟩:=Ds.n8 oT.1 hv.1 (by omega) oT.2 hv.2 (k:=k) (by omega)
  obtain ⟨y1,y2⟩:=Ds.n8 hb.1 hv.1 (by omega) hb.2 hv.2 (k:=k) (by omega)
  have oX:Bk s (Ds.xL s b v):=⟨Ds.jH _ _ _,Ds.tc hb.2 hv.2⟩
  have e3:bK.f k (C.1,C.2) (il (Ds.xL s b v))=some (il (E false (Ds.xL s b v)),0):=P.en k _ hk oX
  have r3:=r1 _ oX
  have oF:=(P.ok false _ oX).1
  have hc2:=sV (x:=E false (Ds.xL s b v)) (by omega) k
  have h21:((2:Nat)=1)=False:=by simp
  cases dir<;>simp only [i21,h21,gd,if_true,if_false,Bool.false_eq_true,e2,r2,e3,r3,x1,x2,y1,y2,hc,hc2,gb,Option.bind_some,List.nil_append,cond_true,cond_false]<;>(refine ⟨?_,?_⟩<;>trivial)
theorem HM {x:List Nat} (hx: ∀y∈x,y<256) {q:Nat} (hl:x.length=(q+1)*s):Bk s (x.take s)∧(x.drop s).length=q*s∧ ∀y∈x.drop s,y<256:=by
 rw [Nat.add_mul,Nat.one_mul] at hl
 exact ⟨⟨by rw [List.length_take];omega,fun y hy=>hx y (List.mem_of_mem_take hy)⟩,by rw [List.length_drop];omega,fun y hy=>hx y (List.mem_of_mem_drop hy)⟩
theorem De (q:Nat): ∀ {v x:List Nat},Vo s m v→(∀y∈x,y<256)→x.length=q*s→(jx E s m dir q v x).1.length=q*s∧(∀y∈(jx E s m dir q v x).1,y<256)∧Vo s m (jx E s m dir q v x).2:=by
 induction q with
 | zero=>intro v x hv hx hl;exact ⟨by rw [Nat.zero_mul];rfl,fun y hy=>(List.not_mem_nil hy).elim,hv⟩
 | succ q ih=>
  intro v x hv hx hl
  obtain ⟨t1,t2,t3⟩:=HM P hm hx hl
  obtain ⟨b1,b2⟩:=u9 P hm (dir:=dir) hv t1
  obtain ⟨i1,i2,i3⟩:=ih b2 t3 t2
  unfold jx
  refine ⟨by rw [List.length_append,i1,b1.1,Nat.add_mul,Nat.one_mul];omega,fun y hy=> ?_,i3⟩
  rcases List.mem_append.1 hy with hy | hy
  ·exact b1.2 y hy
  ·exact i2 y hy
theorem SV (q:Nat): ∀ {k:Nat} {v x acc:List Nat} {made:List Int},Vo s m v→(∀y∈x,y<256)→x.length=q*s→acc.length+q*s≤100000→3000+q+1≤k→
 ax.l0 k (s:Int) C.1 C.2 (m:Int) dir (il v) made (il x) (il acc)=some (il (acc++(jx E s m dir q v x).1),0)∧
 cO.l0 k (s:Int) (il x) (il acc) C.1 C.2 (m:Int) dir (il v) made=some (il (acc++(jx E s m dir q v x).1),0,((C.1,C.2),(m:Int),dir,il (jx E s m dir q v x).2,made,[])):=by
 have s1:=P.s1
 induction q with
 | zero=>
  intro k v x acc made hv hx hl ha hk
  obtain ⟨k,rfl⟩: ∃j,k=j+1:=⟨k-1,by omega⟩
  rw [Nat.zero_mul] at hl
  have e:x=[]:=List.length_eq_zero_iff.1 hl
  subst e
  rw [jx]
  dsimp only
  rw [List.append_nil]
  exact ⟨by rw [ax.l0,if_pos (by rfl)],by rw [cO.l0,if_pos (by rfl)]⟩
 | succ q ih=>
  intro k v x acc made hv hx hl ha hk
  obtain ⟨k,rfl⟩: ∃j,k=j+1:=⟨k-1,by omega⟩
  obtain ⟨t1,t2,t3⟩:=HM P hm hx hl
  obtain ⟨b1,b2⟩:=u9 P hm (dir:=dir) hv t1
  have be:=(HL P hm (dir:=dir) hv t1 made [] 0 (k:=k) (by omega)).1
  have hls:(q+1)*s=q*s+s:=by rw [Nat.add_mul,Nat.one_mul]
  have nx:=ih (k:=k) (acc:=acc++(blk E s m dir v (x.take s)).1) (made:=made) b2 t3 t2 (by rw [List.length_append,b1.1];omega) (by omega)
  rw [List.append_assoc] at nx
  have z:¬ (((il x).length:Int)==0)=true:=by rw [ag,beq_iff_eq];omega
  have s0:¬ ((s:Int)==1)=true:=by rw [beq_iff_eq];omega
  have f0:decide (0≤(s:Int))=true:=by rw [decide_eq_true_eq];omega
  have f1:decide ((s:Int)≤((il x).length:Int))=true:=by rw [decide_eq_true_eq,ag];omega
  have fa:decide ((il acc).length+(il (blk E s m dir v (x.take s)).1).length≤1000000000)=true:=by rw [decide_eq_true_eq,ag,ag,b1.1];omega
  constructor
  ·rw [ax.l0,if_neg z,if_neg s0];unfold gd
   rw [if_pos f0,if_pos f1,Int.toNat_natCast,jt,be,Option.bind_some]
   dsimp only
   rw [if_pos fa,if_pos f0,if_pos f1,jm,lE]
   exact nx.1
  ·rw [cO.l0,if_neg z,if_neg s0];unfold gd
   rw [if_pos f0,if_pos f1,Int.toNat_natCast,jt,be,Option.bind_some]
   dsimp only
   rw [if_pos fa,if_pos f0,if_pos f1,jm,lE]
   exact nx.2
theorem J6 {a:List Nat} (hx: ∀y∈a,y<256) (hA:a.length≤100000) (q:Nat): ∀ {k j:Nat} {v acc:List Nat} {made:List Int} {ix:Int},Vo s m v→j+q*s=a.length→acc.length+q*s≤100000→3000+q+1≤k→
 ao.l0 k (il a) (s:Int) D.1 D.2.1 D.2.2.1 D.2.2.2.1 D.2.2.2.2.1 D.2.2.2.2.2 (m:Int) dir (il v) made ix (il acc) (j:Int)=some (il (acc++(jx E s m dir q v (a.drop j)).1),0)∧
 aN.l0 k (il a) (s:Int) (il acc) (j:Int) D.1 D.2.1 D.2.2.1 D.2.2.2.1 D.2.2.2.2.1 D.2.2.2.2.2 (m:Int) dir (il v) made ix=some (il (acc++(jx E s m dir q v (a.drop j)).1),0,((D.1,D.2.1,D.2.2.1,D.2.2.2.1,D.2.2.2.2.1,D.2.2.2.2.2),(m:Int),dir,il (jx E s m dir q v (a.drop j)).2,made,ix,[])):=by
 have s1:=P.s1
 induction q with
 | zero=>
  intro k j v acc made ix hv hl ha hk
  obtain ⟨k,rfl⟩: ∃j,k=j+1:=⟨k-1,by omega⟩
  rw [Nat.zero_mul] at hl
  rw [jx]
  dsimp only
  rw [List.append_nil]
  exact ⟨by rw [ao.l0,if_neg (by rw [decide_eq_true_eq,ag];omega)],by rw [aN.l0,if_neg (by rw [decide_eq_true_eq,ag];omega)]⟩
 | succ q ih=>
  intro k j v acc made ix hv hl ha hk
  obtain ⟨k,rfl⟩: ∃j,k=j+1:=⟨k-1,by omega⟩
  have hls:(q+1)*s=q*s+s:=by rw [Nat.add_mul,Nat.one_mul]
  obtain ⟨t1,t2,t3⟩:=HM P hm (x:=a.drop j) (fun y hy=>hx y (List.mem_of_mem_drop hy)) (q:=q) (by rw [List.length_drop];omega)
  obtain ⟨b1,b2⟩:=u9 P hm (dir:=dir) hv t1
  have be:=(HL P hm (dir:=dir) hv t1 [] made ix (k:=k) (by omega)).2
  have nx:=ih (k:=k) (j:=j+s) (acc:=acc++(blk E s m dir v ((a.drop j).take s)).1) (made:=made) (ix:=ix) b2 (by omega) (by rw [List.length_append,b1.1];omega) (by omega)
  rw [List.append_assoc,←List.drop_drop] at nx
  have f0:decide (0≤(j:Int))=true:=by rw [decide_eq_true_eq];omega
  have a2:ak ((j:Int)+(s:Int))=((j+s:Nat):Int):=au (n:=j+s) (by omega)
  have f1:decide ((j:Int)≤((j+s:Nat):Int))=true:=by rw [decide_eq_true_eq];omega
  have f2:decide (((j+s:Nat):Int)≤((il a).length:Int))=true:=by rw [decide_eq_true_eq,ag];omega
  have fl:decide ((j:Int)<((il a).length:Int))=true:=by rw [decide_eq_true_eq,ag];omega
  have cut:((il a).take (j+s)).drop j=il ((a.drop j).take s):=by rw [jt,jm,List.drop_take,Nat.add_sub_cancel_left]
  have fa:decide ((il acc).length+(il (blk E s m dir v ((a.drop j).take s)).1).length≤1000000000)=true:=by rw [decide_eq_true_eq,ag,ag,b1.1];omega
  have iN: ∀n:Nat,(n:Int).toNat=n:=Int.toNat_natCast
  have i11:(((1:Nat):Int)==1)=true:=rfl
  have i21:(((2:Nat):Int)==1)=false:=rfl
  have i22:(((2:Nat):Int)==2)=true:=rfl
  constructor
  ·rw [ao.l0,if_pos fl];unfold gd
   rw [a2,if_pos f0,if_pos f1,if_pos f2,iN,iN,cut,be,Option.bind_some]
   dsimp only
   rw [if_pos fa,lE]
   rcases hm with rfl | rfl
   ·rw [if_pos i11];exact nx.1
   ·rw [if_neg (by rw [i21];decide),if_pos i22];exact nx.1
  ·rw [aN.l0,if_pos fl];unfold gd
   rw [a2,if_pos f0,if_pos f1,if_pos f2,iN,iN,cut,be,Option.bind_some]
   dsimp only
   rw [if_pos fa,lE]
   rcases hm with rfl | rfl
   ·rw [if_pos i11];exact nx.2
   ·rw [if_neg (by rw [i21];decide),if_pos i22];exact nx.2
end
theorem xi {n:Nat} (hn:n≤100000) (k:Nat):ep.f k (n:Int)=some []:=by
 have e0:ak (0-0)=0:=rfl
 have e1:ak ((n:Int)-0)=(n:Int):=by rw [cA (by omega) (by omega)];omega
 unfold ep.f gd
 rw [e0,e1,if_neg (by rw [decide_eq_true_eq];omega)]
 by_cases h:n=0
 ·subst h;rfl
 ·rw [if_pos (by rw [decide_eq_true_eq];omega),if_pos (by decide),if_pos (by decide),if_pos (by rw [decide_eq_true_eq];omega),if_pos (by rw [decide_eq_true_eq];omega),if_pos (by decide),if_pos (by rw [decide_eq_true_eq,List.length_replicate,Int.toNat_natCast];omega),List.take_zero]
theorem zn {a b:List Nat} (ha:a.length≤10000) (hb:b.length≤10000) {k:Nat} (hk:20≤k):ai.f k [il a,il b]=some (il (a++b)):=by
 obtain ⟨k,rfl⟩: ∃j,k=j+6:=⟨k-6,by omega⟩
 have n0:ak ((0:Int)+((il a).length:Int))=(a.length:Int):=by rw [ag,cA (by omega) (by omega)];omega
 have n1:ak ((a.length:Int)+((il b).length:Int))=((a.length+b.length:Nat):Int):=by rw [ag];exact au (n:=a.length+b.length) (by omega)
 have r0:rr [il a,il b] 0=il a:=rfl
 have r1:rr [il a,il b] 1=il b:=rfl
 have i1:ak ((0:Int)+1)=1:=rfl
 have i2:ak ((1:Int)+1)=2:=rfl
 have c0:decide ((0:Int)<(([il a,il b]:List (List Int)).length:Int))=true:=rfl
 have c1:decide ((1:Int)<(([il a,il b]:List (List Int)).length:Int))=true:=rfl
 have c2:decide ((2:Int)<(([il a,il b]:List (List Int)).length:Int))=false:=rfl
 have z0:decide ((0:Int)≤0)=true:=rfl
 have z1:decide ((0:Int)≤1)=true:=rfl
 have nf:(false=true)=False:=by simp
 unfold ai.f
 rw [ai.l0,if_pos c0];unfold gd
 rw [if_pos z0,if_pos c0,r0,n0,if_neg (by rw [decide_eq_true_eq];omega),i1,ai.l0,if_pos c1];unfold gd
 rw [if_pos z1,if_pos c1,r1,n1,if_neg (by rw [decide_eq_true_eq];omega),i2,ai.l0,c2,if_neg (by decide),xi (by omega),Option.bind_some,ai.l1,if_pos c0];unfold gd
 rw [if_pos z0,if_pos c0,r0,if_pos (by rw [decide_eq_true_eq,ag,List.length_nil];omega),i1,ai.l1,if_pos c1];unfold gd
 rw [if_pos z1,if_pos c1,r1,List.nil_append,if_pos (by rw [decide_eq_true_eq,ag,ag];omega),i2,ai.l1,c2,if_neg (by decide),lE]
theorem Ka {sh lo:List Nat} (hs: ∀x∈sh,x<256) (hlo: ∀x∈lo,x<256) (hl:sh.length≤lo.length) (h1:lo.length≤10000) (d:Nat): ∀ {k i:Nat} {x:List Nat},i+d=sh.length→x.length=lo.length→(∀v∈x,v<256)→(∀j,j<lo.length→x.getD j 0=if j<i then sh.getD j 0 ^^^ lo.getD j 0 else lo.getD j 0)→d<k→
 db.l0 k (il x) (il sh) (sh.length:Int) (i:Int)=some (il (Ds.xL lo.length sh lo)):=by
 induction d with
 | zero=>
  intro k i x hi hx hb hv hk
  obtain ⟨k,rfl⟩: ∃j,k=j+1:=⟨k-1,by omega⟩
  rw [db.l0,if_neg (by rw [decide_eq_true_eq];omega)]
  congr 2
  refine List.ext_getElem (by rw [hx,Ds.jH]) fun j h2 h3=> ?_
  have hj:j<lo.length:=by omega
  have:=hv j hj
  rw [List.getD_eq_getElem?_getD,List.getElem?_eq_getElem h2,Option.getD_some] at this
  rw [this]
  have e:(Ds.xL lo.length sh lo)[j]=sh.getD j 0 ^^^ lo.getD j 0:=by simp [Ds.xL]
  rw [e]
  split
  ·rfl
  ·have:sh.getD j 0=0:=by rw [List.getD_eq_getElem?_getD,List.getElem?_eq_none (by omega)];rfl
   rw [this,Nat.zero_xor]
 | succ d ih=>
  intro k i x hi hx hb hv hk
  obtain ⟨k,rfl⟩: ∃j,k=j+1:=⟨k-1,by omega⟩
  have c0:decide (0≤(i:Int))=true:=by rw [decide_eq_true_eq];omega
  have a2:ak ((i:Int)+1)=((i+1:Nat):Int):=au (n:=i+1) (by omega)
  have xv:=hv i (by omega)
  rw [if_neg (by omega)] at xv
  have bx:aK .u8 ((x.getD i 0:Nat):Int) ((sh.getD i 0:Nat):Int)=((sh.getD i 0 ^^^ lo.getD i 0:Nat):Int):=by
   rw [xv,BZ (dN hlo i) (dN hs i),Nat.xor_comm]
  rw [db.l0,if_pos (by rw [decide_eq_true_eq];omega)];unfold gd
  rw [if_pos c0,if_pos (by rw [decide_eq_true_eq,ag];omega),if_pos c0,if_pos (by rw [decide_eq_true_eq,ag];omega),if_pos c0,if_pos (by rw [decide_eq_true_eq,ag];omega),bf,bf,bx,a2,Int.toNat_natCast,kw]
  refine ih (by omega) (by rw [List.length_set];exact hx) (fun v hv'=> ?_) (fun j hj=> ?_) (by omega)
  ·rcases List.mem_or_eq_of_mem_set hv' with hv' | rfl
   ·exact hb v hv'
   ·exact Nat.xor_lt_two_pow (n:=8) (dN hs i) (dN hlo i)
  ·rw [List.getD_eq_getElem?_getD,List.getElem?_set]
   by_cases e:i=j
   ·subst e;rw [if_pos rfl,if_pos (by omega),if_pos (by omega)];rfl
   ·rw [if_neg e,←List.getD_eq_getElem?_getD,hv j hj]
    by_cases g:j<i
    ·rw [if_pos g,if_pos (by omega)]
    ·rw [if_neg g,if_neg (by omega)]
theorem Kb (n:Nat) (a b:List Nat):Ds.xL n a b=Ds.xL n b a:=by unfold Ds.xL;congr 1;funext i;exact Nat.xor_comm _ _
theorem Kc {a b:List Nat} (ha: ∀x∈a,x<256) (hb: ∀x∈b,x<256) (la:a.length≤10000) (lb:b.length≤10000) {k:Nat} (hk:10001≤k):db.f k (il a) (il b)=some (il (Ds.xL (max a.length b.length) a b)):=by
 have go: ∀(sh lo:List Nat),(∀x∈sh,x<256)→(∀x∈lo,x<256)→sh.length≤lo.length→lo.length≤10000→db.l0 k (il lo) (il sh) ((il sh).length:Int) 0=some (il (Ds.xL lo.length sh lo)):=fun sh lo h1 h2 h3 h4=>by
  rw [ag]
  exact Ka h1 h2 h3 h4 sh.length (i:=0) (by omega) rfl h2 (fun j _=>by rw [if_neg (by omega)]) (by omega)
 unfold db.f
 rw [sV (by omega),sV (by omega),Option.bind_some,Option.bind_some]
 by_cases h:a.length<b.length
 ·rw [if_pos (by rw [decide_eq_true_eq,ag,ag];omega),go a b ha hb (by omega) lb,show max a.length b.length=b.length by omega]
 ·rw [if_neg (by rw [decide_eq_true_eq,ag,ag];omega),go b a hb ha (by omega) la,show max a.length b.length=a.length by omega,Kb]
theorem NJ {n:Nat} (a b:List Nat) (j:Nat):Ds.xL n (a++List.replicate j 0) b=Ds.xL n a b:=by
 unfold Ds.xL
 congr 1;funext i;congr 1
 rw [List.getD_eq_getElem?_getD,List.getD_eq_getElem?_getD,List.getElem?_append]
 split
 ·rfl
 ·next h=>
  rw [List.getElem?_eq_none (l:=a) (by omega),List.getElem?_replicate]
  split<;>rfl
def pM (E:Bool→List Nat→List Nat) (s m:Nat) (dir:Bool) (iv x:List Nat):List Nat:=
 if x.length=s then bif dir then Ds.xL s (E true x) iv else E false (Ds.xL s x iv)
 else bif dir then
  bif decide (m=9∨m=8∧x.length≠2*s) then
   Ds.xL s (E true (x.drop s++(E true (x.take s)).drop (x.length-s))) iv++Ds.xL (x.length-s) ((E true (x.take s)).take (x.length-s)) (x.drop s)
  else Ds.xL s (E true (x.take (x.length-s)++(E true (x.drop (x.length-s))).drop (x.length-s))) iv++Ds.xL (x.length-s) ((E true (x.drop (x.length-s))).take (x.length-s)) (x.take (x.length-s))
 else
  bif decide (m=9∨m=8∧x.length≠2*s) then E false (Ds.xL s (x.drop s) (E false (Ds.xL s (x.take s) iv)))++(E false (Ds.xL s (x.take s) iv)).take (x.length-s)
  else (E false (Ds.xL s (x.take s) iv)).take (x.length-s)++E false (Ds.xL s (x.drop s) (E false (Ds.xL s (x.take s) iv)))
theorem Bk.tk {n:Nat} {x:List Nat} (h: ∀y∈x,y<256) (hl:n≤x.length):Bk n (x.take n):=⟨by rw [List.length_take];omega,fun y hy=>h y (List.mem_of_mem_take hy)⟩
theorem Bk.dp {n j:Nat} {x:List Nat} (h: ∀y∈x,y<256) (hl:x.length=n+j):Bk n (x.drop j):=⟨by rw [List.length_drop];omega,fun y hy=>h y (List.mem_of_mem_drop hy)⟩
theorem Bk.ap {n j:Nat} {x y:List Nat} (h:Bk n x) (g:Bk j y):Bk (n+j) (x++y):=⟨by rw [List.length_append,h.1,g.1],fun z hz=>by
 rcases List.mem_append.1 hz with hz | hz
 ·exact h.2 z hz
 ·exact g.2 z hz⟩
theorem Bk.xL {n:Nat} {a b:List Nat} (ha: ∀y∈a,y<256) (hb: ∀y∈b,y<256):Bk n (Ds.xL n a b):=⟨Ds.jH _ _ _,Ds.tc ha hb⟩
section
variable {t:Int} {s:Nat} {C:Int×Tn} {D:DT} {E:Bool→List Nat→List Nat} (P:Pr t s C D E)
include P
theorem Df {b:List Nat} (hb:Bk s b) {k:Nat} (hk:3000≤k):aV.f k D (il b)=some (il (E true b)):=by
 unfold aV.f
 show (bG.f k D (il b) true).bind _=_
 rw [P.bl k true b hk hb,Option.bind_some]
theorem NK {b:List Nat} (hb:Bk s b) {k:Nat} (hk:3000≤k):aD.f k D (il b)=some (il (E false b)):=by
 unfold aD.f
 show (bG.f k D (il b) false).bind _=_
 rw [P.bl k false b hk hb,Option.bind_some]
theorem kK (k:Nat):aO.f k C=some (s:Int)∧bg.f k D=some (s:Int):=by
 unfold aO.f bg.f
 rw [P.ct,P.dt,P.cs,P.ds];exact ⟨rfl,rfl⟩
theorem xT {a b:List Nat} {n:Nat} (ha: ∀x∈a,x<256) (hb:Bk n b) (hl:a.length≤n) (hn:n≤100) {k:Nat} (hk:10001≤k):db.f k (il a) (il b)=some (il (Ds.xL n a b)):=by
 rw [Kc ha hb.2 (by omega) (by rw [hb.1];omega) hk,hb.1,show max a.length n=n by omega]
theorem NL {m:Nat} (hm:m=7∨m=8∨m=9) {dir:Bool} {iv x:List Nat} (hv:Bk s iv) (hx: ∀y∈x,y<256) (h1:s≤x.length) (h2:x.length≤2*s) {k:Nat} (hk:10002≤k):
 eB.f k C (m:Int) dir (il iv) (il x)=some (il (pM E s m dir iv x),0):=by
 obtain ⟨k,rfl⟩: ∃j,k=j+1:=⟨k-1,by omega⟩
 have s1:=P.s1
 have lx:((il x).length:Int)=(x.length:Int):=by rw [ag]
 have lv:((il iv).length:Int)=(s:Int):=by rw [ag,hv.1]
 have e2:ak (2*(s:Int))=((2*s:Nat):Int):=au (n:=2*s) (by omega)
 have er:ak ((x.length:Int)-(s:Int))=((x.length-s:Nat):Int):=by rw [cA (by omega) (by omega)];omega
 have sw:iI.f (k+1) (m:Int) ((x.length:Int)==((2*s:Nat):Int))=some (decide (m=9∨m=8∧x.length≠2*s),true):=by
  have eb:((x.length:Int)==((2*s:Nat):Int))=decide (x.length=2*s):=by rw [Bool.eq_iff_iff,beq_iff_eq,decide_eq_true_eq];omega
  rw [eb]
  rcases hm with rfl | rfl | rfl
  ·rfl
  ·show some (!decide (x.length=2*s),true)=_
   congr 2
   by_cases g:x.length=2*s<;>simp [g]
  ·rfl
 have fs0:decide (0≤(s:Int))=true:=by rw [decide_eq_true_eq];omega
 have fr0:decide (0≤((x.length-s:Nat):Int))=true:=by rw [decide_eq_true_eq];omega
 have fsx:decide ((s:Int)≤(x.length:Int))=true:=by rw [decide_eq_true_eq];omega
 have frx:decide (((x.length-s:Nat):Int)≤(x.length:Int))=true:=by rw [decide_eq_true_eq];omega
 have iN: ∀n:Nat,(n:Int).toNat=n:=Int.toNat_natCast
 unfold eB.f
 rw [(kK P (k+1)).1,Option.bind_some,lx,e2,sw,Option.bind_some,if_neg (by simp),lv,if_neg (by simp),if_neg (by rw [decide_eq_true_eq];omega),if_neg (by rw [decide_eq_true_eq];omega),eB.l0,lx]
 unfold pM
 generalize hz:decide (m=9∨m=8∧x.length≠2*s)=z
 by_cases e:x.length=s
 ·have bx:Bk s x:=⟨e,hx⟩
  rw [if_pos (by rw [e];simp),if_pos e]
  cases dir with
  | true=>
   have oT:=P.ok true x bx
   rw [if_pos rfl,P.de _ _ (by omega) bx,Option.bind_some,(Ds.n8 oT.1 hv.1 (by omega) oT.2 hv.2 (by omega)).1,Option.bind_some];rfl
  | false=>
   have oX:Bk s (Ds.xL s x iv):=Bk.xL hx hv.2
   have oF:=(P.ok false _ oX).1
   rw [if_neg Bool.false_ne_true,(Ds.n8 bx.1 hv.1 (by omega) bx.2 hv.2 (by omega)).1,Option.bind_some,P.en _ _ (by omega) oX,Option.bind_some,if_pos (by rw [ag,oF];simp)];rfl
 ·have q:¬ (((x.length:Int)==(s:Int)))=true:=by rw [beq_iff_eq];omega
  rw [if_neg q,if_neg q,if_neg e]
  have hrs:x.length-s≤s:=by omega
  have oD: ∀y∈x.drop s,y<256:=fun y hy=>hx y (List.mem_of_mem_drop hy)
  cases dir with
  | false=>
   rw [if_neg Bool.false_ne_true]
   have b1:Bk s (x.take s):=Bk.tk hx h1
   have p1:=xT P (k:=k) b1.2 hv (by rw [b1.1];exact Nat.le_refl _) (by omega) (by omega)
   have o1:Bk s (Ds.xL s (x.take s) iv):=Bk.xL b1.2 hv.2
   have o2:=P.ok false _ o1
   have p2:=xT P (k:=k) (a:=x.drop s) oD o2 (by rw [List.length_drop];omega) (by omega) (by omega)
   have o3:Bk s (Ds.xL s (x.drop s) (E false (Ds.xL s (x.take s) iv))):=Bk.xL oD o2.2
   have o4:=P.ok false _ o3
   have fl:decide (((x.length-s:Nat):Int)≤((il (E false (Ds.xL s (x.take s) iv))).length:Int))=true:=by rw [decide_eq_true_eq,ag,o2.1];omega
   unfold js.f gd
   rw [(kK P k).1,Option.bind_some,if_pos fs0,lx,if_pos fsx,iN,jt,p1,Option.bind_some,P.en _ _ (by omega) o1,Option.bind_some,if_pos fs0,if_pos fsx,jm,p2,Option.bind_some,P.en _ _ (by omega) o3,Option.bind_some,er,if_pos fr0,if_pos fl,iN,jt]
   cases z with
   | true=>rw [if_pos rfl,zn (by rw [o4.1];omega) (by rw [List.length_take,o2.1];omega) (by omega),Option.bind_some];rfl
   | false=>rw [if_neg Bool.false_ne_true,zn (by rw [List.length_take,o2.1];omega) (by rw [o4.1];omega) (by omega),Option.bind_some];rfl
  | true=>
   rw [if_pos rfl]
   have gen: ∀l o:List Nat,Bk s l→Bk (x.length-s) o→(gd (0≤((x.length-s:Nat):Int))<|gd (((x.length-s:Nat):Int)≤((il (E true l)).length:Int))<|(db.f k (il ((E true l).take (x.length-s))) (il o)).bind fun a=>gd (0≤((x.length-s:Nat):Int))<|gd (((x.length-s:Nat):Int)≤((il (E true l)).length:Int))<|(ai.f k [il o,il ((E true l).drop (x.length-s))]).bind fun b=>(bV.f k C b).bind fun e=>(db.f k e.1 (il iv)).bind fun g=>(ai.f k [g,a]).bind fun r=>some r)=some (il (Ds.xL s (E true (o++(E true l).drop (x.length-s))) iv++Ds.xL (x.length-s) ((E true l).take (x.length-s)) o)):=fun l o hl ho=>by
    have oE:=P.ok true l hl
    have fl:decide (((x.length-s:Nat):Int)≤((il (E true l)).length:Int))=true:=by rw [decide_eq_true_eq,ag,oE.1];omega
    have t1:Bk (x.length-s) ((E true l).take (x.length-s)):=Bk.tk oE.2 (by rw [oE.1];exact hrs)
    have p1:=xT P (k:=k) t1.2 ho (by rw [t1.1];exact Nat.le_refl _) (by omega) (by omega)
    have t2:Bk (s-(x.length-s)) ((E true l).drop (x.length-s)):=Bk.dp oE.2 (by rw [oE.1];omega)
    have ob:Bk s (o++(E true l).drop (x.length-s)):=by have:=ho.ap t2;rwa [show x.length-s+(s-(x.length-s))=s by omega] at this
    have oG:=P.ok true _ ob
    have p2:=xT P (k:=k) oG.2 hv (by rw [oG.1];exact Nat.le_refl _) (by omega) (by omega)
    unfold gd
    rw [if_pos fr0,if_pos fl,p1,Option.bind_some,if_pos fr0,if_pos fl,zn (by rw [ho.1];omega) (by rw [t2.1];omega) (by omega),Option.bind_some,P.de _ _ (by omega) ob,Option.bind_some,p2,Option.bind_some,zn (by rw [Ds.jH];omega) (by rw [Ds.jH];omega) (by omega),Option.bind_some]
   unfold iq.f
   rw [(kK P k).1,Option.bind_some,lx,er]
   cases z with
   | true=>
    have b1:Bk s (x.take s):=Bk.tk hx h1
    have b2:Bk (x.length-s) (x.drop s):=Bk.dp hx (by omega)
    have g:=gen _ _ b1 b2
    rw [if_pos rfl,iN,iN,jt,jm,P.de _ _ (by omega) b1,Option.bind_some]
    dsimp only
    rw [jt,jm]
    unfold gd at g ⊢
    rw [if_pos fr0,if_pos frx,if_pos fr0,if_pos frx,if_pos fs0,if_pos fsx,if_pos fs0,if_pos fsx,g,Option.bind_some];rfl
   | false=>
    have b1:Bk s (x.drop (x.length-s)):=Bk.dp hx (by omega)
    have b2:Bk (x.length-s) (x.take (x.length-s)):=Bk.tk hx (by omega)
    have g:=gen _ _ b1 b2
    rw [if_neg Bool.false_ne_true,iN,jt,jm,P.de _ _ (by omega) b1,Option.bind_some]
    dsimp only
    rw [jt,jm]
    unfold gd at g ⊢
    rw [if_pos fr0,if_pos frx,if_pos fr0,if_pos frx,g,Option.bind_some];rfl
end
section
variable {t:Int} {s:Nat} {C:Int×Tn} {D:DT} {E:Bool→List Nat→List Nat} (P:Pr t s C D E)
include P
theorem NM {m:Nat} (hm:m=7∨m=8∨m=9) {dir:Bool} {iv x:List Nat} (hv:Bk s iv) (hx: ∀y∈x,y<256) (h1:s≤x.length) (h2:x.length≤2*s) {k:Nat} (hk:3000≤k):
 gM.f k D (m:Int) dir (il iv) (il x)=some (il (pM E s m dir iv x),0):=by
 have s1:=P.s1
 have lx:((il x).length:Int)=(x.length:Int):=by rw [ag]
 have lv:((il iv).length:Int)=(s:Int):=by rw [ag,hv.1]
 have e2:ak (2*(s:Int))=((2*s:Nat):Int):=au (n:=2*s) (by omega)
 have er:ak ((x.length:Int)-(s:Int))=((x.length-s:Nat):Int):=by rw [cA (by omega) (by omega)];omega
 have es:ak ((s:Int)-((x.length-s:Nat):Int))=((2*s-x.length:Nat):Int):=by rw [cA (by omega) (by omega)];omega
 have sw:x.length≠s→ga.f k (m:Int) (((x.length-s:Nat):Int)==(s:Int))=some (decide (m=9∨m=8∧x.length≠2*s)):=fun _=>by
  have eb:(((x.length-s:Nat):Int)==(s:Int))=decide (x.length=2*s):=by rw [Bool.eq_iff_iff,beq_iff_eq,decide_eq_true_eq];omega
  rw [eb]
  rcases hm with rfl | rfl | rfl
  ·rfl
  ·show some (!decide (x.length=2*s))=_
   congr 1
   by_cases g:x.length=2*s<;>simp [g]
  ·rfl
 have fs0:decide (0≤(s:Int))=true:=by rw [decide_eq_true_eq];omega
 have fr0:decide (0≤((x.length-s:Nat):Int))=true:=by rw [decide_eq_true_eq];omega
 have fsx:decide ((s:Int)≤(x.length:Int))=true:=by rw [decide_eq_true_eq];omega
 have frx:decide (((x.length-s:Nat):Int)≤(x.length:Int))=true:=by rw [decide_eq_true_eq];omega
 have iN: ∀n:Nat,(n:Int).toNat=n:=Int.toNat_natCast
 unfold gM.f
 rw [(kK P k).2,Option.bind_some,if_neg (by rw [decide_eq_true_eq];omega),if_neg (by rw [decide_eq_true_eq];omega),lv,if_neg (by simp),lx,if_neg (by rw [decide_eq_true_eq];omega),e2,if_neg (by rw [decide_eq_true_eq];omega),er]
 unfold pM
 by_cases e:x.length=s
 ·have bx:Bk s x:=⟨e,hx⟩
  rw [if_pos (by rw [e];simp),if_pos e]
  cases dir with
  | true=>
   have oT:=P.ok true x bx
   rw [if_pos rfl,Df P bx hk,Option.bind_some,(Ds.n8 oT.1 hv.1 (by omega) oT.2 hv.2 (by omega)).2,Option.bind_some];rfl
  | false=>
   have oX:Bk s (Ds.xL s x iv):=Bk.xL hx hv.2
   rw [if_neg Bool.false_ne_true,(Ds.n8 bx.1 hv.1 (by omega) bx.2 hv.2 (by omega)).2,Option.bind_some,NK P oX hk,Option.bind_some];rfl
 ·have q:¬ (((x.length:Int)==(s:Int)))=true:=by rw [beq_iff_eq];omega
  rw [if_neg q,if_neg e,sw e,Option.bind_some]
  generalize decide (m=9∨m=8∧x.length≠2*s)=z
  have hrs:x.length-s≤s:=by omega
  have oD: ∀y∈x.drop s,y<256:=fun y hy=>hx y (List.mem_of_mem_drop hy)
  have sm: ∀a b:Nat,a≤100→b≤100→decide (a+b≤1000000000)=true:=fun a b h1 h2=>by rw [decide_eq_true_eq];omega
  cases dir with
  | false=>
   have b1:Bk s (x.take s):=Bk.tk hx h1
   have p1:=(Ds.n8 b1.1 hv.1 (by omega) b1.2 hv.2 (k:=k) (by omega)).2
   have o1:Bk s (Ds.xL s (x.take s) iv):=Bk.xL b1.2 hv.2
   have o2:=P.ok false _ o1
   have epad:([]:List Int)++il (x.drop s)++List.replicate (2*s-x.length) (0:Int)=il (x.drop s++List.replicate (2*s-x.length) 0):=by rw [List.nil_append,kJ,lE]
   have bpad:Bk s (x.drop s++List.replicate (2*s-x.length) 0):=⟨by rw [List.length_append,List.length_drop,List.length_replicate];omega,fun y hy=>by
    rcases List.mem_append.1 hy with hy | hy
    ·exact oD y hy
    ·rw [List.eq_of_mem_replicate hy];decide⟩
   have p2:=(Ds.n8 bpad.1 o2.1 (by omega) bpad.2 o2.2 (k:=k) (by omega)).2
   rw [NJ] at p2
   have o3:Bk s (Ds.xL s (x.drop s) (E false (Ds.xL s (x.take s) iv))):=Bk.xL oD o2.2
   have o4:=P.ok false _ o3
   have ld:(il (x.drop s)).length=x.length-s:=by rw [ag,List.length_drop]
   have fl:decide (((x.length-s:Nat):Int)≤((il (E false (Ds.xL s (x.take s) iv))).length:Int))=true:=by rw [decide_eq_true_eq,ag,o2.1];omega
   have l4:(il (E false (Ds.xL s (x.drop s) (E false (Ds.xL s (x.take s) iv))))).length=s:=by rw [ag,o4.1]
   have lt:(il ((E false (Ds.xL s (x.take s) iv)).take (x.length-s))).length=x.length-s:=by rw [ag,List.length_take,o2.1];omega
   have g1:decide (([]:List Int).length+(il (x.drop s)).length≤1000000000)=true:=by rw [ld];exact sm 0 _ (by omega) (by omega)
   have g2:decide (((([]:List Int)++il (x.drop s)).length:Int)+((2*s-x.length:Nat):Int)≤1000000000)=true:=by rw [List.nil_append,ld,decide_eq_true_eq];omega
   have g3:decide (0≤((2*s-x.length:Nat):Int))=true:=by rw [decide_eq_true_eq];omega
   rw [if_pos (by rfl)];unfold gd
   rw [if_pos fs0,if_pos fsx,iN,jt,p1,Option.bind_some,NK P o1 hk,Option.bind_some,if_pos fs0,if_pos fsx,jm,if_pos g1,es,if_pos g3,if_pos g2,iN,epad,p2,Option.bind_some,NK P o3 hk,Option.bind_some]
   cases z with
   | true=>
    rw [if_pos rfl,if_pos (by rw [l4];exact sm 0 _ (by omega) (by omega)),if_pos fr0,if_pos fl,iN,jt,List.nil_append,if_pos (by rw [l4,lt];exact sm _ _ (by omega) (by omega)),lE];rfl
   | false=>
    rw [if_neg Bool.false_ne_true,if_pos fr0,if_pos fl,iN,jt,if_pos (by rw [lt];exact sm 0 _ (by omega) (by omega)),List.nil_append,if_pos (by rw [l4,lt];exact sm _ _ (by omega) (by omega)),lE];rfl
  | true=>
   rw [if_neg (by decide)]
   have gen: ∀l o:List Nat,Bk s l→Bk (x.length-s) o→(gd (0≤((x.length-s:Nat):Int))<|gd (((x.length-s:Nat):Int)≤((il (E true l)).length:Int))<|(ar.f k (il ((E true l).take (x.length-s))) (il o)).bind fun a=>gd (([]:List Int).length+(il o).length≤1000000000)<|gd (0≤((x.length-s:Nat):Int))<|gd (((x.length-s:Nat):Int)≤((il (E true l)).length:Int))<|gd ((([]:List Int)++il o).length+(il ((E true l).drop (x.length-s))).length≤1000000000)<|(aV.f k D ((([]:List Int)++il o)++il ((E true l).drop (x.length-s)))).bind fun b=>(ar.f k b (il iv)).bind fun g=>gd (g.length+a.length≤1000000000)<|some (g++a,(0:Int)))=some (il (Ds.xL s (E true (o++(E true l).drop (x.length-s))) iv++Ds.xL (x.length-s) ((E true l).take (x.length-s)) o),0):=fun l o hl ho=>by
    have oE:=P.ok true l hl
    have fl:decide (((x.length-s:Nat):Int)≤((il (E true l)).length:Int))=true:=by rw [decide_eq_true_eq,ag,oE.1];omega
    have t1:Bk (x.length-s) ((E true l).take (x.length-s)):=Bk.tk oE.2 (by rw [oE.1];exact hrs)
    have p1:=(Ds.n8 t1.1 ho.1 (by omega) t1.2 ho.2 (k:=k) (by omega)).2
    have t2:Bk (s-(x.length-s)) ((E true l).drop (x.length-s)):=Bk.dp oE.2 (by rw [oE.1];omega)
    have ob:Bk s (o++(E true l).drop (x.length-s)):=by have:=ho.ap t2;rwa [show x.length-s+(s-(x.length-s))=s by omega] at this
    have oG:=P.ok true _ ob
    have p2:=(Ds.n8 oG.1 hv.1 (by omega) oG.2 hv.2 (k:=k) (by omega)).2
    have lo:(il o).length=x.length-s:=by rw [ag,ho.1]
    have lt:(il ((E true l).drop (x.length-s))).length=s-(x.length-s):=by rw [ag,t2.1]
    unfold gd
    rw [if_pos fr0,if_pos fl,p1,Option.bind_some,if_pos (by rw [lo];exact sm 0 _ (by omega) (by omega)),if_pos fr0,if_pos fl,List.nil_append,if_pos (by rw [lo,lt];exact sm _ _ (by omega) (by omega)),lE,Df P ob hk,Option.bind_some,p2,Option.bind_some,if_pos (by rw [ag,ag,Ds.jH,Ds.jH];exact sm _ _ (by omega) (by omega)),lE]
   cases z with
   | true=>
    have b1:Bk s (x.take s):=Bk.tk hx h1
    have b2:Bk (x.length-s) (x.drop s):=Bk.dp hx (by omega)
    have g:=gen _ _ b1 b2
    rw [if_pos rfl,iN,iN,jt,jm,Df P b1 hk,Option.bind_some,jt,jm]
    unfold gd at g ⊢
    rw [if_pos fr0,if_pos frx,if_pos fr0,if_pos frx,if_pos fs0,if_pos fsx,if_pos fs0,if_pos fsx,g];rfl
   | false=>
    have b1:Bk s (x.drop (x.length-s)):=Bk.dp hx (by omega)
    have b2:Bk (x.length-s) (x.take (x.length-s)):=Bk.tk hx (by omega)
    have g:=gen _ _ b1 b2
    rw [if_neg Bool.false_ne_true,iN,jt,jm,Df P b1 hk,Option.bind_some,jt,jm]
    unfold gd at g ⊢
    rw [if_pos fr0,if_pos frx,if_pos fr0,if_pos frx,g];rfl
end
def lD (E:Bool→List Nat→List Nat) (s m:Nat) (dir:Bool) (v x:List Nat):List Nat×Int:=
 if m≤2 then (if x.length%s=0 then ((jx E s m dir (x.length/s) v x).1,0) else ([],7)) else (mU E m dir ⟨v,[],[]⟩ x,0)
def Iv (s m:Nat) (v:List Nat):Prop:=if m=1 then v=[] else Bk s v
section
variable {t:Int} {s:Nat} {C:Int×Tn} {D:DT} {E:Bool→List Nat→List Nat} (P:Pr t s C D E) {m:Nat} (h1:1≤m) (h6:m≤6) {dir:Bool}
include P h1 h6
theorem NN {v:List Nat} (hv:Iv s m v):((il v).length:Int)=if m=1 then 0 else (s:Int):=by
 unfold Iv at hv
 by_cases e:m=1
 ·rw [if_pos e] at hv ⊢;subst hv;rfl
 ·rw [if_neg e] at hv ⊢;rw [ag,hv.1]
theorem Dg {v:List Nat} (hv:Iv s m v) {k:Nat}:ij.f k C (m:Int) dir (il v)=some ((C,(m:Int),dir,il v,[],[]),0)∧
 fU.f k D (m:Int) dir (il v)=some ((D,(m:Int),dir,il v,[],0,[]),0):=by
 have s1:=P.s1
 have lv:=NN P h1 h6 hv
 have hl:v.length≤100:=by
  rw [ag] at lv
  split at lv<;>omega
 have hc:=sV (x:=v) (by omega) k
 have gc:decide (([]:List Int).length+(il v).length≤1000000000)=true:=by rw [decide_eq_true_eq,ag,List.length_nil];omega
 unfold ij.f fU.f gd
 rw [(kK P k).1,(kK P k).2,Option.bind_some,Option.bind_some,lv,hc,Option.bind_some,if_pos gc,List.nil_append]
 have h:m=1∨m=2∨m=3∨m=4∨m=5∨m=6:=by omega
 have sn:((s:Int) != (s:Int))=false:=by simp
 rcases h with rfl | rfl | rfl | rfl | rfl | rfl
 ·exact ⟨rfl,rfl⟩
 ·have e:(if (2:Nat)=1 then (0:Int) else (s:Int))=s:=rfl
  rw [e,sn];exact ⟨rfl,rfl⟩
 ·have e:(if (3:Nat)=1 then (0:Int) else (s:Int))=s:=rfl
  rw [e,sn];exact ⟨rfl,rfl⟩
 ·have e:(if (4:Nat)=1 then (0:Int) else (s:Int))=s:=rfl
  rw [e,sn];exact ⟨rfl,rfl⟩
 ·have e:(if (5:Nat)=1 then (0:Int) else (s:Int))=s:=rfl
  rw [e,sn];exact ⟨rfl,rfl⟩
 ·have e:(if (6:Nat)=1 then (0:Int) else (s:Int))=s:=rfl
  rw [e,sn];exact ⟨rfl,rfl⟩
theorem Ay {v x:List Nat} (hv:Iv s m v) (hx: ∀y∈x,y<256) (hl:x.length≤10000) {k:Nat} (hk:20000≤k):
 ax.f k (C,(m:Int),dir,il v,[],[]) (il x)=some (il (lD E s m dir v x).1,(lD E s m dir v x).2)∧
 ao.f k (D,(m:Int),dir,il v,[],0,[]) (il x)=some (il (lD E s m dir v x).1,(lD E s m dir v x).2):=by
 have s1:=P.s1
 have lx:((il x).length:Int)=(x.length:Int):=by rw [ag]
 have fx0:decide (0≤(x.length:Int))=true:=by rw [decide_eq_true_eq];omega
 have fx1:decide ((x.length:Int)≤1000000000)=true:=by rw [decide_eq_true_eq];omega
 by_cases h2:m≤2
 ·have hm:m=1∨m=2:=by omega
  have g1:dz.f k (C,(m:Int),dir,il v,[],[])=some (s:Int):=by
   unfold dz.f
   rcases hm with rfl | rfl
   ·show (aO.f k C).bind _=_
    rw [(kK P k).1];rfl
   ·show (aO.f k C).bind _=_
    rw [(kK P k).1];rfl
  have g2:cG.f k (D,(m:Int),dir,il v,[],0,[])=some (s:Int):=by
   unfold cG.f
   rw [if_pos (show decide ((m:Int)≤2)=true by rw [decide_eq_true_eq];omega)]
   show (bg.f k D).bind _=_
   rw [(kK P k).2];rfl
  have hmd:Int.tmod (x.length:Int) (s:Int)=((x.length%s:Nat):Int):=rfl
  have ns:(!decide ((s:Int)=0))=true:=by rw [Bool.not_eq_true',decide_eq_false_iff_not];omega
  have hvo:Vo s m v:=by
   unfold Vo;unfold Iv at hv
   split
   ·trivial
   ·next e=>rw [if_neg e] at hv;exact hv
  unfold lD
  rw [if_pos h2]
  unfold ax.f ao.f
  have g1':dz.f k ((C.1,C.2),(m:Int),dir,il v,[],[])=some (s:Int):=g1
  have g2':cG.f k ((D.1,D.2.1,D.2.2.1,D.2.2.2.1,D.2.2.2.2.1,D.2.2.2.2.2),(m:Int),dir,il v,[],0,[])=some (s:Int):=g2
  dsimp only
  rw [g1',g2',Option.bind_some,Option.bind_some,lx,hmd];unfold gb gd
  rw [if_pos ns,if_pos ns]
  by_cases z:x.length%s=0
  ·have hq:x.length=(x.length/s)*s:=by
    have:=Nat.div_add_mod x.length s
    rw [z,Nat.add_zero,Nat.mul_comm] at this;exact this.symm
   have hql:x.length/s≤10000:=Nat.le_trans (Nat.div_le_self _ _) hl
   rw [if_pos z,if_neg (by rw [z];decide),if_pos fx0,if_pos fx1,if_neg (by rw [z];decide)]
   have a:=(SV P hm (dir:=dir) (x.length/s) (k:=k) (v:=v) (x:=x) (acc:=[]) (made:=[]) hvo hx hq (by simp only [List.length_nil];omega) (by omega)).1
   have b:=(J6 P hm (dir:=dir) hx (by omega) (x.length/s) (k:=k) (j:=0) (v:=v) (acc:=[]) (made:=[]) (ix:=0) hvo (by omega) (by simp only [List.length_nil];omega) (by omega)).1
   exact ⟨a,b⟩
  ·rw [if_neg z,if_pos (by rw [decide_eq_true_eq];omega),if_pos (by rw [bne_iff_ne];omega)]
   exact ⟨rfl,rfl⟩
 ·have hm:m=3∨m=4∨m=5∨m=6:=by omega
  have hv:Bk s v:=by unfold Iv at hv;rw [if_neg (by omega)] at hv;exact hv
  have g1':dz.f k ((C.1,C.2),(m:Int),dir,il v,[],[])=some 1:=by
   unfold dz.f
   rcases hm with rfl | rfl | rfl | rfl<;>rfl
  have g2':cG.f k ((D.1,D.2.1,D.2.2.1,D.2.2.2.1,D.2.2.2.2.1,D.2.2.2.2.2),(m:Int),dir,il v,[],0,[])=some 1:=by
   unfold cG.f
   rw [if_neg (show ¬decide ((m:Int)≤2)=true by rw [decide_eq_true_eq];omega)]
  have so:So s m ⟨v,[],[]⟩:=⟨hv,fun x hx=>(List.not_mem_nil hx).elim,fun x hx=>(List.not_mem_nil hx).elim,.inl rfl⟩
  have m1:Int.tmod (x.length:Int) 1=0:=by
   show ((x.length%1:Nat):Int)=0
   rw [Nat.mod_one];rfl
  unfold lD
  rw [if_neg h2]
  unfold ax.f ao.f
  dsimp only
  rw [g1',g2',Option.bind_some,Option.bind_some,lx,m1];unfold gb gd
  rw [if_pos (by decide),if_neg (by decide),if_pos fx0,if_pos fx1,if_pos (by decide),if_neg (by decide)]
  refine ⟨SR P hm (dir:=dir) so rfl hx (by omega) (by omega),?_⟩
  by_cases e:m=3
  ·subst e
   have:=SU P (dir:=dir) hx (by omega) x.length (k:=k) (j:=0) (σ:=⟨v,[],[]⟩) (acc:=[]) (by omega) so rfl (by simp only [List.length_nil];omega) (by omega)
   exact this
  ·exact ST P (by omega) (dir:=dir) hx (by omega) hv (by omega)
end
theorem wi (E:Bool→List Nat→List Nat) (s m:Nat) (dir:Bool) (q:Nat): ∀(v x:List Nat),jx E s m dir q v (x.take (q*s))=jx E s m dir q v x:=by
 induction q with
 | zero=>intro v x;rfl
 | succ q ih=>
  intro v x
  have e1:(x.take ((q+1)*s)).take s=x.take s:=by rw [List.take_take,Nat.add_mul,Nat.one_mul,show min s (q*s+s)=s by omega]
  have e2:(x.take ((q+1)*s)).drop s=(x.drop s).take (q*s):=by rw [List.drop_take,Nat.add_mul,Nat.one_mul,Nat.add_sub_cancel]
  unfold jx
  rw [e1,e2,ih]
section
variable {t:Int} {s:Nat} {C:Int×Tn} {D:DT} {E:Bool→List Nat→List Nat} (P:Pr t s C D E) {dir:Bool}
include P
theorem Eh (q:Nat): ∀ {v x:List Nat},Bk s v→(∀y∈x,y<256)→(q+1)*s≤x.length→
 (jx E s 2 dir (q+1) v x).2=bif dir then (x.take ((q+1)*s)).drop (q*s) else (jx E s 2 dir (q+1) v x).1.drop (q*s):=by
 induction q with
 | zero=>
  intro v x hv hx hl
  rw [Nat.zero_mul,Nat.zero_add,Nat.one_mul,List.drop_zero,List.drop_zero]
  unfold jx jx blk
  cases dir
  ·show _=_++[]
   rw [List.append_nil];rfl
  ·rfl
 | succ q ih=>
  intro v x hv hx hl
  have h2:(q+1+1)*s=(q+1)*s+s:=by rw [Nat.add_mul (q+1),Nat.one_mul]
  have h3:(q+1)*s=q*s+s:=by rw [Nat.add_mul,Nat.one_mul]
  have b1:Bk s (x.take s):=Bk.tk hx (by omega)
  obtain ⟨o1,o2⟩:=u9 P (.inr rfl:(2:Nat)=1∨(2:Nat)=2) (dir:=dir) (v:=v) (b:=x.take s) hv b1
  have i:=ih (v:=(blk E s 2 dir v (x.take s)).2) (x:=x.drop s) o2 (fun y hy=>hx y (List.mem_of_mem_drop hy)) (by rw [List.length_drop];omega)
  have e:jx E s 2 dir (q+1+1) v x=((blk E s 2 dir v (x.take s)).1++(jx E s 2 dir (q+1) (blk E s 2 dir v (x.take s)).2 (x.drop s)).1,(jx E s 2 dir (q+1) (blk E s 2 dir v (x.take s)).2 (x.drop s)).2):=rfl
  rw [e]
  dsimp only
  rw [i]
  cases dir with
  | true=>
   dsimp only [cond_true]
   rw [List.drop_take,List.drop_take,List.drop_drop,h2,Nat.add_comm s (q*s),←h3]
   congr 1;omega
  | false=>
   dsimp only [cond_false]
   rw [List.drop_append,o1.1,List.drop_of_length_le (l:=(blk E s 2 false v (x.take s)).1) (by rw [o1.1];omega),List.nil_append,h3,Nat.add_sub_cancel]
def Kd (s n:Nat):Nat:=(n-s-1)/s
def sA (E:Bool→List Nat→List Nat) (s m:Nat) (dir:Bool) (iv x:List Nat):List Nat:=
 (jx E s 2 dir (Kd s x.length) iv x).1++pM E s m dir (jx E s 2 dir (Kd s x.length) iv x).2 (x.drop (Kd s x.length*s))
omit P in
theorem HN {n:Nat} (hs:0<s) (h:s≤n):Kd s n*s+s≤n∧n≤Kd s n*s+2*s∧(∀j,j<Kd s n→j*s+2*s<n):=by
 unfold Kd
 have h1:=Nat.div_mul_le_self (n-s-1) s
 have h2:=Nat.lt_div_mul_add (a:=n-s-1) hs
 refine ⟨by omega,by omega,fun j hj=> ?_⟩
 have h3:(j+1)*s≤(n-s-1)/s*s:=Nat.mul_le_mul_right s hj
 rw [Nat.add_mul,Nat.one_mul] at h3
 omega
theorem zo {m:Nat} {iv x:List Nat} (hv:Bk s iv) (hx: ∀y∈x,y<256) (h1:s≤x.length) (h2:x.length≤2*s):Bk x.length (pM E s m dir iv x):=by
 unfold pM
 have oD: ∀y∈x.drop s,y<256:=fun y hy=>hx y (List.mem_of_mem_drop hy)
 have b1:Bk s (x.take s):=Bk.tk hx h1
 by_cases e:x.length=s
 ·rw [if_pos e,e]
  cases dir
  ·exact P.ok _ _ (Bk.xL hx hv.2)
  ·exact Bk.xL (P.ok _ _ ⟨e,hx⟩).2 hv.2
 ·rw [if_neg e]
  generalize decide (m=9∨m=8∧x.length≠2*s)=z
  have r1:s+(x.length-s)=x.length:=by omega
  have r2:x.length-s+s=x.length:=by omega
  cases dir
  ·have o2:=P.ok false _ (Bk.xL (n:=s) b1.2 hv.2)
   have o4:=P.ok false _ (Bk.xL (n:=s) oD o2.2)
   have o5:Bk (x.length-s) ((E false (Ds.xL s (x.take s) iv)).take (x.length-s)):=Bk.tk o2.2 (by rw [o2.1];omega)
   cases z
   ·have:=o5.ap o4;rwa [r2] at this
   ·have:=o4.ap o5;rwa [r1] at this
  ·have gen: ∀l o:List Nat,Bk s l→Bk (x.length-s) o→Bk x.length (Ds.xL s (E true (o++(E true l).drop (x.length-s))) iv++Ds.xL (x.length-s) ((E true l).take (x.length-s)) o):=fun l o hl ho=>by
    have oE:=P.ok true l hl
    have t2:Bk (s-(x.length-s)) ((E true l).drop (x.length-s)):=Bk.dp oE.2 (by rw [oE.1];omega)
    have ob:Bk s (o++(E true l).drop (x.length-s)):=by have:=ho.ap t2;rwa [show x.length-s+(s-(x.length-s))=s by omega] at this
    have:=(Bk.xL (n:=s) (P.ok true _ ob).2 hv.2).ap (Bk.xL (n:=x.length-s) (a:=(E true l).take (x.length-s)) (fun y hy=>oE.2 y (List.mem_of_mem_take hy)) ho.2)
    rwa [r1] at this
   cases z
   ·exact gen _ _ (Bk.dp hx (by omega)) (Bk.tk hx (by omega))
   ·exact gen _ _ b1 (Bk.dp hx (by omega))
theorem SW {m:Nat} (hm:m=7∨m=8∨m=9) {pd:Int} {iv x:List Nat} (hv:Bk s iv) (hx: ∀y∈x,y<256) (hl:x.length≤5000) {k:Nat} (hk:30000≤k):
 dI.f k C (t,(m:Int),pd,dir) (il iv) (il x)=if x.length<s then some ([],7) else some (il (sA E s m dir iv x),0):=by
 have s1:=P.s1
 have lx:((il x).length:Int)=(x.length:Int):=by rw [ag]
 unfold dI.f
 rw [(kK P k).1,Option.bind_some,lx]
 by_cases h:x.length<s
 ·rw [if_pos (by rw [decide_eq_true_eq];omega),if_pos h]
 ·rw [if_neg (by rw [decide_eq_true_eq];omega),if_neg h]
  obtain ⟨a1,a2,a3⟩:=HN (s:=s) (n:=x.length) (by omega) (by omega)
  have e2:ak (2*(s:Int))=((2*s:Nat):Int):=au (n:=2*s) (by omega)
  unfold sA
  generalize Kd s x.length=q at a1 a2 a3 ⊢
  have hq5:q≤q*s:=Nat.le_mul_of_pos_right q (by omega)
  have walk: ∀d j:Nat,j+d=q→ ∀k,25000+d≤k→dI.l0 k C (t,(m:Int),pd,dir) (il iv) (il x) (s:Int) ((j*s:Nat):Int)=some (il ((jx E s 2 dir q iv x).1++pM E s m dir (jx E s 2 dir q iv x).2 (x.drop (q*s))),0):=by
   intro d
   induction d with
   | succ d ih=>
    intro j hj k hk
    obtain ⟨k,rfl⟩: ∃j,k=j+1:=⟨k-1,by omega⟩
    have lt:=a3 j (by omega)
    have d1:ak ((x.length:Int)-((j*s:Nat):Int))=((x.length-j*s:Nat):Int):=by rw [cA (by omega) (by omega)];omega
    have d2:ak (((j*s:Nat):Int)+(s:Int))=(((j+1)*s:Nat):Int):=by
     rw [Nat.add_mul,Nat.one_mul];exact au (n:=j*s+s) (by omega)
    rw [dI.l0,lx,d1,e2,Option.bind_some,if_pos (by rw [decide_eq_true_eq];omega),d2]
    exact ih (j+1) (by omega) k (by omega)
   | zero=>
    intro j hj k hk
    obtain ⟨k,rfl⟩: ∃j,k=j+1:=⟨k-1,by omega⟩
    obtain rfl:j=q:=by omega
    have d1:ak ((x.length:Int)-((j*s:Nat):Int))=((x.length-j*s:Nat):Int):=by rw [cA (by omega) (by omega)];omega
    have f0:decide (0≤((j*s:Nat):Int))=true:=by rw [decide_eq_true_eq];omega
    have fx:decide (((j*s:Nat):Int)≤(x.length:Int))=true:=by rw [decide_eq_true_eq];omega
    have iN: ∀n:Nat,(n:Int).toNat=n:=Int.toNat_natCast
    have hv2:Iv s 2 iv:=hv
    have nw:=(Dg P (m:=2) (by decide) (by decide) (dir:=dir) hv2 (k:=k)).1
    have bt: ∀y∈x.take (j*s),y<256:=fun y hy=>hx y (List.mem_of_mem_take hy)
    have lt:(x.take (j*s)).length=j*s:=by rw [List.length_take];omega
    have stp:=(Ay P (m:=2) (by decide) (by decide) (dir:=dir) hv2 bt (by omega) (k:=k) (by omega)).1
    have sN:lD E s 2 dir iv (x.take (j*s))=((jx E s 2 dir j iv x).1,0):=by
     unfold lD
     rw [if_pos (by decide),lt,Nat.mul_mod_left,if_pos rfl,Nat.mul_div_cancel _ (by omega),wi]
    rw [sN] at stp
    obtain ⟨r1,r2,r3⟩:=De P (.inr rfl:(2:Nat)=1∨(2:Nat)=2) (dir:=dir) j (v:=iv) (x:=x.take (j*s)) hv bt lt
    rw [wi] at r1 r2 r3
    have r3:Bk s (jx E s 2 dir j iv x).2:=r3
    have bd: ∀y∈x.drop (j*s),y<256:=fun y hy=>hx y (List.mem_of_mem_drop hy)
    have ld:(x.drop (j*s)).length=x.length-j*s:=List.length_drop
    have tl:=NL P hm (dir:=dir) r3 bd (by omega) (by omega) (k:=k) (by omega)
    have ct:=zn (a:=(jx E s 2 dir j iv x).1) (b:=pM E s m dir (jx E s 2 dir j iv x).2 (x.drop (j*s))) (by omega) (by rw [(zo P (m:=m) (dir:=dir) r3 bd (by omega) (by omega)).1];omega) (k:=k) (by omega)
    have nw':ij.f k C 2 dir (il iv)=_:=nw
    have stp':ax.f k ((C.1,C.2),((2:Nat):Int),dir,il iv,[],[]) (il (x.take (j*s)))=_:=stp
    rw [dI.l0,lx,d1,e2,Option.bind_some,if_neg (by rw [decide_eq_true_eq];omega),nw',Option.bind_some];unfold gd
    rw [if_pos f0,if_pos fx,iN,jt]
    dsimp only
    rw [stp',Option.bind_some]
    dsimp only
    by_cases hj0:j=0
    ·subst hj0
     have e0:((0*s:Nat):Int)=0:=by rw [Nat.zero_mul];rfl
     rw [if_neg (by rw [e0];decide),if_pos f0,if_pos fx,jm]
     have tl':eB.f k C (m:Int) dir (il iv) (il (x.drop (0*s)))=_:=tl
     rw [tl',Option.bind_some,ct,Option.bind_some]
    ·obtain ⟨j,rfl⟩: ∃i,j=i+1:=⟨j-1,by omega⟩
     have h3:(j+1)*s=j*s+s:=by rw [Nat.add_mul,Nat.one_mul]
     have d3:ak ((((j+1)*s:Nat):Int)-(s:Int))=((j*s:Nat):Int):=by rw [cA (by omega) (by omega)];omega
     have g0:decide (0≤((j*s:Nat):Int))=true:=by rw [decide_eq_true_eq];omega
     have g1:decide (((j*s:Nat):Int)≤((il (jx E s 2 dir (j+1) iv x).1).length:Int))=true:=by rw [decide_eq_true_eq,ag,r1];omega
     have g2:decide (((j*s:Nat):Int)≤(((j+1)*s:Nat):Int))=true:=by rw [decide_eq_true_eq];omega
     have xV:=Eh P (dir:=dir) j (v:=iv) (x:=x) hv hx (by omega)
     rw [if_pos (by rw [decide_eq_true_eq];omega),d3,if_pos g0,if_pos g1]
     cases dir with
     | true=>
      have xV:(jx E s 2 true (j+1) iv x).2=(x.take ((j+1)*s)).drop (j*s):=xV
      rw [if_pos rfl,if_pos g0,if_pos g2,if_pos fx,if_pos f0,if_pos fx,iN,jm,←xV,jm,tl,Option.bind_some]
      dsimp only
      rw [ct,Option.bind_some]
     | false=>
      have xV:(jx E s 2 false (j+1) iv x).2=(jx E s 2 false (j+1) iv x).1.drop (j*s):=xV
      rw [if_neg Bool.false_ne_true,if_pos f0,if_pos fx,List.take_length,iN,jm,←xV,jm,tl,Option.bind_some]
      dsimp only
      rw [ct,Option.bind_some]
  have w:=walk q 0 (by omega) k (by omega)
  rw [Nat.zero_mul] at w
  exact w
theorem SX {m:Nat} (hm:m=7∨m=8∨m=9) {pd:Int} {iv x:List Nat} (hv:Bk s iv) (hx: ∀y∈x,y<256) (hl:x.length≤5000) {k:Nat} (hk:30000≤k):
 bW.f k D (t,(m:Int),pd,dir) (il iv) (il x)=if x.length<s then some ([],7) else some (il (sA E s m dir iv x),0):=by
 have s1:=P.s1
 have lx:((il x).length:Int)=(x.length:Int):=by rw [ag]
 unfold bW.f
 rw [(kK P k).2,Option.bind_some,lx]
 by_cases h:x.length<s
 ·rw [if_pos (by rw [decide_eq_true_eq];omega),if_pos h]
 ·rw [if_neg (by rw [decide_eq_true_eq];omega),if_neg h]
  have hv2:Iv s 2 iv:=hv
  have nw:=(Dg P (m:=2) (by decide) (by decide) (dir:=dir) hv2 (k:=k)).2
  have nw':fU.f k D 2 dir (il iv)=_:=nw
  dsimp only
  rw [nw',Option.bind_some]
  obtain ⟨a1,a2,a3⟩:=HN (s:=s) (n:=x.length) (by omega) (by omega)
  have e2:ak (2*(s:Int))=((2*s:Nat):Int):=au (n:=2*s) (by omega)
  unfold sA
  generalize Kd s x.length=q at a1 a2 a3 ⊢
  have hq5:q≤q*s:=Nat.le_mul_of_pos_right q (by omega)
  have a4:0<q→q*s+s<x.length:=fun h0=>by
   have:=a3 (q-1) (by omega)
   have e:q*s=(q-1)*s+s:=by
    have:q=(q-1)+1:=by omega
    conv=>lhs;rw [this]
    rw [Nat.add_mul,Nat.one_mul]
   omega
  have walk: ∀d,d≤q→ ∀(z acc v:List Nat),z.length=(x.length-q*s)+d*s→Bk s v→(∀y∈z,y<256)→acc.length+z.length≤5000→ ∀k,25000+d≤k→
   bW.l0 k D (t,(m:Int),pd,dir) (s:Int) (il z) (il acc) (il v) D.1 D.2.1 D.2.2.1 D.2.2.2.1 D.2.2.2.2.1 D.2.2.2.2.2 ((2:Nat):Int) dir (il v) [] 0=some (il (acc++(jx E s 2 dir d v z).1++pM E s m dir (jx E s 2 dir d v z).2 (z.drop (d*s))),0):=by
   intro d
   induction d with
   | zero=>
    intro hdq z acc v hz hv hzb ha k hk
    obtain ⟨k,rfl⟩: ∃j,k=j+1:=⟨k-1,by omega⟩
    rw [Nat.zero_mul] at hz
    have tl:=NM P hm (dir:=dir) hv hzb (by omega) (by omega) (k:=k) (by omega)
    have ol:=(zo P (m:=m) (dir:=dir) hv hzb (by omega) (by omega)).1
    rw [bW.l0,ag,e2,if_neg (by rw [decide_eq_true_eq];omega)]
    dsimp only
    rw [tl,Option.bind_some];unfold gd
    rw [if_pos (by rw [decide_eq_true_eq,ag,ag,ol];omega),lE,Nat.zero_mul,List.drop_zero]
    unfold jx
    rw [List.append_nil]
   | succ d ih=>
    intro hdq z acc v hz hv hzb ha k hk
    obtain ⟨k,rfl⟩: ∃j,k=j+1:=⟨k-1,by omega⟩
    rw [Nat.add_mul,Nat.one_mul] at hz
    have h3:(d+1)*s=d*s+s:=by rw [Nat.add_mul,Nat.one_mul]
    have b1:Bk s (z.take s):=Bk.tk hzb (by omega)
    obtain ⟨o1,o2⟩:=u9 P (.inr rfl:(2:Nat)=1∨(2:Nat)=2) (dir:=dir) (v:=v) (b:=z.take s) hv b1
    have f0:decide (0≤(s:Int))=true:=by rw [decide_eq_true_eq];omega
    have f1:decide ((s:Int)≤((il z).length:Int))=true:=by rw [decide_eq_true_eq,ag];omega
    have iN: ∀n:Nat,(n:Int).toNat=n:=Int.toNat_natCast
    have one:jx E s 2 dir 1 v (z.take s)=((blk E s 2 dir v (z.take s)).1,(blk E s 2 dir v (z.take s)).2):=by
     unfold jx jx
     rw [List.take_of_length_le (by rw [b1.1];exact Nat.le_refl _),List.append_nil]
    have lz:((il (z.take s)).length:Int)=(s:Int):=by rw [ag,b1.1]
    have stp:aN.f k ((D.1,D.2.1,D.2.2.1,D.2.2.2.1,D.2.2.2.2.1,D.2.2.2.2.2),((2:Nat):Int),dir,il v,[],0,[]) (il (z.take s))=some (il (blk E s 2 dir v (z.take s)).1,0,((D.1,D.2.1,D.2.2.1,D.2.2.2.1,D.2.2.2.2.1,D.2.2.2.2.2),((2:Nat):Int),dir,il (blk E s 2 dir v (z.take s)).2,[],0,[])):=by
     have g2:cG.f k ((D.1,D.2.1,D.2.2.1,D.2.2.2.1,D.2.2.2.2.1,D.2.2.2.2.2),((2:Nat):Int),dir,il v,[],0,[])=some (s:Int):=by
      unfold cG.f
      rw [if_pos (by rfl)]
      show (bg.f k D).bind _=_
      rw [(kK P k).2];rfl
     have b:=(J6 P (.inr rfl:(2:Nat)=1∨(2:Nat)=2) (dir:=dir) b1.2 (by rw [b1.1];omega) 1 (k:=k) (j:=0) (v:=v) (acc:=[]) (made:=[]) (ix:=0) hv (by rw [b1.1];omega) (by simp only [List.length_nil];omega) (by omega)).2
     rw [List.drop_zero,one] at b
     have ns:(!decide ((s:Int)=0))=true:=by rw [Bool.not_eq_true',decide_eq_false_iff_not];omega
     have md:Int.tmod (s:Int) (s:Int)=0:=by
      show ((s%s:Nat):Int)=0
      rw [Nat.mod_self];rfl
     unfold aN.f
     dsimp only
     rw [g2,Option.bind_some,lz,md];unfold gb
     rw [if_pos ns,if_neg (by decide)]
     exact b
    have fa:decide ((il acc).length+(il (blk E s 2 dir v (z.take s)).1).length≤1000000000)=true:=by rw [decide_eq_true_eq,ag,ag,o1.1];omega
    have a5:=a4 (by omega)
    have nx:=ih (by omega) (z.drop s) (acc++(blk E s 2 dir v (z.take s)).1) (blk E s 2 dir v (z.take s)).2 (by rw [List.length_drop];omega) o2 (fun y hy=>hzb y (List.mem_of_mem_drop hy)) (by rw [List.length_append,o1.1,List.length_drop];omega) k (by omega)
    have er:acc++(blk E s 2 dir v (z.take s)).1++(jx E s 2 dir d (blk E s 2 dir v (z.take s)).2 (z.drop s)).1++pM E s m dir (jx E s 2 dir d (blk E s 2 dir v (z.take s)).2 (z.drop s)).2 ((z.drop s).drop (d*s))=acc++(jx E s 2 dir (d+1) v z).1++pM E s m dir (jx E s 2 dir (d+1) v z).2 (z.drop ((d+1)*s)):=by
     have e:jx E s 2 dir (d+1) v z=((blk E s 2 dir v (z.take s)).1++(jx E s 2 dir d (blk E s 2 dir v (z.take s)).2 (z.drop s)).1,(jx E s 2 dir d (blk E s 2 dir v (z.take s)).2 (z.drop s)).2):=rfl
     rw [e,List.drop_drop,h3,Nat.add_comm (d*s) s]
     dsimp only
     rw [List.append_assoc acc]
    rw [er] at nx
    rw [bW.l0,e2,if_pos (by rw [decide_eq_true_eq,ag];omega)];unfold gd
    rw [if_pos f0,if_pos f1,iN,jt,stp,Option.bind_some]
    dsimp only
    cases dir with
    | true=>
     have eb:(blk E s 2 true v (z.take s)).2=z.take s:=rfl
     rw [if_pos rfl,if_pos f0,if_pos f1,if_pos fa,if_pos f0,if_pos f1,jm,lE]
     rw [eb] at nx ⊢
     exact nx
    | false=>
     have eb:(blk E s 2 false v (z.take s)).2=(blk E s 2 false v (z.take s)).1:=rfl
     rw [if_neg Bool.false_ne_true,if_pos fa,if_pos f0,if_pos f1,jm,lE]
     rw [eb] at nx ⊢
     exact nx
  have w:=walk q (Nat.le_refl _) x [] iv (by omega) hv hx (by simp only [List.length_nil];omega) k (by omega)
  rw [List.nil_append] at w
  exact w
end
def nU (p r:Nat):List Nat:=if p=1 then List.replicate r r else if p=2 then 128::List.replicate (r-1) 0 else List.replicate (r-1) 0++[r]
theorem Az {p r:Nat} (hp:p=1∨p=2∨p=3) (h1:1≤r) (h2:r≤16) {k:Nat} (hk:40≤k):gT.f k (p:Int) (r:Int)=some (il (nU p r)):=by
 obtain ⟨j,rfl⟩: ∃j,k=j+40:=⟨k-40,by omega⟩
 have h:r=1∨r=2∨r=3∨r=4∨r=5∨r=6∨r=7∨r=8∨r=9∨r=10∨r=11∨r=12∨r=13∨r=14∨r=15∨r=16:=by omega
 rcases hp with rfl | rfl | rfl<;>rcases h with rfl | rfl | rfl | rfl | rfl | rfl | rfl | rfl | rfl | rfl | rfl | rfl | rfl | rfl | rfl | rfl<;>exact Eq.trans (by kernel_rfl) (Eq.refl _)
theorem RH {p:Nat} (hp:p=1∨p=2∨p=3) {x:List Nat} (hx:x.length<8) {k:Nat} (hk:40≤k):dw.f k (p:Int) 8 (il x)=some (il (x++nU p (8-x.length)),0):=by
 obtain ⟨j,rfl⟩: ∃j,k=j+40:=⟨k-40,by omega⟩
 match x,hx with
 | [],_=>rcases hp with rfl | rfl | rfl<;>exact Eq.trans (by kernel_rfl) (Eq.refl _)
 | [a0],_=>rcases hp with rfl | rfl | rfl<;>exact Eq.trans (by kernel_rfl) (Eq.refl _)
 | [a0,a1],_=>rcases hp with rfl | rfl | rfl<;>exact Eq.trans (by kernel_rfl) (Eq.refl _)
 | [a0,a1,a2],_=>rcases hp with rfl | rfl | rfl<;>exact Eq.trans (by kernel_rfl) (Eq.refl _)
 | [a0,a1,a2,a3],_=>rcases hp with rfl | rfl | rfl<;>exact Eq.trans (by kernel_rfl) (Eq.refl _)
 | [a0,a1,a2,a3,a4],_=>rcases hp with rfl | rfl | rfl<;>exact Eq.trans (by kernel_rfl) (Eq.refl _)
 | [a0,a1,a2,a3,a4,a5],_=>rcases hp with rfl | rfl | rfl<;>exact Eq.trans (by kernel_rfl) (Eq.refl _)
 | [a0,a1,a2,a3,a4,a5,a6],_=>rcases hp with rfl | rfl | rfl<;>exact Eq.trans (by kernel_rfl) (Eq.refl _)
 | _::_::_::_::_::_::_::_::_,h=>simp only [List.length_cons] at h;omega
theorem NO {p:Nat} (hp:p=1∨p=2∨p=3) {x:List Nat} (hx:x.length<16) {k:Nat} (hk:40≤k):dw.f k (p:Int) 16 (il x)=some (il (x++nU p (16-x.length)),0):=by
 obtain ⟨j,rfl⟩: ∃j,k=j+40:=⟨k-40,by omega⟩
 match x,hx with
 | [],_=>rcases hp with rfl | rfl | rfl<;>exact Eq.trans (by kernel_rfl) (Eq.refl _)
 | [a0],_=>rcases hp with rfl | rfl | rfl<;>exact Eq.trans (by kernel_rfl) (Eq.refl _)
 | [a0,a1],_=>rcases hp with rfl | rfl | rfl<;>exact Eq.trans (by kernel_rfl) (Eq.refl _)
 | [a0,a1,a2],_=>rcases hp with rfl | rfl | rfl<;>exact Eq.trans (by kernel_rfl) (Eq.refl _)
 | [a0,a1,a2,a3],_=>rcases hp with rfl | rfl | rfl<;>exact Eq.trans (by kernel_rfl) (Eq.refl _)
 | [a0,a1,a2,a3,a4],_=>rcases hp with rfl | rfl | rfl<;>exact Eq.trans (by kernel_rfl) (Eq.refl _)
 | [a0,a1,a2,a3,a4,a5],_=>rcases hp with rfl | rfl | rfl<;>exact Eq.trans (by kernel_rfl) (Eq.refl _)
 | [a0,a1,a2,a3,a4,a5,a6],_=>rcases hp with rfl | rfl | rfl<;>exact Eq.trans (by kernel_rfl) (Eq.refl _)
 | [a0,a1,a2,a3,a4,a5,a6,a7],_=>rcases hp with rfl | rfl | rfl<;>exact Eq.trans (by kernel_rfl) (Eq.refl _)
 | [a0,a1,a2,a3,a4,a5,a6,a7,a8],_=>rcases hp with rfl | rfl | rfl<;>exact Eq.trans (by kernel_rfl) (Eq.refl _)
 | [a0,a1,a2,a3,a4,a5,a6,a7,a8,a9],_=>rcases hp with rfl | rfl | rfl<;>exact Eq.trans (by kernel_rfl) (Eq.refl _)
 | [a0,a1,a2,a3,a4,a5,a6,a7,a8,a9,R7],_=>rcases hp with rfl | rfl | rfl<;>exact Eq.trans (by kernel_rfl) (Eq.refl _)
 | [a0,a1,a2,a3,a4,a5,a6,a7,a8,a9,R7,SY],_=>rcases hp with rfl | rfl | rfl<;>exact Eq.trans (by kernel_rfl) (Eq.refl _)
 | [a0,a1,a2,a3,a4,a5,a6,a7,a8,a9,R7,SY,Tm],_=>rcases hp with rfl | rfl | rfl<;>exact Eq.trans (by kernel_rfl) (Eq.refl _)
 | [a0,a1,a2,a3,a4,a5,a6,a7,a8,a9,R7,SY,Tm,TX],_=>rcases hp with rfl | rfl | rfl<;>exact Eq.trans (by kernel_rfl) (Eq.refl _)
 | [a0,a1,a2,a3,a4,a5,a6,a7,a8,a9,R7,SY,Tm,TX,TY],_=>rcases hp with rfl | rfl | rfl<;>exact Eq.trans (by kernel_rfl) (Eq.refl _)
 | _::_::_::_::_::_::_::_::_::_::_::_::_::_::_::_::_,h=>simp only [List.length_cons] at h;omega
theorem Dh {s p:Nat} (hs:s=8∨s=16) (hp:p=1∨p=2∨p=3) {x:List Nat} (hx:x.length<s) {k:Nat} (hk:100≤k):
 mv.f k (p:Int) (s:Int) (il x)=some (il (x++nU p (s-x.length)),0)∧dw.f k (p:Int) (s:Int) (il x)=some (il (x++nU p (s-x.length)),0):=by
 constructor
 ·have e:ak ((s:Int)-((il x).length:Int))=((s-x.length:Nat):Int):=by rw [ag,cA (by omega) (by omega)];omega
  have lp:(nU p (s-x.length)).length≤100:=by
   unfold nU
   split
   ·rw [List.length_replicate];omega
   split
   ·rw [List.length_cons,List.length_replicate];omega
   ·rw [List.length_append,List.length_replicate,List.length_singleton];omega
  have t1:kt.f k (p:Int)=some true:=by rcases hp with rfl | rfl | rfl<;>rfl
  have t2:jG.f k (s:Int)=some true:=by rcases hs with rfl | rfl<;>rfl
  unfold mv.f
  rw [t1,Option.bind_some,if_neg (by decide),t2,Option.bind_some,if_neg (by decide),if_neg (by rw [decide_eq_true_eq,ag];omega),e,Az hp (by omega) (by omega) (by omega),Option.bind_some,zn (by omega) (by omega) (by omega),Option.bind_some]
 ·rcases hs with rfl | rfl
  ·exact RH hp hx (by omega)
  ·exact NO hp hx (by omega)
theorem ue {p r:Nat} (hp:p=1∨p=2∨p=3) (h1:1≤r) (h2:r≤16):Bk r (nU p r):=by
 unfold nU
 rcases hp with rfl | rfl | rfl
 ·exact ⟨List.length_replicate,fun y hy=>by have:=List.eq_of_mem_replicate hy;omega⟩
 ·refine ⟨by show (128::List.replicate (r-1) 0).length=r;rw [List.length_cons,List.length_replicate];omega,fun y hy=> ?_⟩
  rcases List.mem_cons.1 (show y∈128::List.replicate (r-1) 0 from hy) with e | e
  ·omega
  ·have:=List.eq_of_mem_replicate e;omega
 ·refine ⟨by show (List.replicate (r-1) 0++[r]).length=r;rw [List.length_append,List.length_replicate,List.length_singleton];omega,fun y hy=> ?_⟩
  rcases List.mem_append.1 (show y∈List.replicate (r-1) 0++[r] from hy) with e | e
  ·have:=List.eq_of_mem_replicate e;omega
  ·have:=List.mem_singleton.1 e;omega
theorem Ei (xs:List Int): ∀r:ByteArray,(xs.foldl (fun (r:ByteArray) (n:Int)=>r.push (UInt8.ofNat n.toNat)) r).data.toList=r.data.toList++xs.map fun n=>UInt8.ofNat n.toNat:=by
 induction xs with
 | nil=>intro r;simp
 | cons x xs ih=>intro r;rw [List.foldl_cons,ih];simp [ByteArray.push]
theorem AA (xs:List Int):(nh xs).data.toList=xs.map fun n=>UInt8.ofNat n.toNat:=by
 unfold nh;rw [Ei];rfl
theorem NP {a b:ByteArray} (h:a.data.toList=b.data.toList):a=b:=by
 obtain ⟨⟨l⟩⟩:=a;obtain ⟨⟨m⟩⟩:=b
 simp only at h;rw [h]
theorem Ej {a b:List Nat} (ha: ∀x∈a,x<256) (hb: ∀x∈b,x<256):nh (il a)=nh (il b)↔a=b:=by
 refine ⟨fun h=> ?_,fun h=>by rw [h]⟩
 have e:=congrArg (fun s:ByteArray=>s.data.toList.map UInt8.toNat) h
 simp only [AA,il,List.map_map] at e
 have f: ∀l:List Nat,(∀x∈l,x<256)→l.map (UInt8.toNat∘(fun n:Int=>UInt8.ofNat n.toNat)∘fun n:Nat=>(n:Int))=l:=by
  intro l hl
  refine (List.map_congr_left fun x hx=> ?_).trans (List.map_id l)
  simp only [Function.comp,Int.toNat_natCast,UInt8.toNat_ofNat',id]
  exact Nat.mod_eq_of_lt (hl x hx)
 rw [f a ha,f b hb] at e
 exact e
theorem zp (b:ByteArray) (d:Nat): ∀(i:Nat) (r:List UInt8),i+d=b.size→ByteArray.toList.loop b i r=r.reverse++b.data.toList.drop i:=by
 induction d with
 | zero=>
  intro i r h
  rw [ByteArray.toList.loop,if_neg (by omega),List.drop_of_length_le (by rw [Array.length_toList];exact Nat.le_of_eq h.symm),List.append_nil]
 | succ d ih=>
  intro i r h
  have hi:i<b.data.toList.length:=by rw [Array.length_toList];show i<b.size;omega
  have g:b.get! i=b.data.toList[i]:=by
   show b.data[i]! =_
   rw [getElem!_pos b.data i (by rw [Array.length_toList] at hi;exact hi)];simp
  rw [ByteArray.toList.loop,if_pos (by omega),ih (i+1) _ (by omega),g,List.reverse_cons,List.append_assoc,List.drop_eq_getElem_cons hi];rfl
theorem tp (b:ByteArray):b.toList=b.data.toList:=by
 unfold ByteArray.toList
 rw [zp b b.size 0 [] (by omega)];simp
theorem HO {a b:List Nat} (ha: ∀x∈a,x<256) (hb: ∀x∈b,x<256):((nh (il a)).toList==(nh (il b)).toList)=decide (a=b):=by
 rw [tp,tp]
 by_cases h:a=b
 ·subst h;simp
 ·rw [decide_eq_false h,beq_eq_false_iff_ne]
  intro e
  exact h ((Ej ha hb).1 (NP e))
end Go.Scr.S
