/- The abstract machine and what it says of the memory. -/
import Derived.Test.YtdemmfohkhpklaaGreatDoorXa4
set_option linter.unusedVariables false
set_option linter.unusedSimpArgs false
set_option linter.unnecessarySimpa false
namespace Go.Scr.A
def Og (t:Nat):Oper:=⟨none,.move (.tmp t),0,"",#[],none⟩
section
variable {P:Program} {Gl E:AE} {H:List HE} {new t id h:Nat} {e:HE}
theorem IS (ht:tr E t=some (.own id (some (0,h)) false)) (he:fd H id=some e) (hf:e.fz=false):
 Dp P Gl (Og t) E (TL ([e]++[])) new (.own new none false) (TL ([⟨new,false,e.ty,0,e.x.take h⟩]++[])):=by
 refine wE (rd:=[]) (use:=[e]) rfl rfl rfl (fun x hx=>by cases hx) rfl fun Y W β a hH hE hG=> ?_
 have hv:=d7 (x:= .tmp t) hE hG ht
 have hb:p8 H e.ty (.own id (some (0,h)) false)=some (e.x.take h,[e]):=by
  unfold p8
  simp [he,hf,Nat.beq_refl]
 obtain ⟨A,m,c,cs,e1,e2,e3,e4,e5⟩:=sG hb hH (fun z hz=>List.mem_append_left _ hz) hv
 refine ⟨.slice A m c,W,bif Nat.blt 0 c then (Value.slice A m c).ownBlock else none,m,cs,.inl ?_,⟨rfl,rfl,rfl,Nat.le_refl _,fun _ _ _=>rfl,A,c,rfl,e3,?_⟩,fun b hb=> ?_,e2⟩
 ·simp only [Og,execOp];rw [e1];rfl
 ·by_cases hc:0<c
  ·obtain ⟨g,o,cur,q1,q2,q3,q4,q5,q6⟩:=e5 hc
   subst q1
   have hbl:Nat.blt 0 c=true:=by rw [Nat.blt_eq];exact hc
   exact .inr ⟨g,o,cur,rfl,q2,e4,q3,q4,q5,.inl (by rw [hbl];rfl)⟩
  ·exact .inl ⟨by omega,by omega⟩
 ·cases hq:Nat.blt 0 c with
  | false=>rw [hq] at hb;cases hb
  | true=>
   rw [hq,cond_true] at hb
   obtain ⟨g,_,cur,q1,_,_,_,_,q6⟩:=e5 (Nat.le_of_ble_eq_true hq)
   subst q1
   injection hb with hb;subst hb;exact q6
end
theorem tI.reb {Γ:Cx} {E:AE} {H:List HE} {nx t id h:Nat} {e:HE} {W:World} {β:Be} {a:Act} (hI:tI Γ E H nx W β a) (ht:tr E t=some (.own id (some (0,h)) false)) (he:fd H id=some e) (hf:e.fz=false):
 ∃β',tI Γ (sJ E (some t) (.own nx none false)) ([⟨nx,false,e.ty,0,e.x.take h⟩]++qa [e] H) (nx+16) W β' a:=by
 obtain ⟨u,W',β',k1,k2,k3⟩:=hI.op (o:=Og t) (rd:=[]) (use:=[e]) (IS ht he hf) (fun z hz=>by
  have hz:z=e:=by simpa using hz
  subst hz;rw [(gn he).2];exact he)
 obtain ⟨u',h1,h2⟩:=hI.er _ (mj ht)
 have hx:(execOp a.eval (Og t)).run Γ.P W= .ok (.value u') W:=by
  simp only [Og,execOp,Act.eval]
  rw [show a.tmps.getD t undef=u' by simp [Array.getD_eq_getD_getElem?,h1]];rfl
 have hu:u=u'∧W'=W:=by
  rcases k1 with k1 | ⟨k1,_⟩
  ·rw [hx] at k1;injection k1 with k1 k4;injection k1 with k1;exact ⟨k1.symm,k4.symm⟩
  ·rw [hx] at k1;injection k1 with k1 _;cases k1
 obtain ⟨rfl,rfl⟩:=hu
 refine ⟨β',k2.en (fun p hp=> ?_) rfl rfl⟩
 rcases List.mem_cons.1 hp with rfl | hp
 ·exact ⟨_,h1,k3⟩
 ·exact k2.er p (p9 hp).1
def St.reb (t:Nat) (S:St):St:=match tr S.E t with
 | some (.own id (some (_,h)) _)=>match fd S.H id with
  | some e=> {S with E:=sJ S.E (some t) (.own S.nx none false),H:=[⟨S.nx,false,e.ty,0,e.x.take h⟩]++qa [e] S.H,nx:=S.nx+16}
  | none=>S
 | _=>S
def St.reb? (t:Nat) (S:St):Bool:=Fh S.m&&match tr S.E t with
 | some (.own id (some (0,_)) false)=>match fd S.H id with
  | some e=> !e.fz
  | none=>false
 | _=>false
def nA.it? :nA→Bool
 | .ret _=>true
 | .loop _=>true
 | _=>false
section
variable {P:Program} {Gl:AE} {f:FuncId} {n nm:Nat} {rv:AV} {H':List HE} {df:Option FuncId} {Γ:Cr P Gl f n nm rv H' df} {S:St}
theorem Fu {t:Nat} (r:GC Γ (S.reb t)) (h:S.reb? t=true):GC Γ S:=by
 obtain ⟨m,k,E,H,nx⟩:=S
 unfold St.reb? at h
 rw [Bool.and_eq_true] at h
 obtain ⟨h0,h⟩:=h
 cases m with
 | rg ops is=>cases h0
 | op ops i is o r=>cases h0
 | it=>
  simp only at h
  split at h
  ·rename_i id hh ht
   split at h
   ·rename_i e he
    have hf:e.fz=false:=by simpa using h
    refine ⟨fun W β a hI=> ?_⟩
    obtain ⟨β',hI'⟩:=hI.reb ht he hf
    have:=r.o
    unfold St.reb at this
    simp only [ht,he] at this
    exact this W β' a hI'
   ·cases h
  ·cases h
theorem G.rb {t:Nat} (r:GC Γ ((mG P Gl n S).st.reb t)) (h:((mG P Gl n S).it? &&(mG P Gl n S).st.reb? t)=true:=by kernel_rfl):GC Γ S:=by
 refine ot ?_
 rw [Bool.and_eq_true] at h
 obtain ⟨h1,h2⟩:=h
 unfold nA.it? at h1
 split at h1
 ·rename_i S' hs
  rw [hs] at r h2 ⊢
  exact Fu r h2
 ·rename_i S' hs
  rw [hs] at r h2 ⊢
  exact Fu r h2
 ·cases h1
end
end Go.Scr.A
