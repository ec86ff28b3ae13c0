/- The plain law: the ciphers, the modes, the contexts of both sides are one. -/
import Derived.Test.YtdemmfohkhpklaaGreatDoorFp
import Derived.Test.YtdemmfohkhpklaaGreatDoorLa
import Derived.Test.YtdemmfohkhpklaaGreatDoorXp
set_option linter.unusedVariables false
set_option linter.unusedSimpArgs false
set_option linter.unnecessarySimpa false
set_option linter.unusedSectionVars false
namespace Go.Scr.S
def tb (l:List Nat) (s j:Nat):Nat:=((l.getD ((j+s/8)%l.length) 0 <<< (s%8))%256) ||| (l.getD ((j+s/8+1)%l.length) 0 >>> (8-s%8))
def mb (l:List Nat) (v:Int):List Nat:=(List.range l.length).map (tb l (v%((8*l.length:Nat):Int)).toNat)
theorem D3 {x y s:Nat} (hx:x<256) (hy:y<256) (hs:s<8):(((x <<< 8) ||| y) >>> (8-s))%256=((x <<< s)%256) ||| (y >>> (8-s)):=by
 refine Nat.eq_of_testBit_eq fun i=> ?_
 rw [show (256:Nat)=2^8 from rfl,Nat.testBit_mod_two_pow,Nat.testBit_or,Nat.testBit_mod_two_pow,Nat.testBit_shiftRight,Nat.testBit_shiftRight,Nat.testBit_shiftLeft,Nat.testBit_or,Nat.testBit_shiftLeft]
 by_cases h8:i<8
 ·simp only [h8,decide_true,Bool.true_and]
  by_cases h:i≥s
  ·have e1:8-s+i≥8:=by omega
   have e2:8-s+i-8=i-s:=by omega
   simp only [h,e1,decide_true,Bool.true_and,e2]
  ·have e1:¬ (8-s+i≥8):=by omega
   simp only [h,e1,decide_false,Bool.false_and,Bool.false_or]
 ·have e0:y.testBit (8-s+i)=false:=Nat.testBit_lt_two_pow (Nat.lt_of_lt_of_le (by omega:y<2^8) (Nat.pow_le_pow_right (by decide) (by omega)))
  simp only [h8,decide_false,Bool.false_and,e0,Bool.or_self]
theorem GZ (a b:Nat):Int.tmod (a:Int) (b:Int)=((a%b:Nat):Int):=rfl
theorem Jt {l:List Nat} (hl: ∀x∈l,x<256) (hlen:l.length<1000000) {s:Nat} (hs:s<8*l.length) (d:Nat) {k i:Nat} {x:List Int} (hi:i+d=l.length) (hk:d<k) (hx:Fl (fun j=>((tb l s j:Nat):Int)) l.length i x):
 ew.l0 k (il l) (s:Int) (l.length:Int) x (i:Int)=some (il ((List.range l.length).map (tb l s))):=by
 induction d generalizing k i x with
 | zero=>
  obtain ⟨k,rfl⟩: ∃j,k=j+1:=⟨k-1,by omega⟩
  have:i=l.length:=by omega
  subst this
  have c0:decide ((l.length:Int)<(l.length:Int))=false:=by simp
  simp only [ew.l0,ag,c0,Option.bind_some,Bool.false_eq_true,if_false,gd,gb]
  rw [nR,hx.done]
 | succ d ih=>
  obtain ⟨k,rfl⟩: ∃j,k=j+1:=⟨k-1,by omega⟩
  have hpos:0<l.length:=by omega
  have e8:Int.tdiv (s:Int) 8=((s/8:Nat):Int):=rfl
  have m8:Int.tmod (s:Int) 8=((s%8:Nat):Int):=rfl
  have i1:ak ((s/8:Nat):Int)=((s/8:Nat):Int):=au (by omega)
  have i2:ak ((i:Int)+((s/8:Nat):Int))=((i+s/8:Nat):Int):=by rw [cA (by omega) (by omega)];simp
  have i3:ak (((i+s/8:Nat):Int)+1)=((i+s/8+1:Nat):Int):=by rw [cA (by omega) (by omega)];simp
  have e5:ak ((i:Int)+1)=((i+1:Nat):Int):=by rw [cA (by omega) (by omega)];simp
  have c0:decide ((i:Int)<(l.length:Int))=true:=by rw [decide_eq_true_eq];omega
  have c9:decide ((i:Int)<(x.length:Int))=true:=by rw [decide_eq_true_eq,hx.1];omega
  have cn:(!false)=true:=rfl
  have c1:decide ((l.length:Int)=0)=false:=by rw [decide_eq_false_iff_not];omega
  have c2: ∀n:Nat,decide (0≤(n:Int))=true:=by intro n;rw [decide_eq_true_eq];omega
  have c3: ∀n:Nat,decide (((n%l.length:Nat):Int)<(l.length:Int))=true:=by intro n;have:=Nat.mod_lt n hpos;rw [decide_eq_true_eq];omega
  have hX:=dN hl ((i+s/8)%l.length)
  have hY:=dN hl ((i+s/8+1)%l.length)
  have hT:tb l s i=((l.getD ((i+s/8)%l.length) 0 <<< (s%8))%256) ||| (l.getD ((i+s/8+1)%l.length) 0 >>> (8-s%8)):=rfl
  simp only [ew.l0,ag,c0,Option.bind_some,if_true,e8,m8,i1,i2,i3,GZ,c1,cn,Bool.false_eq_true,if_false,c2,c3,bf,gd,gb]
  generalize l.getD ((i+s/8)%l.length) 0=X at*
  generalize l.getD ((i+s/8+1)%l.length) 0=Y at*
  have u1:kX (X:Int)=(X:Int):=lR (by omega) (by omega)
  have u2:kX (Y:Int)=(Y:Int):=lR (by omega) (by omega)
  have h3:X <<< 8<18446744073709551616:=by rw [Nat.shiftLeft_eq];omega
  have e1:shl .u64 (X:Int) 8=((X <<< 8:Nat):Int):=by rw [K5,Nat.mod_eq_of_lt h3]
  have e3:=Ql h3 (b:=Y) (by omega)
  have u3:kX ((s%8:Nat):Int)=((s%8:Nat):Int):=lR (by omega) (by omega)
  have u4:kX (8-((s%8:Nat):Int))=((8-s%8:Nat):Int):=by rw [lR (by omega) (by omega)];omega
  have e4:mM .u64 ((X <<< 8 ||| Y:Nat):Int) ((8-s%8:Nat):Int)=(((X <<< 8 ||| Y) >>> (8-s%8):Nat):Int):=by
   show shr _ (min (((8-s%8:Nat):Int)).toNat 64)=_
   rw [gW];congr 2;rw [Int.toNat_natCast];omega
  simp only [u1,u2,u3,u4,e1,e3,e4,c2,if_true,iR,Int.toNat_natCast,e5,c0,c9]
  refine ih (by omega) (by omega) (hx.set (by omega) ?_)
  rw [D3 hX hY (by omega)]
  exact congrArg _ hT.symm
theorem Cn {l:List Nat} {k:Nat} (hl: ∀x∈l,x<256) (hlen:l.length<1000000) (hk:l.length<k) (v:Int):ew.f k (il l) v=some (il (mb l v)):=by
 unfold ew.f gd
 rw [ag]
 by_cases h0:l.length=0
 ·rw [if_pos (by rw [h0];rfl)]
  have:l=[]:=List.length_eq_zero_iff.1 h0
  subst this;rfl
 ·have e8:ak (8*(l.length:Int))=((8*l.length:Nat):Int):=by rw [cA (by omega) (by omega)];simp
  rw [if_neg (by rw [beq_iff_eq];omega),e8,yX v (by omega) (by omega)]
  simp only [Option.bind_some]
  rw [if_pos (by simp),if_pos (by rw [decide_eq_true_eq];omega),List.length_replicate,Int.toNat_natCast]
  have h2:=Int.emod_nonneg v (show ((8*l.length:Nat):Int)≠0 by omega)
  have h3:=Int.emod_lt_of_pos v (show (0:Int)<((8*l.length:Nat):Int) by omega)
  exact Jt hl hlen (by omega) l.length (i:=0) (by omega) hk (Fl.zero (by simp))
theorem gG (l:List Nat) (v:Int):(mb l v).length=l.length:=by simp [mb]
theorem kE {l:List Nat} (hl: ∀x∈l,x<256) (v:Int): ∀x∈mb l v,x<256:=by
 intro x hx
 unfold mb at hx
 obtain ⟨j,_,rfl⟩:=List.mem_map.1 hx
 unfold tb
 refine Nat.or_lt_two_pow (n:=8) (by omega) ?_
 rw [Nat.shiftRight_eq_div_pow]
 exact Nat.lt_of_le_of_lt (Nat.div_le_self _ _) (dN hl _)
def v9 (l:List Nat) (p:Nat):Bool:=(l.getD (p/8) 0).testBit (7-p%8)
theorem zb {l m:List Nat} (hl: ∀x∈l,x<256) (hm: ∀x∈m,x<256) (h:l.length=m.length) (hb: ∀p,p<8*l.length→v9 l p=v9 m p):l=m:=by
 refine List.ext_getElem? fun j=> ?_
 by_cases hj:j<l.length
 case neg=>rw [List.getElem?_eq_none (by omega),List.getElem?_eq_none (by omega)]
 rw [List.getElem?_eq_getElem hj,List.getElem?_eq_getElem (by omega:j<m.length)]
 congr 1
 refine Nat.eq_of_testBit_eq fun i=> ?_
 by_cases hi:i<8
 ·have:=hb (8*j+(7-i)) (by omega)
  unfold v9 at this
  have e1:(8*j+(7-i))/8=j:=by omega
  have e2:7-(8*j+(7-i))%8=i:=by omega
  rw [e1,e2,List.getD_eq_getElem?_getD,List.getD_eq_getElem?_getD,List.getElem?_eq_getElem hj,List.getElem?_eq_getElem (by omega:j<m.length)] at this
  exact this
 ·have a1:=hl l[j] (List.getElem_mem _)
  have a2:=hm m[j] (List.getElem_mem _)
  have e0: ∀y:Nat,y<256→y.testBit i=false:=fun y hy=>Nat.testBit_lt_two_pow (Nat.lt_of_lt_of_le (by omega:y<2^8) (Nat.pow_le_pow_right (by decide) (by omega)))
  rw [e0 _ a1,e0 _ a2]
theorem rX {l:List Nat} (hl: ∀x∈l,x<256) (v:Int) {p:Nat} (hp:p<8*l.length):
 v9 (mb l v) p=v9 l ((p+(v%((8*l.length:Nat):Int)).toNat)%(8*l.length)):=by
 generalize hs:(v%((8*l.length:Nat):Int)).toNat=s
 have hL:0<l.length:=by omega
 have e0:(mb l v).getD (p/8) 0=tb l s (p/8):=by
  unfold mb
  rw [List.getD_eq_getElem?_getD,List.getElem?_map,List.getElem?_range (by omega),hs];rfl
 have e1:(p+s)%(8*l.length)/8=(p+s)/8%l.length:=Nat.mod_mul_right_div_self _ _ _
 have e2:(p+s)%(8*l.length)%8=(p+s)%8:=Nat.mod_mul_right_mod _ _ _
 unfold v9
 rw [e0,e1,e2]
 unfold tb
 rw [Nat.testBit_or,show (256:Nat)=2^8 from rfl,Nat.testBit_mod_two_pow,Nat.testBit_shiftLeft,Nat.testBit_shiftRight]
 have hX:=dN hl ((p/8+s/8)%l.length)
 have c1:decide (7-p%8<8)=true:=by rw [decide_eq_true_eq];omega
 rw [c1,Bool.true_and]
 by_cases h:p%8+s%8≤7
 ·have q1:(p+s)/8=p/8+s/8:=by omega
  have q2:7-p%8-s%8=7-(p+s)%8:=by omega
  have c2:decide (7-p%8≥s%8)=true:=by rw [decide_eq_true_eq];omega
  have c3: ∀y:Nat,y<256→y.testBit (8-s%8+(7-p%8))=false:=fun y hy=>Nat.testBit_lt_two_pow (Nat.lt_of_lt_of_le (by omega:y<2^8) (Nat.pow_le_pow_right (by decide) (by omega)))
  rw [q1,q2,c2,c3 _ (dN hl _),Bool.true_and,Bool.or_false]
 ·have q1:(p+s)/8=p/8+s/8+1:=by omega
  have q2:8-s%8+(7-p%8)=7-(p+s)%8:=by omega
  have c2:decide (7-p%8≥s%8)=false:=by rw [decide_eq_false_iff_not];omega
  rw [q1,q2,c2,Bool.false_and,Bool.false_or]
theorem D4 {l:List Nat} (hl: ∀x∈l,x<256) (v u:Int):mb (mb l v) u=mb l (v+u):=by
 refine zb (kE (kE hl v) u) (kE hl _) (by simp only [gG]) fun p hp=> ?_
 rw [gG,gG] at hp
 have hL:0<l.length:=by omega
 rw [rX (kE hl v) u (by rw [gG];exact hp),gG,rX hl v (Nat.mod_lt _ (by omega)),rX hl (v+u) hp]
 congr 1
 have a1:=Int.emod_nonneg v (show ((8*l.length:Nat):Int)≠0 by omega)
 have a2:=Int.emod_nonneg u (show ((8*l.length:Nat):Int)≠0 by omega)
 have a3:=Int.emod_nonneg (v+u) (show ((8*l.length:Nat):Int)≠0 by omega)
 have e:(((v+u)%((8*l.length:Nat):Int)).toNat)=((v%((8*l.length:Nat):Int)).toNat+(u%((8*l.length:Nat):Int)).toNat)%(8*l.length):=by
  have hA:v%((8*l.length:Nat):Int)=((v%((8*l.length:Nat):Int)).toNat:Int):=(Int.toNat_of_nonneg a1).symm
  have hB:u%((8*l.length:Nat):Int)=((u%((8*l.length:Nat):Int)).toNat:Int):=(Int.toNat_of_nonneg a2).symm
  generalize (v%((8*l.length:Nat):Int)).toNat=A at*
  generalize (u%((8*l.length:Nat):Int)).toNat=B at*
  rw [Int.add_emod,hA,hB,←Int.natCast_add,←Int.natCast_emod,Int.toNat_natCast]
 rw [e,Nat.add_mod_mod,Nat.mod_add_mod]
 congr 1;omega
theorem D5 {l:List Nat} (hl: ∀x∈l,x<256) (v:Int) (h:v%((8*l.length:Nat):Int)=0):mb l v=l:=by
 refine zb (kE hl v) hl (gG l v) fun p hp=> ?_
 rw [gG] at hp
 rw [rX hl v hp,h]
 congr 1
 rw [Int.toNat_zero,Nat.add_zero,Nat.mod_eq_of_lt hp]
theorem G0 {l:List Nat} (hl: ∀x∈l,x<256) (hlen:l.length<1000000) {s:Nat} (hs:s<8*l.length) (d:Nat) {k i:Nat} {x:List Int} (hi:i+d=l.length) (hk:d<k) (hx:Fl (fun j=>((tb l s j:Nat):Int)) l.length i x):
 cw.l0 k (il l) (s:Int) x (i:Int)=some (il ((List.range l.length).map (tb l s))):=by
 induction d generalizing k i x with
 | zero=>
  obtain ⟨k,rfl⟩: ∃j,k=j+1:=⟨k-1,by omega⟩
  have:i=l.length:=by omega
  subst this
  have c0:decide ((l.length:Int)<(l.length:Int))=false:=by simp
  simp only [cw.l0,ag,c0,Bool.false_eq_true,if_false,gd,gb]
  rw [nR,hx.done]
 | succ d ih=>
  obtain ⟨k,rfl⟩: ∃j,k=j+1:=⟨k-1,by omega⟩
  have hpos:0<l.length:=by omega
  have e8:Int.tdiv (s:Int) 8=((s/8:Nat):Int):=rfl
  have m8:Int.tmod (s:Int) 8=((s%8:Nat):Int):=rfl
  have i1:ak ((s/8:Nat):Int)=((s/8:Nat):Int):=au (by omega)
  have i2:ak ((i:Int)+((s/8:Nat):Int))=((i+s/8:Nat):Int):=by rw [cA (by omega) (by omega)];simp
  have i3:ak (((i+s/8:Nat):Int)+1)=((i+s/8+1:Nat):Int):=by rw [cA (by omega) (by omega)];simp
  have e5:ak ((i:Int)+1)=((i+1:Nat):Int):=by rw [cA (by omega) (by omega)];simp
  have c9:decide ((i:Int)<(l.length:Int))=true:=by rw [decide_eq_true_eq];omega
  have c0:decide ((i:Int)<(x.length:Int))=true:=by rw [decide_eq_true_eq,hx.1];omega
  have cn:(!false)=true:=rfl
  have c1:decide ((l.length:Int)=0)=false:=by rw [decide_eq_false_iff_not];omega
  have c2: ∀n:Nat,decide (0≤(n:Int))=true:=by intro n;rw [decide_eq_true_eq];omega
  have c3: ∀n:Nat,decide (((n%l.length:Nat):Int)<(l.length:Int))=true:=by intro n;have:=Nat.mod_lt n hpos;rw [decide_eq_true_eq];omega
  have hX:=dN hl ((i+s/8)%l.length)
  have hY:=dN hl ((i+s/8+1)%l.length)
  have hT:tb l s i=((l.getD ((i+s/8)%l.length) 0 <<< (s%8))%256) ||| (l.getD ((i+s/8+1)%l.length) 0 >>> (8-s%8)):=rfl
  have u3:kX ((s%8:Nat):Int)=((s%8:Nat):Int):=lR (by omega) (by omega)
  have u4:ak (8-((s%8:Nat):Int))=((8-s%8:Nat):Int):=by rw [cA (by omega) (by omega)];omega
  have u5:kX ((8-s%8:Nat):Int)=((8-s%8:Nat):Int):=lR (by omega) (by omega)
  simp only [cw.l0,ag,c9,c0,cn,Option.bind_some,if_true,e8,m8,i1,i2,i3,GZ,c1,Bool.false_eq_true,if_false,c2,c3,bf,u3,u4,u5,gd,gb]
  generalize l.getD ((i+s/8)%l.length) 0=X at*
  generalize l.getD ((i+s/8+1)%l.length) 0=Y at*
  have e1:lG .u8 (X:Int) ((s%8:Nat):Int)=(((X <<< (s%8))%256:Nat):Int):=by
   show shl .u8 _ (min (((s%8:Nat):Int)).toNat 8)=_
   rw [I8,Int.toNat_natCast,Nat.min_eq_left (by omega)]
  have e4:mM .u8 (Y:Int) ((8-s%8:Nat):Int)=((Y >>> (8-s%8):Nat):Int):=by
   show shr _ (min (((8-s%8:Nat):Int)).toNat 8)=_
   rw [gW];congr 2;rw [Int.toNat_natCast];omega
  have hY2:Y >>> (8-s%8)<256:=by rw [Nat.shiftRight_eq_div_pow];exact Nat.lt_of_le_of_lt (Nat.div_le_self _ _) hY
  have e3:=RR (a:=(X <<< (s%8))%256) (by omega) hY2
  simp only [e1,e3,e4,Int.toNat_natCast,e5,c2,c0,if_true]
  refine ih (by omega) (by omega) (hx.set (by omega) ?_)
  exact congrArg _ hT.symm
theorem uU {l:List Nat} {k:Nat} (hl: ∀x∈l,x<256) (hlen:l.length<1000000) (hk:l.length<k) (v:Int):cw.f k (il l) v=some (il (mb l v)):=by
 (unfold cw.f;(try dsimp only [gd,gb,Option.bind_some]))
 rw [ag,if_pos (by simp),if_pos (by rw [decide_eq_true_eq];omega)]
 by_cases h0:l.length=0
 ·rw [if_pos (by rw [h0];rfl)]
  have:l=[]:=List.length_eq_zero_iff.1 h0
  subst this;rfl
 ·have e8:ak (8*(l.length:Int))=((8*l.length:Nat):Int):=by rw [cA (by omega) (by omega)];simp
  rw [if_neg (by rw [beq_iff_eq];omega),e8,yY v (by omega) (by omega)]
  have h2:=Int.emod_nonneg v (show ((8*l.length:Nat):Int)≠0 by omega)
  have h3:=Int.emod_lt_of_pos v (show (0:Int)<((8*l.length:Nat):Int) by omega)
  exact G0 hl hlen (by omega) l.length (i:=0) (by omega) hk (Fl.zero (by simp))
end Go.Scr.S
namespace Go.Scr.S.Id
def st (a:Nat):Nat:=if a=0 then 65536 else a
def im (a b:Nat):Nat:=st a*st b%65537%65536
theorem G1 {a:Nat}:0<st a:=by unfold st;split<;>omega
theorem rU {a:Nat} (h:a<65536):st a<65537:=by unfold st;split<;>omega
theorem iW (a b:Nat):im a b<65536:=Nat.mod_lt _ (by decide)
set_option maxRecDepth 20000 in
theorem G2: ∀d,d<257→2≤d→65537%d≠0:=by decide
theorem Tv {x:Nat} (h0:0<x) (h1:x<65537):Nat.Coprime x 65537:=by
 unfold Nat.Coprime
 generalize hg:Nat.gcd x 65537=g
 have d1:g∣x:=hg▸Nat.gcd_dvd_left x 65537
 have d2:g∣65537:=hg▸Nat.gcd_dvd_right x 65537
 have hgx:g≤x:=Nat.le_of_dvd h0 d1
 have hg0:0<g:=by
  rcases Nat.eq_zero_or_pos g with h | h
  ·subst h;obtain ⟨q,hq⟩:=d2;omega
  ·exact h
 rcases Nat.lt_or_ge g 2 with h | h
 ·omega
 ·exfalso
  obtain ⟨q,hq⟩:=d2
  rcases Nat.lt_or_ge g 257 with h2 | h2
  ·exact G2 g h2 h (by rw [hq];exact Nat.mul_mod_right g q)
  ·have hq2:2≤q:=by
    rcases Nat.lt_or_ge q 2 with h3 | h3
    ·have:q=0∨q=1:=by omega
     rcases this with rfl | rfl<;>omega
    ·exact h3
   rcases Nat.lt_or_ge q 257 with h3 | h3
   ·exact G2 q h3 hq2 (by rw [hq];exact Nat.mul_mod_left g q)
   ·have:257*257≤g*q:=Nat.mul_le_mul h2 h3
    omega
theorem Tx {x y:Nat} (h0:0<x) (h1:x<65537) (h2:0<y) (h3:y<65537):x*y%65537≠0:=by
 intro h
 have hd:65537∣x*y:=Nat.dvd_of_mod_eq_zero h
 have:=(Tv h0 h1).symm.dvd_of_dvd_mul_left hd
 have:=Nat.le_of_dvd h2 this
 omega
theorem QY {z:Nat} (h0:z≠0) (h1:z<65537):st (z%65536)=z:=by
 unfold st;split<;>omega
theorem Lk {a b:Nat} (ha:a<65536) (hb:b<65536):st (im a b)=st a*st b%65537:=
 QY (Tx G1 (rU ha) G1 (rU hb)) (Nat.mod_lt _ (by decide))
def eA:Nat:=65535
def iv (a:Nat):Nat:=st a^eA%65537%65536
def s1 (x:Nat):Nat:=x*x%65537
def Sy (x:Nat):Nat:=s1 (s1 (s1 (s1 (s1 (s1 (s1 (s1 (s1 (s1 (s1 (s1 (s1 (s1 (s1 (s1 x)))))))))))))))
def Sz:Nat→Nat→Bool
 | 0,s=>Nat.beq (Sy s) 1
 | d+1,s=>bif Sz d s then Sz d (s+2^d) else false
theorem Cb:Sz 15 1=true:=by kernel_rfl
theorem qi (a:Nat):iv a<65536:=Nat.mod_lt _ (by decide)
theorem mW {k a b:Nat} (ha:a<65536) (hb:b<65536):gX.f k (a:Int) (b:Int)=some ((im a b:Nat):Int):=by
 have key: ∀x y:Nat,x<65537→y<65537→Int.tmod (Int.tmod (ak ((x:Int)*(y:Int))) 65537) 65536=((x*y%65537%65536:Nat):Int):=by
  intro x y hx hy
  have:x*y≤65536*65536:=Nat.mul_le_mul (by omega) (by omega)
  rw [←Int.natCast_mul,au (by omega)];rfl
 unfold gX.f im
 have e0: ∀n:Nat,(((n:Int)==0):Bool)=decide (n=0):=fun n=>by
  by_cases h:n=0
  ·subst h;rfl
  ·rw [decide_eq_false h,beq_eq_false_iff_ne];omega
 rw [e0,e0]
 unfold st
 by_cases h1:a=0
 ·by_cases h2:b=0
  ·simp only [h1,h2,decide_true,if_true];rfl
  ·simp only [h1,h2,decide_true,decide_false,if_true,if_false,Bool.false_eq_true]
   exact congrArg some (key 65536 b (by omega) (by omega))
 ·by_cases h2:b=0
  ·simp only [h1,h2,decide_true,decide_false,if_true,if_false,Bool.false_eq_true]
   exact congrArg some (key a 65536 (by omega) (by omega))
  ·simp only [h1,h2,decide_false,if_false,Bool.false_eq_true]
   exact congrArg some (key a b (by omega) (by omega))
theorem Ju {k:Nat} (f:Nat) {a o n:Nat} (hf:f<k) (ha:a<65536) (ho:o<65536) (hn:n<2^f) (hb:n<65536):
 ec.l0 k (a:Int) (o:Int) (n:Int)=some (((st o*st a^n)%65537%65536:Nat):Int):=by
 induction f generalizing k a o n with
 | zero=>
  obtain ⟨k,rfl⟩: ∃j,k=j+1:=⟨k-1,by omega⟩
  have:n=0:=by omega
  subst this
  simp only [ec.l0]
  rw [if_neg (by simp)]
  congr 2
  simp
  unfold st;split<;>omega
 | succ f ih=>
  obtain ⟨k,rfl⟩: ∃j,k=j+1:=⟨k-1,by omega⟩
  simp only [ec.l0]
  by_cases h0:n=0
  ·subst h0
   rw [if_neg (by simp)]
   congr 2
   simp
   unfold st;split<;>omega
  ·rw [if_pos (by rw [decide_eq_true_eq];omega)]
   have e1:Int.tmod (n:Int) 2=((n%2:Nat):Int):=rfl
   have e2:ak (Int.tdiv (n:Int) 2)=((n/2:Nat):Int):=au (n:=n/2) (by omega)
   have hn2:n/2<2^f:=by rw [Nat.pow_succ] at hn;omega
   have hsq:st (im a a)=st a*st a%65537:=Lk ha ha
   have m1:=mW (k:=k) ho ha
   have m2:=mW (k:=k) ha ha
   rw [e1,e2,m1,m2]
   simp only [Option.bind_some]
   by_cases h1:n%2=1
   ·rw [if_pos (by rw [decide_eq_true_eq];omega),ih (by omega) (iW _ _) (iW _ _) hn2 (by omega)]
    congr 2
    rw [Lk ho ha,hsq,Nat.mod_mul_mod,Nat.mul_mod,Nat.pow_mod (st a*st a%65537),Nat.mod_mod,←Nat.pow_mod,←Nat.mul_mod,←Nat.pow_two,←Nat.pow_mul,Nat.mul_assoc,←Nat.pow_succ',show Nat.succ (2*(n/2))=n by omega]
   ·rw [if_neg (by rw [decide_eq_true_eq];omega),ih (by omega) (iW _ _) ho hn2 (by omega)]
    congr 2
    rw [hsq,Nat.mul_mod,Nat.pow_mod (st a*st a%65537),Nat.mod_mod,←Nat.pow_mod,←Nat.mul_mod,←Nat.pow_two,←Nat.pow_mul,show 2*(n/2)=n by omega]
theorem rY {k a:Nat} (hk:20<k) (ha:a<65536):ec.f k (a:Int)=some ((iv a:Nat):Int):=by
 unfold ec.f iv
 have:=Ju (k:=k) 16 (o:=1) (n:=eA) (by omega) ha (by decide) (by decide) (by decide)
 rw [show st 1=1 by decide,Nat.one_mul] at this
 exact this
def gi (x:List Int) (i:Int):Int:=rm .i64 (shl .i64 (ak (rd x i)) 8) (ak (rd x (ak (i+1))))
def row (x:List Int):List Int:=[gi x 0,gi x 2,gi x 4,gi x 6,gi x 8,gi x 10,gi x 12,gi x 14]
def Co (m:List Nat):List Nat:=(List.range 8).map fun j=>m.getD (2*j) 0*256+m.getD (2*j+1) 0
theorem pv (m:List Nat):(Co m).length=8:=by simp [Co]
theorem G3 {a b:Nat} (ha:a<256) (hb:b<256):rm .i64 (shl .i64 (ak (a:Int)) 8) (ak (b:Int))=((a*256+b:Nat):Int):=by
 rw [au (by omega),au (by omega),Gr (by rw [Nat.shiftLeft_eq];omega),BY (by rw [Nat.shiftLeft_eq];simp [IntKind.bits];omega) (by simp [IntKind.bits];omega)]
 rw [←Nat.shiftLeft_add_eq_or_of_lt (by omega:b<2^8),Nat.shiftLeft_eq]
 exact au (by omega)
theorem Af {m:List Nat} (hm: ∀x∈m,x<256):row (il m)=il (Co m):=by
 have e: ∀i:Nat,i<16→gi (il m) (i:Int)=((m.getD i 0*256+m.getD (i+1) 0:Nat):Int):=by
  intro i hi
  unfold gi
  have:ak ((i:Int)+1)=((i+1:Nat):Int):=au (n:=i+1) (by omega)
  rw [this,bf,bf]
  exact G3 (dN hm _) (dN hm _)
 have:=e 0 (by decide);have:=e 2 (by decide);have:=e 4 (by decide);have:=e 6 (by decide);have:=e 8 (by decide);have:=e 10 (by decide);have:=e 12 (by decide);have:=e 14 (by decide)
 simp only [Int.cast_ofNat_Int,Nat.zero_add,Nat.reduceAdd] at*
 unfold row
 simp only [*]
 rfl
theorem Nc {x:List Int} (h:x.length=16) {k:Nat} (hk:20≤k):fy.f k x=some (row x):=by
 obtain ⟨j,rfl⟩: ∃j,k=j+20:=⟨k-20,by omega⟩
 match x,h with
 | [x0,x1,x2,x3,x4,x5,x6,x7,x8,x9,Cp,Cq,Cs,Cu,Cv,Cw],_=>exact Eq.trans (by kernel_rfl) (Eq.refl (some (row _)))
def kR (m:List Nat) (i:Nat):List Nat:=Co (mb m (25*(i:Int)))
def kA (m:List Nat):Nat→List Nat
 | 0=>[]
 | i+1=>kA m i++kR m i
theorem jQ (m:List Nat) (i:Nat):(kA m i).length=8*i:=by
 induction i with
 | zero=>rfl
 | succ i ih=>simp [kA,ih,kR,pv];omega
theorem gF (a b:List Nat):il (a++b)=il a++il b:=by simp [il]
theorem nv (a:List Nat) (n:Nat):(il a).take n=il (a.take n):=by simp [il,List.map_take]
theorem G4 {l:List Int} {k:Nat} (h:l.length≤1000000000):aX.f k l=some l:=by
 (unfold aX.f;(try dsimp only [gd,gb,Option.bind_some]))
 rw [if_pos (by rw [decide_eq_true_eq];simp;omega)];simp
theorem G5 {m:List Nat} (hm: ∀x∈m,x<256) (hl:m.length=16) (d:Nat) {k i:Nat} (hk:d+50<k) (hi:i+d=7):
 gf.l0 k (il m) (il (kA m i)) ((25*i:Nat):Int)=some (il ((kA m 7).take 52),0):=by
 induction d generalizing k i with
 | zero=>
  obtain ⟨k,rfl⟩: ∃j,k=j+1:=⟨k-1,by omega⟩
  have:i=7:=by omega
  subst this
  simp only [gf.l0,gd]
  rw [if_neg (by rw [decide_eq_true_eq,ag,jQ];omega),if_pos (by rw [decide_eq_true_eq,ag,jQ];omega)]
  have e:List.drop 0 (List.take 52 (il (kA m 7)))=il ((kA m 7).take 52):=by
   rw [List.drop_zero,nv]
  rw [e,G4 (by rw [ag,List.length_take];omega)]
  rfl
 | succ d ih=>
  obtain ⟨k,rfl⟩: ∃j,k=j+1:=⟨k-1,by omega⟩
  simp only [gf.l0,gd]
  have e1:=Cn (k:=k) hm (by omega) (by omega) (25*(i:Int))
  have e2:=Nc (x:=il (mb m (25*(i:Int)))) (k:=k) (by rw [ag,gG,hl]) (by omega)
  rw [Af (kE hm _)] at e2
  have e3:((25*i:Nat):Int)=25*(i:Int):=by omega
  have e4:ak (25*(i:Int)+25)=((25*(i+1):Nat):Int):=by
   rw [show 25*(i:Int)+25=((25*(i+1):Nat):Int) by omega,au (by omega)]
  (rw [if_pos (by rw [decide_eq_true_eq,ag,jQ];omega),e3,e1];(try rw [Option.bind_some]);rw [e2];(try rw [Option.bind_some]);rw [if_pos (by rw [decide_eq_true_eq,ag,ag,jQ,pv];omega),e4])
  have:=ih (k:=k) (i:=i+1) (by omega) (by omega)
  rw [←this,←gF];rfl
theorem G6 {m:List Nat} (hm: ∀x∈m,x<256) (hl:m.length=16) {k:Nat} (hk:60≤k):gf.f k (il m)=some (il ((kA m 7).take 52),0):=by
 (unfold gf.f;(try dsimp only [gd,gb,Option.bind_some]))
 rw [if_neg (by rw [ag,hl];decide)]
 exact G5 hm hl 7 (i:=0) (by omega) (by omega)
theorem Jv (m:List Nat):(kA m 7).take 52=kA m 6++(kR m 6).take 4:=by
 show (kA m 6++kR m 6).take 52=_
 rw [List.take_append,jQ,List.take_of_length_le (by rw [jQ];omega)]
theorem na {k:Nat} {x a:List Int} {i:Int} (hx:x.length=16) (ha:a.length<52) (h0:0≤i) (h1:i<15):aU.l1 (k+1) x a i=aU.l1 k x (a++[gi x i]) (ak (i+2)):=by
 have e:ak (i+1)=i+1:=cA (by omega) (by omega)
 simp only [aU.l1,e,gd,Option.bind_some]
 rw [if_pos (by rw [decide_eq_true_eq];omega),if_pos (by rw [decide_eq_true_eq];omega),if_pos (by rw [decide_eq_true_eq];omega),if_pos (by rw [decide_eq_true_eq];omega),if_pos (by rw [decide_eq_true_eq];omega),if_pos (by rw [decide_eq_true_eq];omega),if_pos (by rw [decide_eq_true_eq];simp;omega)]
 unfold gi;rw [e]
theorem QZ {k:Nat} {x a:List Int} (hx:x.length=16) (ha:a.length≤43):aU.l1 (k+9) x a 0=(cw.f k x 25).bind fun t=>aU.l0 k t (a++row x):=by
 rw [na hx (by omega) (by decide) (by decide),show ak (0+2)=2 from rfl,na hx (by simp;omega) (by decide) (by decide),show ak (2+2)=4 from rfl,na hx (by simp;omega) (by decide) (by decide),show ak (4+2)=6 from rfl,na hx (by simp;omega) (by decide) (by decide),show ak (6+2)=8 from rfl,na hx (by simp;omega) (by decide) (by decide),show ak (8+2)=10 from rfl,na hx (by simp;omega) (by decide) (by decide),show ak (10+2)=12 from rfl,na hx (by simp;omega) (by decide) (by decide),show ak (12+2)=14 from rfl,na hx (by simp;omega) (by decide) (by decide),show ak (14+2)=16 from rfl]
 simp only [aU.l1,gd,Option.bind_some]
 rw [if_neg (by decide)]
 simp [row]
theorem Jw {k:Nat} {x a:List Int} (hx:x.length=16) (ha:a.length=48):aU.l1 (k+5) x a 0=(cw.f k x 25).bind fun t=>aU.l0 k t (a++(row x).take 4):=by
 rw [na hx (by omega) (by decide) (by decide),show ak (0+2)=2 from rfl,na hx (by simp;omega) (by decide) (by decide),show ak (2+2)=4 from rfl,na hx (by simp;omega) (by decide) (by decide),show ak (4+2)=6 from rfl,na hx (by simp;omega) (by decide) (by decide),show ak (6+2)=8 from rfl]
 simp only [aU.l1,gd,Option.bind_some]
 rw [if_pos (by decide),if_neg (by rw [decide_eq_true_eq];simp;omega)]
 simp [row]
theorem D6 {m:List Nat} (hm: ∀x∈m,x<256) (hl:m.length=16) (d:Nat) {k i:Nat} (hk:12*d+50<k) (hi:i+d=6):
 aU.l0 k (il (mb m (25*(i:Int)))) (il (kA m i))=some (il ((kA m 7).take 52),0):=by
 have hlen:(il (mb m (25*(i:Int)))).length=16:=by rw [ag,gG,hl]
 have hr:=Af (kE hm (25*(i:Int)))
 induction d generalizing k i with
 | zero=>
  obtain ⟨k,rfl⟩: ∃j,k=j+5+1:=⟨k-6,by omega⟩
  have:i=6:=by omega
  subst this
  have e1:=uU (k:=k) (kE hm (25*((6:Nat):Int))) (by rw [gG];omega) (by rw [gG];omega) 25
  rw [aU.l0,if_pos (by rw [decide_eq_true_eq,ag,jQ];omega),Jw hlen (by rw [ag,jQ]),e1,Option.bind_some,hr,nv,←gF,Jv]
  obtain ⟨k,rfl⟩: ∃j,k=j+1:=⟨k-1,by omega⟩
  rw [aU.l0,if_neg (by rw [decide_eq_true_eq,ag,List.length_append,jQ,List.length_take];simp [kR,pv])]
  rfl
 | succ d ih=>
  obtain ⟨k,rfl⟩: ∃j,k=j+9+1:=⟨k-10,by omega⟩
  have e1:=uU (k:=k) (kE hm (25*(i:Int))) (by rw [gG];omega) (by rw [gG];omega) 25
  rw [aU.l0,if_pos (by rw [decide_eq_true_eq,ag,jQ];omega),QZ hlen (by rw [ag,jQ];omega),e1,Option.bind_some,hr,←gF,D4 hm]
  have e2:(25*(i:Int)+25)=25*((i+1:Nat):Int):=by omega
  rw [e2]
  exact ih (by omega) (by omega) (by rw [ag,gG,hl]) (Af (kE hm _))
theorem D7 {m:List Nat} (hm: ∀x∈m,x<256) (hl:m.length=16) {k:Nat} (hk:200≤k):aU.f k (il m)=some (il ((kA m 7).take 52),0):=by
 obtain ⟨k,rfl⟩: ∃j,k=j+9+1:=⟨k-10,by omega⟩
 unfold aU.f
 rw [if_neg (by rw [ag,hl];decide)]
 have h0:mb m (25*((0:Nat):Int))=m:=D5 hm _ (by rw [show (25*((0:Nat):Int))=0 by rfl];exact Int.zero_emod _)
 have:=D6 hm hl 6 (k:=k+9+1) (i:=0) (by omega) (by omega)
 rw [h0] at this
 exact this
abbrev N4:=Nat×Nat×Nat×Nat
abbrev N6:=Nat×Nat×Nat×Nat×Nat×Nat
def ad (a b:Nat):Nat:=(a+b)%65536
def sb (a b:Nat):Nat:=(a+(65536-b))%65536
def ng (a:Nat):Nat:=(65536-a)%65536
theorem mf (a b:Nat):ad a b<65536:=Nat.mod_lt _ (by decide)
theorem tg (a b:Nat):sb a b<65536:=Nat.mod_lt _ (by decide)
theorem Cy (a:Nat):ng a<65536:=Nat.mod_lt _ (by decide)
theorem wc {a b:Nat} (hb:b<65536):ad a (ng b)=sb a b:=by unfold ad ng sb;omega
theorem qF {k a b:Nat} (ha:a<65536) (hb:b<65536):jj.f k (a:Int) (b:Int)=some ((ad a b:Nat):Int):=by
 unfold jj.f ad
 rw [←Int.natCast_add,au (by omega)];rfl
theorem oW {k a b:Nat} (ha:a<65536) (hb:b<65536):dY.f k (a:Int) (b:Int)=some ((ad a b:Nat):Int):=by
 unfold dY.f ad
 rw [←Int.natCast_add,au (by omega)];rfl
theorem t5 {k a:Nat} (ha:a<65536):kh.f k (a:Int)=some ((ng a:Nat):Int):=by
 unfold kh.f ng
 rw [show (65536-(a:Int))=((65536-a:Nat):Int) by omega,au (by omega)];rfl
theorem rZ {k a b:Nat} (ha:a<65536) (hb:b<65536):eN.f k (a:Int) (b:Int)=some ((sb a b:Nat):Int):=by
 unfold eN.f sb
 rw [cA (x:=(a:Int)-b) (by omega) (by omega),show ((a:Int)-b+65536)=((a+(65536-b):Nat):Int) by omega,au (by omega)];rfl
theorem kM {k a b:Nat} (ha:a<65536) (hb:b<65536):bZ.f k (a:Int) (b:Int)=some ((im a b:Nat):Int):=by
 have s: ∀ {a:Nat},a<65536→fN.f k (a:Int)=some ((st a:Nat):Int):=fun {a} h=>by
  unfold fN.f st
  by_cases h0:a=0
  ·subst h0;rfl
  ·rw [if_neg (by rw [beq_iff_eq];omega),if_neg h0]
 have:=rU ha;have:=rU hb
 have h3:st a*st b≤65536*65536:=Nat.mul_le_mul (by omega) (by omega)
 unfold bZ.f
 rw [s ha,Option.bind_some,s hb,Option.bind_some,←Int.natCast_mul,au (by omega)];rfl
theorem sa {k a:Nat} (hk:20<k) (ha:a<65536):cS.f k (a:Int)=some ((iv a:Nat):Int):=by
 have key: ∀ {k:Nat} (f:Nat) {a o n:Nat},f<k→a<65536→o<65536→n<65536→n<2^f→cS.l0 k (a:Int) (o:Int) (n:Int)=ec.l0 k (a:Int) (o:Int) (n:Int):=by
  intro k f
  induction f generalizing k with
  | zero=>
   intro a o n hk ha ho hb hn
   obtain ⟨k,rfl⟩: ∃j,k=j+1:=⟨k-1,by omega⟩
   have:n=0:=by omega
   subst this;rfl
  | succ f ih=>
   intro a o n hk ha ho hb hn
   obtain ⟨k,rfl⟩: ∃j,k=j+1:=⟨k-1,by omega⟩
   have t2:Int.tdiv (n:Int) 2=((n/2:Nat):Int):=rfl
   have m2:Int.tmod (n:Int) 2=((n%2:Nat):Int):=rfl
   have e2:ak ((n/2:Nat):Int)=((n/2:Nat):Int):=au (by omega)
   have h2:n/2<2^f:=by rw [Nat.pow_succ] at hn;omega
   have r1:=ih (k:=k) (a:=im a a) (o:=im o a) (n:=n/2) (by omega) (iW _ _) (iW _ _) (by omega) h2
   have r2:=ih (k:=k) (a:=im a a) (o:=o) (n:=n/2) (by omega) (iW _ _) ho (by omega) h2
   simp only [cS.l0,ec.l0,t2,m2,e2,kM ho ha,kM ha ha,mW ho ha,mW ha ha,Option.bind_some,r1,r2]
   by_cases hp:n%2=1
   ·have c1:(((n%2:Nat):Int)==1)=true:=by rw [beq_iff_eq];omega
    have c2:decide (((n%2:Nat):Int)>0)=true:=by rw [decide_eq_true_eq];omega
    simp only [c1,c2]
   ·have c1:(((n%2:Nat):Int)==1)=false:=by rw [beq_eq_false_iff_ne];omega
    have c2:decide (((n%2:Nat):Int)>0)=false:=by rw [decide_eq_false_iff_not];omega
    simp only [c1,c2]
 rw [←rY hk ha]
 exact key 16 (by omega) ha (by decide) (by decide) (by decide)
theorem En {a b:Nat} (ha:a<65536) (hb:b<65536):a ^^^ b<65536:=Nat.xor_lt_two_pow (n:=16) ha hb
theorem zw {a b:Nat} (ha:a<65536) (hb:b<65536):aK .i64 (a:Int) (b:Int)=((a ^^^ b:Nat):Int):=Qi (by omega) (by omega)
def Sm (x:N4):Prop:=x.1<65536∧x.2.1<65536∧x.2.2.1<65536∧x.2.2.2<65536
def S6 (x:N6):Prop:=x.1<65536∧x.2.1<65536∧x.2.2.1<65536∧x.2.2.2.1<65536∧x.2.2.2.2.1<65536∧x.2.2.2.2.2<65536
def f4 (s:N6):N4:=(s.1,s.2.1,s.2.2.1,s.2.2.2.1)
def l6 (s:N6):List Nat:=[s.1,s.2.1,s.2.2.1,s.2.2.2.1,s.2.2.2.2.1,s.2.2.2.2.2]
def l4 (s:N4):List Nat:=[s.1,s.2.1,s.2.2.1,s.2.2.2]
def lU (L:List N6) (f:N4):List Nat:=(L.map l6).flatten++l4 f
def ma (k4 k5:Nat) (x:N4):N4:=
 let f:=im (x.1 ^^^ x.2.2.1) k4
 let g:=im (ad (x.2.1 ^^^ x.2.2.2) f) k5
 (x.1 ^^^ g,x.2.2.1 ^^^ g,x.2.1 ^^^ ad f g,x.2.2.2 ^^^ ad f g)
def kx (s:N6) (x:N4):N4:=(im x.1 s.1,ad x.2.1 s.2.1,ad x.2.2.1 s.2.2.1,im x.2.2.2 s.2.2.2.1)
def fin (f x:N4):N4:=(im x.1 f.1,ad x.2.2.1 f.2.1,ad x.2.1 f.2.2.1,im x.2.2.2 f.2.2.2)
def tS:List N6→N4→N4→N4
 | [],f,x=>fin f x
 | s::L,f,x=>tS L f (ma s.2.2.2.2.1 s.2.2.2.2.2 (kx s x))
theorem Ll (s:N6) (x:N4):Sm (kx s x):=⟨iW _ _,mf _ _,mf _ _,iW _ _⟩
theorem Lm {k4 k5:Nat} {x:N4} (h:Sm x):Sm (ma k4 k5 x):=⟨En h.1 (iW _ _),En h.2.2.1 (iW _ _),En h.2.1 (mf _ _),En h.2.2.2 (mf _ _)⟩
theorem zc: ∀(L:List N6) (f x:N4),Sm (tS L f x)
 | [],f,x=>⟨iW _ _,mf _ _,mf _ _,iW _ _⟩
 | s::L,f,x=>zc L f _
theorem sc (L:List N6) (f:N4):(lU L f).length=6*L.length+4:=by
 induction L with
 | nil=>rfl
 | cons s L ih=>show (l6 s++(L.map l6).flatten++l4 f).length=_;rw [List.append_assoc,List.length_append];show 6+(lU L f).length=_;rw [ih,List.length_cons];omega
theorem oY (s:N6) (L:List N6) (f:N4):lU (s::L) f=l6 s++lU L f:=by unfold lU;rw [List.map_cons,List.flatten_cons,List.append_assoc]
theorem G7 (a b c d e f:Nat) (r:List Nat):il ([a,b,c,d,e,f]++r)=(a:Int)::b::c::d::e::f::il r:=rfl
theorem G8 (f:N4) (hf:Sm f): ∀(L:List N6),(∀s∈L,S6 s)→ ∀(x:N4),Sm x→ ∀k,L.length<k→
 fo.l0 k (il (lU L f)) (x.1:Int) (if L=[] then x.2.2.1 else x.2.1:Nat) (if L=[] then x.2.1 else x.2.2.1:Nat) (x.2.2.2:Int)=some (il (l4 (tS L f x))):=by
 intro L
 induction L with
 | nil=>
  rintro-⟨x0,x1,x2,x3⟩ ⟨h0,h1,h2,h3⟩ k hk
  obtain ⟨k,rfl⟩: ∃j,k=j+1:=⟨k-1,by simp at hk;omega⟩
  obtain ⟨f0,f1,f2,f3⟩:=f
  obtain ⟨g0,g1,g2,g3⟩:=hf
  simp only at h0 h1 h2 h3 g0 g1 g2 g3
  have e:il (lU [] (f0,f1,f2,f3))=[(f0:Int),(f1:Int),(f2:Int),(f3:Int)]:=rfl
  rw [e]
  have r0:rd [(f0:Int),(f1:Int),(f2:Int),(f3:Int)] 0=f0:=rfl
  have r1:rd [(f0:Int),(f1:Int),(f2:Int),(f3:Int)] 1=f1:=rfl
  have r2:rd [(f0:Int),(f1:Int),(f2:Int),(f3:Int)] 2=f2:=rfl
  have r3:rd [(f0:Int),(f1:Int),(f2:Int),(f3:Int)] 3=f3:=rfl
  have ll:([(f0:Int),(f1:Int),(f2:Int),(f3:Int)].length:Int)=4:=rfl
  simp only [fo.l0,gd,ll,r0,r1,r2,r3,if_true,mW h0 g0,qF h2 g1,qF h1 g2,mW h3 g3,Option.bind_some]
  rfl
 | cons s L ih=>
  rintro hL ⟨x0,x1,x2,x3⟩ ⟨h0,h1,h2,h3⟩ k hk
  obtain ⟨k,rfl⟩: ∃j,k=j+1:=⟨k-1,by simp at hk;omega⟩
  have nx:=fun z hz=>ih (fun s hs=>hL s (List.mem_cons_of_mem _ hs)) z hz k (by simpa using hk)
  obtain ⟨s0,s1,s2,s3,s4,s5⟩:=s
  obtain ⟨g0,g1,g2,g3,g4,g5⟩:=hL _ List.mem_cons_self
  simp only at h0 h1 h2 h3 g0 g1 g2 g3 g4 g5
  rw [oY,show l6 (s0,s1,s2,s3,s4,s5)=[s0,s1,s2,s3,s4,s5] from rfl,G7]
  generalize hR:il (lU L f)=R at nx ⊢
  have hlR:R.length=6*L.length+4:=by rw [←hR,ag,sc]
  have r0:rd ((s0:Int)::s1::s2::s3::s4::s5::R) 0=s0:=rfl
  have r1:rd ((s0:Int)::s1::s2::s3::s4::s5::R) 1=s1:=rfl
  have r2:rd ((s0:Int)::s1::s2::s3::s4::s5::R) 2=s2:=rfl
  have r3:rd ((s0:Int)::s1::s2::s3::s4::s5::R) 3=s3:=rfl
  have r4:rd ((s0:Int)::s1::s2::s3::s4::s5::R) 4=s4:=rfl
  have r5:rd ((s0:Int)::s1::s2::s3::s4::s5::R) 5=s5:=rfl
  have ll:(((s0:Int)::s1::s2::s3::s4::s5::R).length:Int)=((6*L.length+10:Nat):Int):=by simp [hlR];omega
  have c: ∀j:Int,j≤6→decide (j<((6*L.length+10:Nat):Int))=true:=fun j hj=>by rw [decide_eq_true_eq];omega
  have c0:=c 0 (by decide);have c1:=c 1 (by decide);have c2:=c 2 (by decide);have c3:=c 3 (by decide);have c4:=c 4 (by decide);have c5:=c 5 (by decide)
  have c6:decide (6≤((6*L.length+10:Nat):Int))=true:=by rw [decide_eq_true_eq];omega
  have c7:decide (((6*L.length+10:Nat):Int)>4)=true:=by rw [decide_eq_true_eq];omega
  have hd:((s0:Int)::s1::s2::s3::s4::s5::R).drop 6=R:=rfl
  have hk4:=Ll (s0,s1,s2,s3,s4,s5) (x0,x1,x2,x3)
  have nz:=nx (ma s4 s5 (kx (s0,s1,s2,s3,s4,s5) (x0,x1,x2,x3))) (Lm hk4)
  have i1:=iW x0 s0;have i2:=mf x1 s1;have i3:=mf x2 s2;have i4:=iW x3 s3
  rw [if_neg (List.cons_ne_nil _ _),if_neg (List.cons_ne_nil _ _),fo.l0]
  simp only [gd,ll,r0,r1,r2,r3,r4,r5,c0,c1,c2,c3,c4,c5,c6,c7,hd,if_true]
  rw [mW h0 g0,Option.bind_some,qF h1 g1,Option.bind_some,qF h2 g2,Option.bind_some,mW h3 g3,Option.bind_some,zw i1 i3,mW (En i1 i3) g4,Option.bind_some,zw i2 i4,qF (En i2 i4) (iW _ _),Option.bind_some,mW (mf _ _) g5,Option.bind_some,qF (iW _ _) (iW _ _),Option.bind_some,zw i1 (iW _ _),zw i3 (iW _ _),zw i2 (mf _ _),zw i4 (mf _ _)]
  cases L with
  | nil=>
   rw [if_pos (by rw [hlR];rfl)]
   exact nz
  | cons t L=>
   rw [if_neg (by rw [hlR,beq_iff_eq,List.length_cons];omega)]
   exact nz
theorem G9 {k a c d e k4 k5:Nat} (ha:a<65536) (hc:c<65536) (hd:d<65536) (he:e<65536) (h4:k4<65536) (h5:k5<65536) {T:List Int} (hl:5<T.length) (r4:rd T 4=(k4:Int)) (r5:rd T 5=(k5:Int)):
 fO.f k (a:Int) (c:Int) (d:Int) (e:Int) T=some (((ad (im (a ^^^ d) k4) (im (ad (c ^^^ e) (im (a ^^^ d) k4)) k5):Nat):Int),((im (ad (c ^^^ e) (im (a ^^^ d) k4)) k5:Nat):Int)):=by
 unfold fO.f gd
 rw [if_pos (by rw [decide_eq_true_eq];omega),zw ha hd,r4,kM (En ha hd) h4,Option.bind_some,zw hc he,oW (En hc he) (iW _ _),Option.bind_some,if_pos (by rw [decide_eq_true_eq];omega),r5,kM (mf _ _) h5,Option.bind_some,oW (iW _ _) (iW _ _),Option.bind_some]
theorem D8 (f:N4) (hf:Sm f): ∀(L:List N6),(∀s∈L,S6 s)→ ∀(x:N4),Sm x→ ∀k i:Nat,L.length<k→i+L.length=8→
 cD.l0 k (il (lU L f)) (il (l4 x)) (i:Int)=some (il (l4 (tS L f x))):=by
 intro L
 induction L with
 | nil=>
  rintro-⟨x0,x1,x2,x3⟩ ⟨h0,h1,h2,h3⟩ k i hk hi
  obtain ⟨k,rfl⟩: ∃j,k=j+1:=⟨k-1,by simp at hk;omega⟩
  have:i=8:=by simpa using hi
  subst this
  obtain ⟨f0,f1,f2,f3⟩:=f
  obtain ⟨g0,g1,g2,g3⟩:=hf
  simp only at h0 h1 h2 h3 g0 g1 g2 g3
  show cD.l0 (k+1) [(f0:Int),(f1:Int),(f2:Int),(f3:Int)] [(x0:Int),(x1:Int),(x2:Int),(x3:Int)] 8=_
  rw [cD.l0,if_neg (by decide)]
  unfold gd
  rw [if_pos (by rfl),show rd [(x0:Int),(x1:Int),(x2:Int),(x3:Int)] 0=x0 from rfl,show rd [(f0:Int),(f1:Int),(f2:Int),(f3:Int)] 0=f0 from rfl,kM h0 g0,Option.bind_some,
   if_pos (by rfl),show rd [(x0:Int),(x1:Int),(x2:Int),(x3:Int)] 2=x2 from rfl,show rd [(f0:Int),(f1:Int),(f2:Int),(f3:Int)] 1=f1 from rfl,oW h2 g1,Option.bind_some,
   if_pos (by rfl),show rd [(x0:Int),(x1:Int),(x2:Int),(x3:Int)] 1=x1 from rfl,show rd [(f0:Int),(f1:Int),(f2:Int),(f3:Int)] 2=f2 from rfl,oW h1 g2,Option.bind_some,
   if_pos (by rfl),show rd [(x0:Int),(x1:Int),(x2:Int),(x3:Int)] 3=x3 from rfl,show rd [(f0:Int),(f1:Int),(f2:Int),(f3:Int)] 3=f3 from rfl,kM h3 g3,Option.bind_some]
  rfl
 | cons s L ih=>
  rintro hL ⟨x0,x1,x2,x3⟩ ⟨h0,h1,h2,h3⟩ k i hk hi
  obtain ⟨k,rfl⟩: ∃j,k=j+1:=⟨k-1,by simp at hk;omega⟩
  have hi':i+1+L.length=8:=by simp at hi;omega
  have hk4:=Ll s (x0,x1,x2,x3)
  have nz:=ih (fun s hs=>hL s (List.mem_cons_of_mem _ hs)) (ma s.2.2.2.2.1 s.2.2.2.2.2 (kx s (x0,x1,x2,x3))) (Lm hk4) k (i+1) (by simpa using hk) hi'
  obtain ⟨s0,s1,s2,s3,s4,s5⟩:=s
  obtain ⟨g0,g1,g2,g3,g4,g5⟩:=hL _ List.mem_cons_self
  simp only at h0 h1 h2 h3 g0 g1 g2 g3 g4 g5
  rw [oY,show l6 (s0,s1,s2,s3,s4,s5)=[s0,s1,s2,s3,s4,s5] from rfl,G7]
  show cD.l0 (k+1) _ [(x0:Int),(x1:Int),(x2:Int),(x3:Int)] _=_
  generalize hR:il (lU L f)=R at nz ⊢
  have hlR:R.length=6*L.length+4:=by rw [←hR,ag,sc]
  have ll:(((s0:Int)::s1::s2::s3::s4::s5::R).length:Int)=((6*L.length+10:Nat):Int):=by simp [hlR];omega
  have c: ∀j:Int,j≤6→decide (j<((6*L.length+10:Nat):Int))=true:=fun j hj=>by rw [decide_eq_true_eq];omega
  have i1:=iW x0 s0;have i2:=mf x1 s1;have i3:=mf x2 s2;have i4:=iW x3 s3
  have a2:ak ((i:Int)+1)=((i+1:Nat):Int):=au (n:=i+1) (by omega)
  rw [cD.l0,if_pos (by rw [decide_eq_true_eq];omega)]
  unfold gd
  rw [ll,if_pos (c 0 (by decide)),show rd [(x0:Int),(x1:Int),(x2:Int),(x3:Int)] 0=x0 from rfl,show rd ((s0:Int)::s1::s2::s3::s4::s5::R) 0=s0 from rfl,kM h0 g0,Option.bind_some,
   if_pos (c 1 (by decide)),show rd [(x0:Int),(x1:Int),(x2:Int),(x3:Int)] 1=x1 from rfl,show rd ((s0:Int)::s1::s2::s3::s4::s5::R) 1=s1 from rfl,oW h1 g1,Option.bind_some,
   if_pos (c 2 (by decide)),show rd [(x0:Int),(x1:Int),(x2:Int),(x3:Int)] 2=x2 from rfl,show rd ((s0:Int)::s1::s2::s3::s4::s5::R) 2=s2 from rfl,oW h2 g2,Option.bind_some,
   if_pos (c 3 (by decide)),show rd [(x0:Int),(x1:Int),(x2:Int),(x3:Int)] 3=x3 from rfl,show rd ((s0:Int)::s1::s2::s3::s4::s5::R) 3=s3 from rfl,kM h3 g3,Option.bind_some,
   G9 i1 i2 i3 i4 g4 g5 (T:=(s0:Int)::s1::s2::s3::s4::s5::R) (by simp [hlR]) rfl rfl,Option.bind_some,if_pos (by rw [decide_eq_true_eq];omega),zw i1 (iW _ _),zw i3 (iW _ _),zw i2 (mf _ _),zw i4 (mf _ _),a2]
  exact nz
def bs (s:N6) (y:N4):N4:=
 let f:=im (y.1 ^^^ y.2.1) s.2.2.2.2.1
 let g:=im (ad (y.2.2.1 ^^^ y.2.2.2) f) s.2.2.2.2.2
 (im (y.1 ^^^ g) (iv s.1),sb (y.2.2.1 ^^^ ad f g) s.2.1,sb (y.2.1 ^^^ g) s.2.2.1,im (y.2.2.2 ^^^ ad f g) (iv s.2.2.2.1))
def bS:List N6→N4→N4
 | [],y=>y
 | s::R,y=>bS R (bs s y)
def NX (g x:N4):N4:=(im x.1 (iv g.1),sb x.2.2.1 g.2.2.1,sb x.2.1 g.2.1,im x.2.2.2 (iv g.2.2.2))
def Jx (g z:N4):N4:=(im z.1 (iv g.1),sb z.2.2.1 g.2.1,sb z.2.1 g.2.2.1,im z.2.2.2 (iv g.2.2.2))
def U:List N6→N4→Bool→List N6×N4
 | [],g,_=>([],(iv g.1,ng g.2.1,ng g.2.2.1,iv g.2.2.2))
 | s::R,g,t=>((iv g.1,(if t=true then ng g.2.1 else ng g.2.2.1),(if t=true then ng g.2.2.1 else ng g.2.1),iv g.2.2.2,s.2.2.2.2.1,s.2.2.2.2.2)::(U R (f4 s) false).1,(U R (f4 s) false).2)
theorem Cz (s:N6) (a c d e:Nat):Jx (f4 s) (ma s.2.2.2.2.1 s.2.2.2.2.2 (a,c,d,e))=bs s (a,d,c,e):=rfl
theorem Nd (R:List N6) (hR: ∀s∈R,S6 s) (g z:N4) (hg:Sm g):tS (U R g false).1 (U R g false).2 z=bS R (Jx g z):=by
 induction R generalizing g z with
 | nil=>simp only [U,tS,fin,bS,Jx,wc hg.2.1,wc hg.2.2.1]
 | cons s R ih=>
  have hs:=hR s List.mem_cons_self
  have ih:=ih (fun s hs=>hR s (List.mem_cons_of_mem _ hs)) (f4 s) (ma s.2.2.2.2.1 s.2.2.2.2.2 (im z.1 (iv g.1),sb z.2.1 g.2.2.1,sb z.2.2.1 g.2.1,im z.2.2.2 (iv g.2.2.2))) ⟨hs.1,hs.2.1,hs.2.2.1,hs.2.2.2.1⟩
  simp only [U,tS,kx,Bool.false_eq_true,if_false,wc hg.2.1,wc hg.2.2.1,ih]
  rw [Cz]
  simp only [bS,Jx]
theorem Q0 (s:N6) (R:List N6) (hR: ∀t∈s::R,S6 t) (g x:N4) (hg:Sm g):tS (U (s::R) g true).1 (U (s::R) g true).2 x=bS (s::R) (NX g x):=by
 have hs:=hR s List.mem_cons_self
 have ih:=Nd R (fun s hs=>hR s (List.mem_cons_of_mem _ hs)) (f4 s) (ma s.2.2.2.2.1 s.2.2.2.2.2 (im x.1 (iv g.1),sb x.2.1 g.2.1,sb x.2.2.1 g.2.2.1,im x.2.2.2 (iv g.2.2.2))) ⟨hs.1,hs.2.1,hs.2.2.1,hs.2.2.2.1⟩
 simp only [U,tS,kx,if_true,wc hg.2.1,wc hg.2.2.1,ih]
 rw [Cz]
 simp only [bS,NX]
theorem Q1: ∀(R:List N6),(∀s∈R,S6 s)→ ∀(g:N4) (t:Bool),(∀s∈(U R g t).1,S6 s)∧Sm (U R g t).2
 | [],_,g,t=>⟨fun s hs=>(by cases hs),⟨qi _,Cy _,Cy _,qi _⟩⟩
 | s::R,hR,g,t=>by
  have ih:=Q1 R (fun s hs=>hR s (List.mem_cons_of_mem _ hs)) (f4 s) false
  have hs:=hR s List.mem_cons_self
  refine ⟨fun z hz=> ?_,ih.2⟩
  rcases List.mem_cons.1 hz with rfl | hz
  ·refine ⟨qi _,?_,?_,qi _,hs.2.2.2.2.1,hs.2.2.2.2.2⟩
   ·show (if t=true then ng g.2.1 else ng g.2.2.1)<65536;split<;>exact Cy _
   ·show (if t=true then ng g.2.2.1 else ng g.2.1)<65536;split<;>exact Cy _
  ·exact ih.1 z hz
theorem Ln: ∀(R:List N6) (g:N4) (t:Bool),(U R g t).1.length=R.length
 | [],_,_=>rfl
 | s::R,g,t=>by show ((U R (f4 s) false).1.length+1)=_;rw [Ln R];rfl
def pf (R:List N6):List Nat:=(R.reverse.map l6).flatten
theorem se (s:N6) (R:List N6):pf (s::R)=pf R++l6 s:=by unfold pf;rw [List.reverse_cons,List.map_append,List.flatten_append];simp
theorem sM (R:List N6):(pf R).length=6*R.length:=by
 induction R with
 | nil=>rfl
 | cons s R ih=>rw [se,List.length_append,ih];show _+6=_;rw [List.length_cons];omega
theorem Th (P T:List Nat) (g:N4) {n:Nat} (h:P.length=n):((il (P++l4 g++T)).take (n+4)).drop n=[(g.1:Int),(g.2.1:Int),(g.2.2.1:Int),(g.2.2.2:Int)]:=by
 subst h
 rw [nv,List.take_append,List.take_of_length_le (by rw [List.length_append];show _+4≤_;omega),List.length_append,show P.length+4-(P.length+(l4 g).length)=0 from Nat.sub_self _,List.take_zero,List.append_nil,show (il (P++l4 g)).drop P.length=il ((P++l4 g).drop P.length) by simp [il,List.map_drop],List.drop_left]
 rfl
theorem RW (P T:List Nat) (a b:Nat) {n:Nat} (h:P.length+2=n):((il (P++[a,b]++T)).take n).drop (n-2)=[(a:Int),(b:Int)]:=by
 subst h
 rw [nv,List.take_append,List.take_of_length_le (by rw [List.length_append];exact Nat.le_refl _),List.length_append,show P.length+2-(P.length+[a,b].length)=0 from Nat.sub_self _,List.take_zero,List.append_nil,show (il (P++[a,b])).drop (P.length+2-2)=il ((P++[a,b]).drop (P.length+2-2)) by simp [il,List.map_drop],Nat.add_sub_cancel,List.drop_left]
 rfl
theorem D9 (R:List N6): ∀(g:N4) (T:List Nat) (x:List Nat) (k:Nat),(∀s∈R,S6 s)→Sm g→R.length≤8→x.length+6*(R.length+1)≤1000→(pf R++l4 g++T).length=52→R.length+30<k→
 cP.l0 k (il (pf R++l4 g++T)) (il x) ((R.length:Nat):Int)=some (il (x++lU (U R g (R.length==8)).1 (U R g (R.length==8)).2)):=by
 induction R with
 | nil=>
  intro g T x k _ hg _ hx hl hk
  obtain ⟨k,rfl⟩: ∃j,k=j+1+1:=⟨k-2,by simp at hk;omega⟩
  have sl:=Th (pf []) T g (n:=0) rfl
  generalize hK:il (pf []++l4 g++T)=K at sl ⊢
  have lK:(K.length:Int)=52:=by rw [←hK,ag,hl];rfl
  show cP.l0 (k+1+1) K (il x) 0=_
  have e0:ak (6*0)=0:=rfl
  have e4:ak (0+4)=4:=rfl
  have t0:((0:Int)).toNat=0:=rfl
  have t4:((4:Int)).toNat=0+4:=rfl
  rw [cP.l0,if_pos (by decide)]
  unfold gd
  rw [e0,e4,t0,t4,sl,lK,if_pos (by decide),if_pos (by decide),if_pos (by decide),if_pos (by rfl),Option.bind_some,show rd [(g.1:Int),(g.2.1:Int),(g.2.2.1:Int),(g.2.2.2:Int)] 1=(g.2.1:Int) from rfl,t5 hg.2.1,Option.bind_some,if_pos (by rfl),Option.bind_some,show rd [(g.1:Int),(g.2.1:Int),(g.2.2.1:Int),(g.2.2.2:Int)] 2=(g.2.2.1:Int) from rfl,t5 hg.2.2.1,Option.bind_some,
   if_neg (by decide),if_pos (by rfl),Option.bind_some,show rd [(g.1:Int),(g.2.1:Int),(g.2.2.1:Int),(g.2.2.2:Int)] 0=(g.1:Int) from rfl,rY (by omega) hg.1,Option.bind_some,if_pos (by rfl),Option.bind_some,show rd [(g.1:Int),(g.2.1:Int),(g.2.2.1:Int),(g.2.2.2:Int)] 3=(g.2.2.2:Int) from rfl,rY (by omega) hg.2.2.2,Option.bind_some,if_pos (by rw [decide_eq_true_eq,ag];show x.length+4≤_;simp at hx;omega),if_neg (by decide)]
  rw [show ak (0-1)= -1 from rfl,cP.l0,if_neg (by decide),gF];rfl
 | cons s R ih=>
  intro g T x k hR hg h8 hx hl hk
  rw [List.length_cons] at h8 hk ⊢
  obtain ⟨k,rfl⟩: ∃j,k=j+1:=⟨k-1,by omega⟩
  have hs:=hR s List.mem_cons_self
  have nx:=fun y hy=>ih (f4 s) ([s.2.2.2.2.1,s.2.2.2.2.2]++l4 g++T) y k (fun s hs=>hR s (List.mem_cons_of_mem _ hs)) ⟨hs.1,hs.2.1,hs.2.2.1,hs.2.2.2.1⟩ (by omega) hy (by rw [←hl,se];simp [l6,l4,f4]) (by omega)
  have eK:pf R++l4 (f4 s)++([s.2.2.2.2.1,s.2.2.2.2.2]++l4 g++T)=pf (s::R)++l4 g++T:=by rw [se];simp [l6,l4,f4]
  have sl:=Th (pf (s::R)) T g (n:=6*(R.length+1)) (by rw [sM,List.length_cons])
  have sl':=RW (pf R++l4 (f4 s)) (l4 g++T) s.2.2.2.2.1 s.2.2.2.2.2 (n:=6*(R.length+1)) (by rw [List.length_append,sM];show 6*R.length+4+2=_;omega)
  have eK2:pf R++l4 (f4 s)++[s.2.2.2.2.1,s.2.2.2.2.2]++(l4 g++T)=pf (s::R)++l4 g++T:=by rw [se];simp [l6,l4,f4]
  rw [eK2] at sl'
  rw [eK] at nx
  generalize hK:il (pf (s::R)++l4 g++T)=K at sl sl' nx ⊢
  have lK:(K.length:Int)=52:=by rw [←hK,ag,hl];rfl
  have e0:ak (6*((R.length+1:Nat):Int))=((6*(R.length+1):Nat):Int):=au (n:=6*(R.length+1)) (by omega)
  have e4:ak (((6*(R.length+1):Nat):Int)+4)=((6*(R.length+1)+4:Nat):Int):=au (n:=6*(R.length+1)+4) (by omega)
  have e2:ak (((6*(R.length+1):Nat):Int)-2)=((6*(R.length+1)-2:Nat):Int):=by rw [cA (by omega) (by omega)];omega
  have e1:ak (((R.length+1:Nat):Int)-1)=((R.length:Nat):Int):=by rw [cA (by omega) (by omega)];omega
  have n1:=t5 (k:=k) hg.2.1;have n2:=t5 (k:=k) hg.2.2.1
  have i0:=rY (k:=k) (by omega) hg.1;have i3:=rY (k:=k) (by omega) hg.2.2.2
  have go: ∀p q:Nat,cP.l0 k K ((il x++([((iv g.1:Nat):Int),(p:Int),(q:Int),((iv g.2.2.2:Nat):Int)]:List Int))++[(s.2.2.2.2.1:Int),(s.2.2.2.2.2:Int)]) ((R.length:Nat):Int)=
   some (il (x++(l6 (iv g.1,p,q,iv g.2.2.2,s.2.2.2.2.1,s.2.2.2.2.2)++lU (U R (f4 s) false).1 (U R (f4 s) false).2))):=fun p q=>by
   have:=nx (x++l6 (iv g.1,p,q,iv g.2.2.2,s.2.2.2.2.1,s.2.2.2.2.2)) (by rw [List.length_append];show x.length+6+_≤_;rw [List.length_cons] at hx;omega)
   rw [show (R.length==8)=false by rw [beq_eq_false_iff_ne];omega] at this
   rw [←List.append_assoc,←this,gF]
   simp [il,l6]
  rw [List.length_cons] at hx
  have c4:(([(g.1:Int),(g.2.1:Int),(g.2.2.1:Int),(g.2.2.2:Int)].length:Nat):Int)=4:=rfl
  have c2:(([(s.2.2.2.2.1:Int),(s.2.2.2.2.2:Int)]:List Int).length)=2:=rfl
  have ca: ∀p q:Int,decide ((il x).length+([((iv g.1:Nat):Int),p,q,((iv g.2.2.2:Nat):Int)]:List Int).length≤1000000000)=true:=fun p q=>by rw [decide_eq_true_eq,ag];show x.length+4≤_;omega
  have cb: ∀p q:Int,decide ((il x++([((iv g.1:Nat):Int),p,q,((iv g.2.2.2:Nat):Int)]:List Int)).length+2≤1000000000)=true:=fun p q=>by rw [decide_eq_true_eq,List.length_append,ag];show x.length+4+2≤_;omega
  have d0:decide (((R.length+1:Nat):Int)>0)=true:=by rw [decide_eq_true_eq];omega
  have r0:rd [(g.1:Int),(g.2.1:Int),(g.2.2.1:Int),(g.2.2.2:Int)] 0=(g.1:Int):=rfl
  have r1:rd [(g.1:Int),(g.2.1:Int),(g.2.2.1:Int),(g.2.2.2:Int)] 1=(g.2.1:Int):=rfl
  have r2:rd [(g.1:Int),(g.2.1:Int),(g.2.2.1:Int),(g.2.2.2:Int)] 2=(g.2.2.1:Int):=rfl
  have r3:rd [(g.1:Int),(g.2.1:Int),(g.2.2.1:Int),(g.2.2.2:Int)] 3=(g.2.2.2:Int):=rfl
  rw [cP.l0,if_pos (by rw [decide_eq_true_eq];omega)]
  unfold gd
  rw [e0,e4,e2,e1,Int.toNat_natCast,Int.toNat_natCast,Int.toNat_natCast,sl,sl',lK,c4,c2,r0,r1,r2,r3,d0,if_pos (by rw [decide_eq_true_eq];omega),if_pos (by rw [decide_eq_true_eq];omega),if_pos (by rw [decide_eq_true_eq];omega),if_pos (by rfl),Option.bind_some,n1,Option.bind_some,if_pos (by rfl),Option.bind_some,n2,Option.bind_some,if_pos rfl]
  have g1:decide (0≤((6*(R.length+1)-2:Nat):Int))=true:=by rw [decide_eq_true_eq];omega
  have g2:decide (((6*(R.length+1)-2:Nat):Int)≤((6*(R.length+1):Nat):Int))=true:=by rw [decide_eq_true_eq];omega
  have g3:decide (((6*(R.length+1):Nat):Int)≤52)=true:=by rw [decide_eq_true_eq];omega
  by_cases h7:R.length+1=8
  ·rw [if_neg (by rw [decide_eq_true_eq];omega),if_pos (by rfl),Option.bind_some,i0,Option.bind_some,if_pos (by rfl),Option.bind_some,i3,Option.bind_some,if_pos (ca _ _),if_pos rfl,if_pos g1,if_pos g2,if_pos g3,if_pos (cb _ _),go,show ((R.length+1==8):Bool)=true by rw [h7];rfl]
   rw [←oY];rfl
  ·rw [if_pos (by rw [decide_eq_true_eq];omega),if_pos (by rfl),Option.bind_some,i0,Option.bind_some,if_pos (by rfl),Option.bind_some,i3,Option.bind_some,if_pos (ca _ _),if_pos rfl,if_pos g1,if_pos g2,if_pos g3,if_pos (cb _ _),go,show ((R.length+1==8):Bool)=false by rw [beq_eq_false_iff_ne];exact h7]
   rw [←oY];rfl
theorem Ha: ∀(n:Nat) (K:List Nat),K.length=6*n+4→(∀x∈K,x<65536)→ ∃L f,L.length=n∧K=lU L f∧(∀s∈L,S6 s)∧Sm f
 | 0,K,h,hK=>by
  match K,h with
  | [a,b,c,d],_=>exact ⟨[],(a,b,c,d),rfl,rfl,fun s hs=>(by cases hs),hK a (by simp),hK b (by simp),hK c (by simp),hK d (by simp)⟩
 | n+1,K,h,hK=>by
  match K,h with
  | a::b::c::d::e::f::r,h=>
   obtain ⟨L,g,h1,h2,h3,h4⟩:=Ha n r (by simp at h;omega) (fun x hx=>hK x (by simp [hx]))
   refine ⟨(a,b,c,d,e,f)::L,g,by rw [List.length_cons,h1],by rw [oY,←h2];rfl,fun s hs=> ?_,h4⟩
   rcases List.mem_cons.1 hs with rfl | hs
   ·exact ⟨hK a (by simp),hK b (by simp),hK c (by simp),hK d (by simp),hK e (by simp),hK f (by simp)⟩
   ·exact h3 s hs
theorem Lo (s:N6) (y:N4):Sm (bs s y):=⟨iW _ _,tg _ _,tg _ _,iW _ _⟩
theorem Hb: ∀(R:List N6) {y:N4},Sm y→Sm (bS R y)
 | [],_,h=>h
 | s::R,y,_=>Hb R (Lo s y)
theorem Hc (R:List N6): ∀(y:N4) (T:List Nat) (k:Nat),(∀s∈R,S6 s)→Sm y→(pf R++T).length=52→R.length+30<k→
 cW.l0 k (il (pf R++T)) (il (l4 y)) ((R.length:Int)-1)=some (il (l4 (bS R y))):=by
 induction R with
 | nil=>
  intro y T k _ _ _ hk
  obtain ⟨k,rfl⟩: ∃j,k=j+1:=⟨k-1,by simp at hk;omega⟩
  rfl
 | cons s R ih=>
  rintro ⟨y0,y1,y2,y3⟩ T k hR ⟨h0,h1,h2,h3⟩ hl hk
  obtain ⟨k,rfl⟩: ∃j,k=j+1:=⟨k-1,by omega⟩
  rw [List.length_cons] at hk ⊢
  have hs:=hR s List.mem_cons_self
  have eK:pf R++(l6 s++T)=pf (s::R)++T:=by rw [se,List.append_assoc]
  have nx:=ih (bs s (y0,y1,y2,y3)) (l6 s++T) k (fun s hs=>hR s (List.mem_cons_of_mem _ hs)) (Lo _ _) (by rw [eK];exact hl) (by omega)
  rw [eK] at nx
  have hRl:6*R.length≤46:=by rw [←eK,List.length_append,sM,List.length_append] at hl;have:(l6 s).length=6:=rfl;omega
  have dK:(il (pf (s::R)++T)).drop (6*R.length)=il (l6 s++T):=by
   rw [←eK,show (il (pf R++(l6 s++T))).drop (6*R.length)=il ((pf R++(l6 s++T)).drop (6*R.length)) by simp [il,List.map_drop],←sM R,List.drop_left]
  generalize hK:il (pf (s::R)++T)=K at nx dK ⊢
  have lK:(K.length:Int)=52:=by rw [←hK,ag,hl];rfl
  obtain ⟨s0,s1,s2,s3,s4,s5⟩:=s
  obtain ⟨g0,g1,g2,g3,g4,g5⟩:=hs
  simp only at h0 h1 h2 h3 g0 g1 g2 g3 g4 g5
  rw [show l6 (s0,s1,s2,s3,s4,s5)=[s0,s1,s2,s3,s4,s5] from rfl,G7] at dK
  have e0:((R.length+1:Nat):Int)-1=(R.length:Int):=by omega
  have e6:ak (6*(R.length:Int))=((6*R.length:Nat):Int):=au (n:=6*R.length) (by omega)
  have e1:ak ((R.length:Int)-1)=(R.length:Int)-1:=cA (by omega) (by omega)
  show cW.l0 (k+1) K [(y0:Int),(y1:Int),(y2:Int),(y3:Int)] _=_
  generalize hS:il T=S at dK
  have ll:(((s0:Int)::s1::s2::s3::s4::s5::S).length:Int)=((S.length+6:Nat):Int):=rfl
  have c: ∀j:Int,j<6→decide (j<((S.length+6:Nat):Int))=true:=fun j hj=>by rw [decide_eq_true_eq];omega
  have r0:rd [(y0:Int),(y1:Int),(y2:Int),(y3:Int)] 0=y0:=rfl
  have r1:rd [(y0:Int),(y1:Int),(y2:Int),(y3:Int)] 1=y1:=rfl
  have r2:rd [(y0:Int),(y1:Int),(y2:Int),(y3:Int)] 2=y2:=rfl
  have r3:rd [(y0:Int),(y1:Int),(y2:Int),(y3:Int)] 3=y3:=rfl
  have q0:rd ((s0:Int)::s1::s2::s3::s4::s5::S) 0=s0:=rfl
  have q1:rd ((s0:Int)::s1::s2::s3::s4::s5::S) 1=s1:=rfl
  have q2:rd ((s0:Int)::s1::s2::s3::s4::s5::S) 2=s2:=rfl
  have q3:rd ((s0:Int)::s1::s2::s3::s4::s5::S) 3=s3:=rfl
  rw [e0,cW.l0,if_pos (by rw [decide_eq_true_eq];omega)]
  unfold gd
  rw [e6,Int.toNat_natCast,dK,lK,ll,e1,r0,r1,r2,r3,q0,q1,q2,q3,if_pos (by rw [decide_eq_true_eq];omega),if_pos (by rw [decide_eq_true_eq];omega),
   G9 h0 h2 h1 h3 g4 g5 (T:=(s0:Int)::s1::s2::s3::s4::s5::S) (by simp) rfl rfl,Option.bind_some,if_pos (c 0 (by decide)),sa (by omega) g0,Option.bind_some,zw h0 (iW _ _),kM (En h0 (iW _ _)) (qi _),Option.bind_some,
   if_pos (c 1 (by decide)),zw h2 (mf _ _),rZ (En h2 (mf _ _)) g1,Option.bind_some,if_pos (c 2 (by decide)),zw h1 (iW _ _),rZ (En h1 (iW _ _)) g2,Option.bind_some,
   if_pos (c 3 (by decide)),sa (by omega) g3,Option.bind_some,zw h3 (mf _ _),kM (En h3 (mf _ _)) (qi _),Option.bind_some]
  exact nx
theorem Hd {L:List N6} {f:N4} (hL: ∀s∈L,S6 s) (hf:Sm f) (h8:L.length=8) {x:N4} (hx:Sm x) {k:Nat} (hk:100≤k):cW.f k (il (l4 x)) (il (lU L f))=some (il (l4 (bS L.reverse (NX f x)))):=by
 have nx:=Hc L.reverse (NX f x) (l4 f) k (fun s hs=>hL s (by simpa using hs)) ⟨iW _ _,tg _ _,tg _ _,iW _ _⟩ (by rw [List.length_append,sM,List.length_reverse,h8];rfl) (by rw [List.length_reverse,h8];omega)
 have eP:pf L.reverse++l4 f=lU L f:=by unfold pf lU;rw [List.reverse_reverse]
 rw [eP,List.length_reverse,h8] at nx
 have dK:(il (lU L f)).drop 48=il (l4 f):=by
  rw [←eP,show (il (pf L.reverse++l4 f)).drop 48=il ((pf L.reverse++l4 f).drop 48) by simp [il,List.map_drop],show 48=(pf L.reverse).length by rw [sM,List.length_reverse,h8],List.drop_left]
 have lK:((il (lU L f)).length:Int)=52:=by rw [ag,sc,h8];rfl
 obtain ⟨x0,x1,x2,x3⟩:=x
 obtain ⟨f0,f1,f2,f3⟩:=f
 obtain ⟨h0,h1,h2,h3⟩:=hx
 obtain ⟨g0,g1,g2,g3⟩:=hf
 simp only at h0 h1 h2 h3 g0 g1 g2 g3
 generalize il (lU L (f0,f1,f2,f3))=K at nx dK lK ⊢
 show cW.f k [(x0:Int),(x1:Int),(x2:Int),(x3:Int)] K=_
 have dK:K.drop 48=[(f0:Int),(f1:Int),(f2:Int),(f3:Int)]:=dK
 have ll:(([(f0:Int),(f1:Int),(f2:Int),(f3:Int)].length:Nat):Int)=4:=rfl
 have r0:rd [(x0:Int),(x1:Int),(x2:Int),(x3:Int)] 0=x0:=rfl
 have r1:rd [(x0:Int),(x1:Int),(x2:Int),(x3:Int)] 1=x1:=rfl
 have r2:rd [(x0:Int),(x1:Int),(x2:Int),(x3:Int)] 2=x2:=rfl
 have r3:rd [(x0:Int),(x1:Int),(x2:Int),(x3:Int)] 3=x3:=rfl
 have q0:rd [(f0:Int),(f1:Int),(f2:Int),(f3:Int)] 0=f0:=rfl
 have q1:rd [(f0:Int),(f1:Int),(f2:Int),(f3:Int)] 1=f1:=rfl
 have q2:rd [(f0:Int),(f1:Int),(f2:Int),(f3:Int)] 2=f2:=rfl
 have q3:rd [(f0:Int),(f1:Int),(f2:Int),(f3:Int)] 3=f3:=rfl
 unfold cW.f gd
 rw [dK,lK,ll,r0,r1,r2,r3,q0,q1,q2,q3,if_pos (by decide),if_pos (by decide),sa (by omega) g0,Option.bind_some,kM h0 (qi _),Option.bind_some,if_pos (by decide),rZ h2 g2,Option.bind_some,if_pos (by decide),rZ h1 g1,Option.bind_some,if_pos (by decide),sa (by omega) g3,Option.bind_some,kM h3 (qi _),Option.bind_some]
 exact nx
theorem Q2 {x:List Int} (h:x.length=8) {k:Nat} (hk:20≤k):fy.f k x=some [gi x 0,gi x 2,gi x 4,gi x 6]:=by
 obtain ⟨j,rfl⟩: ∃j,k=j+20:=⟨k-20,by omega⟩
 match x,h with
 | [x0,x1,x2,x3,x4,x5,x6,x7],_=>exact Eq.trans (by kernel_rfl) (Eq.refl (some [gi _ 0,gi _ 2,gi _ 4,gi _ 6]))
def rj (b:List Nat):N4:=(b.getD 0 0*256+b.getD 1 0,b.getD 2 0*256+b.getD 3 0,b.getD 4 0*256+b.getD 5 0,b.getD 6 0*256+b.getD 7 0)
theorem xk {b:List Nat} (hb: ∀x∈b,x<256):Sm (rj b):=by
 have g:=dN hb
 have:=g 0;have:=g 1;have:=g 2;have:=g 3;have:=g 4;have:=g 5;have:=g 6;have:=g 7
 unfold Sm rj;simp only;omega
theorem th {b:List Nat} (hb: ∀x∈b,x<256) (i:Nat) (hi:i<1000):gi (il b) (i:Int)=((b.getD i 0*256+b.getD (i+1) 0:Nat):Int):=by
 unfold gi
 have:ak ((i:Int)+1)=((i+1:Nat):Int):=au (n:=i+1) (by omega)
 rw [this,bf,bf]
 exact G3 (dN hb _) (dN hb _)
def Ea (v:N4):List Nat:=[v.1/256,v.1%256,v.2.1/256,v.2.1%256,v.2.2.1/256,v.2.2.1%256,v.2.2.2/256,v.2.2.2%256]
theorem n9 {x:Nat} (h:x<65536):([U8 (shr (x:Int) 8),U8 (x:Int)]:List Int)=[((x/256:Nat):Int),((x%256:Nat):Int)]:=by
 rw [gW,iR,iR,Nat.shiftRight_eq_div_pow]
 congr 2;omega
theorem Jy {v:N4} (h:Sm v): ∀x∈Ea v,x<256:=by
 obtain ⟨a,b,c,d⟩:=v
 obtain ⟨h0,h1,h2,h3⟩:=h
 intro x hx
 simp only [Ea,List.mem_cons,List.not_mem_nil,or_false] at hx h0 h1 h2 h3
 rcases hx with rfl | rfl | rfl | rfl | rfl | rfl | rfl | rfl<;>omega
theorem CA {k:Nat} {v:N4} (hk:10≤k) (h:Sm v):bO.l0 k (List.replicate 0 (0:Int)) (il (l4 v)) (((il (l4 v)).length:Nat):Int) 0=some (il (Ea v),0):=by
 obtain ⟨a,b,c,d⟩:=v
 obtain ⟨h0,h1,h2,h3⟩:=h
 obtain ⟨k,rfl⟩: ∃j,k=j+10:=⟨k-10,by omega⟩
 have e:bO.l0 (k+10) (List.replicate 0 (0:Int)) [(a:Int),(b:Int),(c:Int),(d:Int)] 4 0=some ([U8 (shr (a:Int) 8),U8 (a:Int)]++[U8 (shr (b:Int) 8),U8 (b:Int)]++[U8 (shr (c:Int) 8),U8 (c:Int)]++[U8 (shr (d:Int) 8),U8 (d:Int)],0):=by kernel_rfl
 refine Eq.trans e ?_
 rw [n9 h0,n9 h1,n9 h2,n9 h3];rfl
theorem zd {k:Nat} {v:N4} (hk:10≤k) (h:Sm v):aA.l1 k (il (l4 v)) [] 0=some (il (Ea v),0):=by
 obtain ⟨a,b,c,d⟩:=v
 obtain ⟨h0,h1,h2,h3⟩:=h
 obtain ⟨k,rfl⟩: ∃j,k=j+10:=⟨k-10,by omega⟩
 have e:aA.l1 (k+10) [(a:Int),(b:Int),(c:Int),(d:Int)] [] 0=some ([]++[U8 (shr (a:Int) 8),U8 (a:Int)]++[U8 (shr (b:Int) 8),U8 (b:Int)]++[U8 (shr (c:Int) 8),U8 (c:Int)]++[U8 (shr (d:Int) 8),U8 (d:Int)],0):=by kernel_rfl
 refine Eq.trans e ?_
 rw [n9 h0,n9 h1,n9 h2,n9 h3];rfl
theorem ze {L:List N6} {f:N4} (hL: ∀s∈L,S6 s) (hf:Sm f) (h8:L.length=8) {x:N4} (hx:Sm x) {k:Nat} (hk:100≤k):fo.f k (il (l4 x)) (il (lU L f))=some (il (l4 (tS L f x))):=by
 have t:=G8 f hf L hL x hx k (by omega)
 have hn:L≠[]:=fun e=>by rw [e] at h8;cases h8
 rw [if_neg hn,if_neg hn] at t
 exact t
theorem Nf {L:List N6} {f:N4} (hL: ∀s∈L,S6 s) (hf:Sm f) (h8:L.length=8) {L':List N6} {f':N4} (hL': ∀s∈L',S6 s) (hf':Sm f') (h8':L'.length=8) {b:List Nat} (hb: ∀x∈b,x<256) (hl:b.length=8) (dir:Bool) {k:Nat} (hk:100≤k):
 bO.f k (il (lU L f),il (lU L' f')) (il b) dir=some (il (Ea (if dir=true then tS L' f' (rj b) else tS L f (rj b))),0):=by
 have hx:=xk hb
 have ld:fy.f k (il b)=some (il (l4 (rj b))):=by
  rw [Q2 (by rw [ag,hl]) (by omega)]
  have g0:=th hb 0 (by decide);have g2:=th hb 2 (by decide);have g4:=th hb 4 (by decide);have g6:=th hb 6 (by decide)
  simp only [Int.cast_ofNat_Int,Nat.zero_add,Nat.reduceAdd] at g0 g2 g4 g6
  rw [g0,g2,g4,g6];rfl
 unfold bO.f
 rw [if_neg (by rw [ag,hl];decide),ld]
 cases dir with
 | false=>
  rw [if_neg (by decide),Option.bind_some,ze hL hf h8 hx hk,Option.bind_some]
  exact CA (by omega) (zc _ _ _)
 | true=>
  rw [if_pos rfl,Option.bind_some,ze hL' hf' h8' hx hk,Option.bind_some]
  exact CA (by omega) (zc _ _ _)
theorem Ty (k:Nat) (K:List Int) (dir:Bool) (x0 x1 x2 x3 x4 x5 x6 x7:Int):aA.l0 (k+5) K [x0,x1,x2,x3,x4,x5,x6,x7] dir (List.replicate 4 0) 0=
 if dir=true then (cW.f k [gi [x0,x1,x2,x3,x4,x5,x6,x7] 0,gi [x0,x1,x2,x3,x4,x5,x6,x7] 2,gi [x0,x1,x2,x3,x4,x5,x6,x7] 4,gi [x0,x1,x2,x3,x4,x5,x6,x7] 6] K).bind fun t=>aA.l1 k t [] 0
 else (cD.f k [gi [x0,x1,x2,x3,x4,x5,x6,x7] 0,gi [x0,x1,x2,x3,x4,x5,x6,x7] 2,gi [x0,x1,x2,x3,x4,x5,x6,x7] 4,gi [x0,x1,x2,x3,x4,x5,x6,x7] 6] K).bind fun t=>aA.l1 k t [] 0:=by
 cases dir<;>kernel_rfl
theorem SA {b:List Nat} (h:b.length=8): ∃x0 x1 x2 x3 x4 x5 x6 x7,b=[x0,x1,x2,x3,x4,x5,x6,x7]:=by
 match b,h with
 | [x0,x1,x2,x3,x4,x5,x6,x7],_=>exact ⟨_,_,_,_,_,_,_,_,rfl⟩
theorem Jz {L:List N6} {f:N4} (hL: ∀s∈L,S6 s) (hf:Sm f) (h8:L.length=8) {b:List Nat} (hb: ∀x∈b,x<256) (hl:b.length=8) (dir:Bool) {k:Nat} (hk:120≤k):
 aA.f k (il (lU L f)) (il b) dir=some (il (Ea (if dir=true then bS L.reverse (NX f (rj b)) else tS L f (rj b))),0):=by
 have hx:=xk hb
 obtain ⟨k,rfl⟩: ∃j,k=j+5:=⟨k-5,by omega⟩
 have e: ∀K:List Int,aA.l0 (k+5) K (il b) dir (List.replicate 4 0) 0=if dir=true then (cW.f k [gi (il b) 0,gi (il b) 2,gi (il b) 4,gi (il b) 6] K).bind fun t=>aA.l1 k t [] 0 else (cD.f k [gi (il b) 0,gi (il b) 2,gi (il b) 4,gi (il b) 6] K).bind fun t=>aA.l1 k t [] 0:=by
  intro K
  obtain ⟨x0,x1,x2,x3,x4,x5,x6,x7,rfl⟩:=SA hl
  exact Ty k K dir _ _ _ _ _ _ _ _
 have g0:=th hb 0 (by decide);have g2:=th hb 2 (by decide);have g4:=th hb 4 (by decide);have g6:=th hb 6 (by decide)
 simp only [Int.cast_ofNat_Int,Nat.zero_add,Nat.reduceAdd] at g0 g2 g4 g6
 have eb:[gi (il b) 0,gi (il b) 2,gi (il b) 4,gi (il b) 6]=il (l4 (rj b)):=by rw [g0,g2,g4,g6];rfl
 unfold aA.f
 rw [if_neg (by rw [ag,hl];decide),e,eb]
 cases dir with
 | false=>
  have t0:cD.l0 k (il (lU L f)) (il (l4 (rj b))) 0=_:=D8 f hf L hL (rj b) hx k 0 (by omega) (by omega)
  have t1:cD.f k (il (l4 (rj b))) (il (lU L f))=some (il (l4 (tS L f (rj b)))):=t0
  rw [if_neg Bool.false_ne_true,t1,Option.bind_some,if_neg Bool.false_ne_true]
  exact zd (by omega) (zc _ _ _)
 | true=>
  rw [if_pos rfl,Hd hL hf h8 hx (by omega),Option.bind_some]
  exact zd (by omega) (Hb _ ⟨iW _ _,tg _ _,tg _ _,iW _ _⟩)
theorem Q3 {m:List Nat} (hm: ∀x∈m,x<256): ∀x∈(kA m 7).take 52,x<65536:=by
 intro x hx
 have h1: ∀n,∀x∈kA m n,x<65536:=by
  intro n
  induction n with
  | zero=>intro x hx;cases hx
  | succ n ih=>
   intro x hx
   rcases List.mem_append.1 hx with hx | hx
   ·exact ih x hx
   ·obtain ⟨j,hj,rfl⟩:=List.mem_map.1 hx
    have:=dN (kE hm (25*(n:Int))) (2*j)
    have:=dN (kE hm (25*(n:Int))) (2*j+1)
    omega
 exact h1 7 x (List.mem_of_mem_take hx)
theorem He {m:List Nat} (h:m.length=16) (hm: ∀x∈m,x<256): ∃S R,(∀k,200≤k→ki.f k (il m)=some (some S,0))∧(∀k,200≤k→gz.f k (il m)=some (some R,0))∧
 ∀(dir:Bool) (n:List Nat),n.length=8→(∀x∈n,x<256)→ ∃o:List Nat,o.length=8∧(∀x∈o,x<256)∧ ∀k,200≤k→bO.f k S (il n) dir=some (il o,0)∧aA.f k R (il n) dir=some (il o,0):=by
 obtain ⟨L,f,h8,hK,hL,hf⟩:=Ha 8 ((kA m 7).take 52) (by rw [List.length_take,jQ];rfl) (Q3 hm)
 have hR: ∀s∈L.reverse,S6 s:=fun s hs=>hL s (by simpa using hs)
 have eP:pf L.reverse++l4 f++[]=lU L f:=by unfold pf lU;rw [List.reverse_reverse,List.append_nil]
 refine ⟨(il (lU L f),il (lU (U L.reverse f true).1 (U L.reverse f true).2)),il (lU L f),fun k hk=> ?_,fun k hk=> ?_,fun dir n hn hnb=> ?_⟩
 ·have u:=D9 L.reverse f [] [] k hR hf (by rw [List.length_reverse,h8];exact Nat.le_refl _) (by rw [List.length_reverse,h8];decide) (by rw [eP,sc,h8]) (by rw [List.length_reverse,h8];omega)
  rw [eP,List.length_reverse,h8] at u
  unfold ki.f
  rw [G6 hm h (by omega),Option.bind_some,if_neg (by simp),hK]
  unfold cP.f
  have u0:cP.l0 k (il (lU L f)) [] 8=_:=u
  rw [u0,Option.bind_some]
  rfl
 ·unfold gz.f
  rw [D7 hm h (by omega),Option.bind_some,if_neg (by simp),hK]
 ·have hU:=Q1 L.reverse hR f true
  have hUl:=Ln L.reverse f true
  have hx:=xk hnb
  have et:tS (U L.reverse f true).1 (U L.reverse f true).2 (rj n)=bS L.reverse (NX f (rj n)):=by
   cases hr:L.reverse with
   | nil=>have:=congrArg List.length hr;rw [List.length_reverse,h8] at this;cases this
   | cons s R=>exact Q0 s R (by rw [←hr];exact hR) f (rj n) hf
  have b1:=fun (k:Nat) (hk:200≤k)=>Nf hL hf h8 hU.1 hU.2 (by rw [hUl,List.length_reverse,h8]) hnb hn dir (k:=k) (by omega)
  have b2:=fun (k:Nat) (hk:200≤k)=>Jz hL hf h8 hnb hn dir (k:=k) (by omega)
  rw [et] at b1
  refine ⟨_,rfl,Jy ?_,fun k hk=>⟨b1 k hk,b2 k hk⟩⟩
  split
  ·exact Hb _ ⟨iW _ _,tg _ _,tg _ _,iW _ _⟩
  ·exact zc _ _ _
end Go.Scr.S.Id
namespace Go.Scr.S
def xt (m a:Nat):Nat:=(a <<< 1) ^^^ (if a.testBit 7 then m else 0)
def gm (m:Nat):Nat→Nat→Nat→Nat
 | 0,_,_=>0
 | n+1,a,b=>(if b.testBit 0 then a else 0) ^^^ gm m n (xt m a) (b >>> 1)
theorem Ng (a b c d:Nat):(a ^^^ b) ^^^ (c ^^^ d)=(a ^^^ c) ^^^ (b ^^^ d):=by
 rw [Nat.xor_assoc,←Nat.xor_assoc b c d,Nat.xor_comm b c,Nat.xor_assoc c b d,←Nat.xor_assoc]
theorem Hf (p q:Bool) (a b:Nat):(if (p ^^ q) then a else 0)=(if p then a else 0) ^^^ (if q then a else 0):=by cases p<;>cases q<;>simp
theorem Hg (p:Bool) (a b:Nat):(if p then a ^^^ b else 0)=(if p then a else 0) ^^^ (if p then b else 0):=by cases p<;>simp
theorem Hh (m a b:Nat):xt m (a ^^^ b)=xt m a ^^^ xt m b:=by
 unfold xt;rw [Nat.shiftLeft_xor_distrib,Nat.testBit_xor,Hf _ _ _ 0,Ng]
theorem xm (m:Nat):xt m 0=0:=by simp [xt]
theorem JA (m n a a' b:Nat):gm m n (a ^^^ a') b=gm m n a b ^^^ gm m n a' b:=by
 induction n generalizing a a' b with
 | zero=>simp [gm]
 | succ n ih=>simp only [gm];rw [Hh,ih,Hg,Ng]
theorem CB (m n b:Nat):gm m n 0 b=0:=by
 induction n generalizing b with
 | zero=>rfl
 | succ n ih=>simp [gm,xm,ih]
theorem JB (m n a:Nat):gm m n a 0=0:=by
 induction n generalizing a with
 | zero=>rfl
 | succ n ih=>simp [gm,ih]
theorem Q4 (m n a b:Nat):gm m n (xt m a) b=xt m (gm m n a b):=by
 induction n generalizing a b with
 | zero=>simp [gm,xm]
 | succ n ih=>
  simp only [gm];rw [Hh,ih]
  cases b.testBit 0<;>simp [xm]
theorem JC (m n:Nat) (p:Bool) (x b:Nat):gm m n (if p then x else 0) b=if p then gm m n x b else 0:=by cases p<;>simp [CB]
theorem CC (m n n' x a b:Nat):gm m n (gm m n' x b) a=gm m n' (gm m n x a) b:=by
 induction n generalizing x a with
 | zero=>simp [gm,CB]
 | succ n ih=>
  show _ ^^^ _=gm m n' (_ ^^^ _) b
  rw [JA,JC,←Q4,ih]
theorem xn (m:Nat) {a:Nat} (h:a<256):gm m 8 1 a=a:=by
 have hx: ∀i,i<7→xt m (2^i)=2^(i+1):=by
  intro i hi
  have:(2^i).testBit 7=false:=by rw [Nat.testBit_two_pow];simp;omega
  simp only [xt,this];simp [Nat.shiftLeft_eq,Nat.pow_succ]
 have h0:=hx 0 (by decide);have h1:=hx 1 (by decide);have h2:=hx 2 (by decide);have h3:=hx 3 (by decide)
 have h4:=hx 4 (by decide);have h5:=hx 5 (by decide);have h6:=hx 6 (by decide)
 simp only [Nat.reducePow,Nat.reduceAdd] at h0 h1 h2 h3 h4 h5 h6
 simp only [gm,h0,h1,h2,h3,h4,h5,h6]
 have: ∀a,a<256→((if a.testBit 0 then 1 else 0) ^^^ ((if (a >>> 1).testBit 0 then 2 else 0) ^^^ ((if (a >>> 1 >>> 1).testBit 0 then 4 else 0) ^^^ ((if (a >>> 1 >>> 1 >>> 1).testBit 0 then 8 else 0) ^^^ ((if (a >>> 1 >>> 1 >>> 1 >>> 1).testBit 0 then 16 else 0) ^^^ ((if (a >>> 1 >>> 1 >>> 1 >>> 1 >>> 1).testBit 0 then 32 else 0) ^^^ ((if (a >>> 1 >>> 1 >>> 1 >>> 1 >>> 1 >>> 1).testBit 0 then 64 else 0) ^^^ ((if (a >>> 1 >>> 1 >>> 1 >>> 1 >>> 1 >>> 1 >>> 1).testBit 0 then 128 else 0) ^^^ 0))))))))=a:=by decide+kernel
 exact this a h
def tB (m:Nat):Prop:=256≤m∧m<512
theorem Hi {m a:Nat} (hm:tB m) (ha:a<256):xt m a<256:=by
 obtain ⟨h0,h1⟩:=hm
 have hm8:m.testBit 8=true:=by rw [Nat.testBit_eq_decide_div_mod_eq];simp;omega
 refine Nat.lt_pow_two_of_testBit (n:=8) _ fun i hi=> ?_
 unfold xt;rw [Nat.testBit_xor,Nat.testBit_shiftLeft]
 have hi1:decide (i≥1)=true:=by simp;omega
 rw [hi1,Bool.true_and]
 rcases Nat.eq_or_lt_of_le hi with h | h
 ·subst h;cases hb:a.testBit 7<;>simp [hb,hm8]
 ·have e1:a.testBit (i-1)=false:=Nat.testBit_lt_two_pow (Nat.lt_of_lt_of_le (by omega:a<2^8) (Nat.pow_le_pow_right (by decide) (by omega)))
  have e2:m.testBit i=false:=Nat.testBit_lt_two_pow (Nat.lt_of_lt_of_le (by omega:m<2^9) (Nat.pow_le_pow_right (by decide) (by omega)))
  rw [e1];split<;>simp [e2]
theorem Q5 {m:Nat} (hm:tB m) (n:Nat) {a:Nat} (ha:a<256) (b:Nat):gm m n a b<256:=by
 induction n generalizing a b with
 | zero=>simp [gm]
 | succ n ih=>exact Nat.xor_lt_two_pow (n:=8) (by split<;>omega) (ih (Hi hm ha) _)
def mu (m a b:Nat):Nat:=gm m 8 a b
theorem qP {m a:Nat} (hm:tB m) (ha:a<256) (b:Nat):mu m a b<256:=Q5 hm 8 ha b
theorem xq (m:Nat) {a b:Nat} (ha:a<256) (hb:b<256):mu m a b=mu m b a:=by
 have e1:=xn m ha;have e2:=xn m hb
 show gm m 8 a b=gm m 8 b a
 calc gm m 8 a b=gm m 8 (gm m 8 1 a) b:=by rw [e1]
  _=gm m 8 (gm m 8 1 b) a:=CC m 8 8 1 b a
  _=gm m 8 b a:=by rw [e2]
theorem uV {m a b c:Nat} (hm:tB m) (ha:a<256) (hb:b<256) (hc:c<256):mu m (mu m a b) c=mu m a (mu m b c):=by
 rw [xq m ha (qP hm hb c),xq m ha hb]
 exact CC m 8 8 b c a
theorem Ag (m:Nat) {a:Nat} (ha:a<256):mu m a 1=a:=by rw [xq m ha (by decide)];exact xn m ha
theorem xu (m:Nat) {a:Nat} (ha:a<256):mu m 1 a=a:=xn m ha
def pw (m a:Nat):Nat→Nat
 | 0=>1
 | n+1=>mu m (pw m a n) a
theorem qj {m a:Nat} (hm:tB m) (ha:a<256) (n:Nat):pw m a n<256:=by cases n with | zero=>simp [pw] | succ n=>exact qP hm (by have:=qj hm ha n;omega) a
theorem Nh {m a:Nat} (hm:tB m) (ha:a<256) (i j:Nat):pw m a (i+j)=mu m (pw m a i) (pw m a j):=by
 induction j with
 | zero=>exact (Ag m (qj hm ha i)).symm
 | succ j ih=>
  show mu m (pw m a (i+j)) a=mu m (pw m a i) (mu m (pw m a j) a)
  rw [ih,uV hm (qj hm ha i) (qj hm ha j) ha]
theorem Ni {m a:Nat} (hm:tB m) (ha:a<256) (q:Nat):pw m (mu m a a) q=pw m a (2*q):=by
 induction q with
 | zero=>rfl
 | succ q ih=>
  show mu m (pw m (mu m a a) q) (mu m a a)=mu m (mu m (pw m a (2*q)) a) a
  rw [ih,uV hm (qj hm ha _) ha ha]
theorem Nj (m:Nat) {a:Nat} (ha:a<256):pw m a 1=a:=xu m ha
def Lp (m:Nat):Nat→Nat→Nat→Nat→Nat
 | 0,_,_,s=>s
 | f+1,a,n,s=>if n=0 then s else Lp m f (mu m a a) (n/2) (if n%2=1 then mu m s a else s)
theorem Ah {m:Nat} (hm:tB m) (f:Nat) {a n s:Nat} (ha:a<256) (hs:s<256) (hn:n<2^f):Lp m f a n s=mu m s (pw m a n):=by
 induction f generalizing a n s with
 | zero=>have:n=0:=by simpa using hn
         subst this;exact (Ag m hs).symm
 | succ f ih=>
  simp only [Lp]
  split
  ·next h=>subst h;exact (Ag m hs).symm
  ·rw [ih (qP hm ha a) (by split;exact qP hm hs a;exact hs) (by omega),Ni hm ha]
   split
   ·next h=>rw [uV hm hs ha (qj hm ha _)];congr 1
            have:n=1+2*(n/2):=by omega
            conv=>rhs;rw [this,Nh hm ha,Nj m ha]
   ·next h=>congr 1;congr 1;omega
def iv (m a:Nat):Nat:=((List.range 256).find? fun x=>mu m a x==1).getD 0
theorem Q6 {m:Nat} (hm:tB m) (n:Nat) {k s x y:Nat} (hk:n<k) (hs:s<256) (hx:x<256) (hy:y<2^n) (hn:n≤8):
 dy.l0 k (m:Int) (s:Int) (x:Int) (y:Int)=some ((s ^^^ gm m n x y:Nat):Int):=by
 induction n generalizing k s x y with
 | zero=>
  obtain ⟨k,rfl⟩: ∃j,k=j+1:=⟨k-1,by omega⟩
  have:y=0:=by simpa using hy
  subst this
  simp [dy.l0,gm,iR];omega
 | succ n ih=>
  obtain ⟨k,rfl⟩: ∃j,k=j+1:=⟨k-1,by omega⟩
  have hy9:y<256:=Nat.lt_of_lt_of_le hy (Nat.pow_le_pow_right (by decide) hn)
  by_cases h0:y=0
  ·subst h0;simp [dy.l0,JB,iR];omega
  have hm':=hm;obtain ⟨m0,m1⟩:=hm'
  have hxt:=Hi hm hx
  have e1:shl .i64 (x:Int) 1=((x <<< 1:Nat):Int):=Gr (by rw [Nat.shiftLeft_eq];omega)
  have e2:iT .i64 (y:Int) 1=((y &&& 1:Nat):Int):=Qj (by omega) (by decide)
  have e3:shr (y:Int) 1=((y >>> 1:Nat):Int):=gW y 1
  have hy2:y >>> 1<2^n:=by rw [Nat.shiftRight_eq_div_pow];rw [Nat.pow_succ] at hy;omega
  have e4:((x <<< 1:Nat):Int)≥256↔x.testBit 7=true:=by rw [Nat.testBit_eq_decide_div_mod_eq,Nat.shiftLeft_eq];simp;omega
  have e5:((y &&& 1:Nat):Int)>0↔y.testBit 0=true:=by rw [Nat.testBit_zero,Nat.and_one_is_mod];simp;omega
  have e6:x.testBit 7=true→iT .i64 (aK .i64 ((x <<< 1:Nat):Int) (m:Int)) 255=((xt m x:Nat):Int):=by
   intro h
   have:xt m x=(x <<< 1) ^^^ m:=by simp [xt,h]
   rw [Qi (by rw [Nat.shiftLeft_eq];omega) (by omega),←this]
   refine (Qj (by omega) (by decide)).trans ?_
   rw [Nat.and_two_pow_sub_one_of_lt_two_pow (n:=8) hxt]
  have e7:x.testBit 7=false→iT .i64 ((x <<< 1:Nat):Int) 255=((xt m x:Nat):Int):=by
   intro h
   have:xt m x=(x <<< 1):=by simp [xt,h]
   rw [←this]
   refine (Qj (by omega) (by decide)).trans ?_
   rw [Nat.and_two_pow_sub_one_of_lt_two_pow (n:=8) hxt]
  have e8:aK .i64 (s:Int) (x:Int)=((s ^^^ x:Nat):Int):=Qi (by omega) (by omega)
  have hsx:s ^^^ x<256:=Nat.xor_lt_two_pow (n:=8) hs hx
  have hz:((y:Int)==0)=false:=by simp;omega
  simp only [dy.l0,e1,e2,e3,e8,hz]
  rw [if_neg (by simp)]
  cases hb:y.testBit 0<;>cases hc:x.testBit 7
  ·rw [if_neg (by rw [decide_eq_true_eq,e5,hb];decide),if_neg (by rw [decide_eq_true_eq,e4,hc];decide),e7 hc,ih (by omega) hs hxt hy2 (by omega)];simp [gm,hb]
  ·rw [if_neg (by rw [decide_eq_true_eq,e5,hb];decide),if_pos (by rw [decide_eq_true_eq,e4,hc]),e6 hc]
   show dy.l0 k _ _ _ _=_
   rw [ih (by omega) hs hxt hy2 (by omega)];simp [gm,hb]
  ·rw [if_pos (by rw [decide_eq_true_eq,e5,hb]),if_neg (by rw [decide_eq_true_eq,e4,hc];decide),e7 hc,ih (by omega) hsx hxt hy2 (by omega)];simp only [gm,hb,if_true,Nat.xor_assoc]
  ·rw [if_pos (by rw [decide_eq_true_eq,e5,hb]),if_pos (by rw [decide_eq_true_eq,e4,hc]),e6 hc]
   show dy.l0 k _ _ _ _=_
   rw [ih (by omega) hsx hxt hy2 (by omega)];simp only [gm,hb,if_true,Nat.xor_assoc]
theorem CE {m a b k:Nat} (hm:tB m) (hk:9≤k) (ha:a<256) (hb:b<256):dy.f k (a:Int) (b:Int) (m:Int)=some ((mu m a b:Nat):Int):=by
 (unfold dy.f;(try dsimp only [gd,gb,Option.bind_some]))
 rw [au (by omega),au (by omega)]
 have:=Q6 hm 8 (k:=k) (s:=0) (by omega) (by decide) ha hb (by decide)
 rw [Nat.zero_xor] at this
 exact this
theorem GY {m b:Nat} (hm:tB m) (hb:b<256) (d:Nat) {k s x i:Nat} (hk:d<k) (hs:s<256) (hx:x<256) (hi:i+d=8):
 bJ.l0 k (b:Int) (m:Int) (s:Int) (x:Int) (i:Int)=some ((s ^^^ gm m d x (b >>> i):Nat):Int):=by
 induction d generalizing k s x i with
 | zero=>
  obtain ⟨k,rfl⟩: ∃j,k=j+1:=⟨k-1,by omega⟩
  have:i=8:=by omega
  subst this
  simp [bJ.l0,gm,iR,gd];omega
 | succ d ih=>
  obtain ⟨k,rfl⟩: ∃j,k=j+1:=⟨k-1,by omega⟩
  have hm':=hm;obtain ⟨m0,m1⟩:=hm'
  have hxt:=Hi hm hx
  have e1:shl .i64 (x:Int) 1=((x <<< 1:Nat):Int):=Gr (by rw [Nat.shiftLeft_eq];omega)
  have e0:mM .u8 (b:Int) (i:Int)=((b >>> i:Nat):Int):=by
   show shr (b:Int) (min (i:Int).toNat 8)=_
   rw [gW];congr 2;rw [Int.toNat_natCast];omega
  have hbi:b >>> i<256:=by rw [Nat.shiftRight_eq_div_pow];exact Nat.lt_of_le_of_lt (Nat.div_le_self _ _) hb
  have e2:iT .u8 ((b >>> i:Nat):Int) 1=(((b >>> i) &&& 1:Nat):Int):=RQ hbi (by decide)
  have e4:((x <<< 1:Nat):Int)≥256↔x.testBit 7=true:=by rw [Nat.testBit_eq_decide_div_mod_eq,Nat.shiftLeft_eq];simp;omega
  have e5': ∀y:Nat,((((y &&& 1:Nat):Int)==1)=true)↔y.testBit 0=true:=by intro y;rw [Nat.testBit_zero,Nat.and_one_is_mod];simp;omega
  have e5:=e5' (b >>> i)
  have e6:x.testBit 7=true→aK .i64 ((x <<< 1:Nat):Int) (m:Int)=((xt m x:Nat):Int):=by
   intro h
   have:xt m x=(x <<< 1) ^^^ m:=by simp [xt,h]
   rw [Qi (by rw [Nat.shiftLeft_eq];omega) (by omega),←this]
  have e7:x.testBit 7=false→x <<< 1=xt m x:=by
   intro h
   simp [xt,h]
  have e8:aK .i64 (s:Int) (x:Int)=((s ^^^ x:Nat):Int):=Qi (by omega) (by omega)
  have hsx:s ^^^ x<256:=Nat.xor_lt_two_pow (n:=8) hs hx
  have e9:kX ((i:Int)+1)=((i+1:Nat):Int):=by rw [lR (by omega) (by omega)];simp
  have ea:b >>> (i+1)=b >>> i >>> 1:=by rw [Nat.shiftRight_add]
  simp only [bJ.l0,e1,e0,e2,e8,e9,gd]
  rw [if_pos (by simp;omega),if_pos (by simp)]
  cases hb':(b >>> i).testBit 0<;>cases hc:x.testBit 7
  ·rw [if_neg (by rw [e5,hb'];decide),if_neg (by rw [decide_eq_true_eq,e4,hc];decide),e7 hc,ih (by omega) hs hxt (by omega),ea];simp [gm,hb']
  ·rw [if_neg (by rw [e5,hb'];decide),if_pos (by rw [decide_eq_true_eq,e4,hc]),e6 hc,ih (by omega) hs hxt (by omega),ea];simp [gm,hb']
  ·rw [if_pos (by rw [e5,hb']),if_neg (by rw [decide_eq_true_eq,e4,hc];decide),e7 hc,ih (by omega) hsx hxt (by omega),ea];simp only [gm,hb',if_true,Nat.xor_assoc]
  ·rw [if_pos (by rw [e5,hb']),if_pos (by rw [decide_eq_true_eq,e4,hc]),e6 hc,ih (by omega) hsx hxt (by omega),ea];simp only [gm,hb',if_true,Nat.xor_assoc]
theorem CF {m a b k:Nat} (hm:tB m) (hk:9≤k) (ha:a<256) (hb:b<256):bJ.f k (a:Int) (b:Int) (m:Int)=some ((mu m a b:Nat):Int):=by
 (unfold bJ.f;(try dsimp only [gd,gb,Option.bind_some]))
 rw [au (by omega)]
 have:=GY hm hb 8 (k:=k) (s:=0) (i:=0) (by omega) (by decide) ha (by decide)
 rw [Nat.zero_xor] at this
 exact this
end Go.Scr.S
namespace Go.Scr.S.Tw
def q0:List Nat:=[169,103,179,232,4,253,163,118,154,146,128,120,228,221,209,56,13,198,53,152,24,247,236,108,67,117,55,38,250,19,148,72,242,208,139,48,132,84,223,35,25,91,61,89,243,174,162,130,99,1,131,46,217,81,155,124,166,235,165,190,22,12,227,97,192,140,58,245,115,44,37,11,187,78,137,107,83,106,180,241,225,230,189,69,226,244,182,102,204,149,3,86,212,28,30,215,251,195,142,181,233,207,191,186,234,119,57,175,51,201,98,113,129,121,9,173,36,205,249,216,229,197,185,77,68,8,134,231,161,29,170,237,6,112,178,210,65,123,160,17,49,194,39,144,32,246,96,255,150,92,177,171,158,156,82,27,95,147,10,239,145,133,73,238,45,79,143,59,71,135,109,70,214,62,105,100,42,206,203,47,252,151,5,122,172,127,213,26,75,14,167,90,40,20,63,41,136,60,76,2,184,218,176,23,85,31,138,125,87,199,141,116,183,196,159,114,126,21,34,18,88,7,153,52,110,80,222,104,101,188,219,248,200,168,43,64,220,254,50,164,202,16,33,240,211,93,15,0,111,157,54,66,74,94,193,224]
def q1:List Nat:=[117,243,198,244,219,123,251,200,74,211,230,107,69,125,232,75,214,50,216,253,55,113,241,225,48,15,248,27,135,250,6,63,94,186,174,91,138,0,188,157,109,193,177,14,128,93,210,213,160,132,7,20,181,144,44,163,178,115,76,84,146,116,54,81,56,176,189,90,252,96,98,150,108,66,247,16,124,40,39,140,19,149,156,199,36,70,59,112,202,227,133,203,17,208,147,184,166,131,32,255,159,119,195,204,3,111,8,191,64,231,43,226,121,12,170,130,65,58,234,185,228,154,164,151,126,218,122,23,102,148,161,29,61,240,222,179,11,114,167,28,239,209,83,62,143,51,38,95,236,118,42,73,129,136,238,33,196,26,235,217,197,57,153,205,173,49,139,1,24,35,221,31,78,45,249,72,79,242,101,142,120,92,88,25,141,229,152,87,103,127,5,100,175,99,182,254,245,183,60,165,206,233,104,68,224,77,67,105,41,46,172,21,89,168,10,158,110,71,223,52,53,106,207,220,34,201,192,155,137,212,237,171,18,162,13,82,187,2,47,169,215,97,30,180,80,4,246,194,22,37,134,86,85,9,190,145]
def qq (t:Nat):List Nat:=if t=0 then q0 else q1
theorem Tz (j:Nat):(List.range 256).map (fun x:Nat=>gD.f (j+10) 0 (x:Int))=q0.map (fun v:Nat=>some (v:Int)):=by kernel_rfl
theorem TA (j:Nat):(List.range 256).map (fun x:Nat=>gD.f (j+10) 1 (x:Int))=q1.map (fun v:Nat=>some (v:Int)):=by kernel_rfl
theorem xx {f:Nat→Option Int} {q:List Nat} (hq:q.length=256) (h:(List.range 256).map f=q.map (fun v:Nat=>some (v:Int))) {x:Nat} (hx:x<256):f x=some ((q.getD x 0:Nat):Int):=by
 have e:=congrArg (fun l=>l[x]?) h
 simp only [List.getElem?_map,List.getElem?_range hx,List.getElem?_eq_getElem (by omega:x<q.length),Option.map_some,Option.some.injEq] at e
 rw [List.getD_eq_getElem?_getD,List.getElem?_eq_getElem (by omega:x<q.length)]
 exact e
theorem Hj: ∀t,t<2→(qq t).length=256∧(∀x∈qq t,x<256)∧(qq t).Nodup:=by decide+kernel
theorem SB {t x k:Nat} (ht:t<2) (hx:x<256) (hk:10≤k):gD.f k (t:Int) (x:Int)=some (((qq t).getD x 0:Nat):Int):=by
 obtain ⟨j,rfl⟩: ∃j,k=j+10:=⟨k-10,by omega⟩
 have:t=0∨t=1:=by omega
 rcases this with rfl | rfl
 ·exact xx (Hj 0 (by omega)).1 (Tz j) hx
 ·exact xx (Hj 1 (by omega)).1 (TA j) hx
theorem TB (j:Nat):(List.range 256).map (fun x:Nat=>fh.f (j+10) 0 (x:Int))=q0.map (fun v:Nat=>some (v:Int)):=by kernel_rfl
theorem TC (j:Nat):(List.range 256).map (fun x:Nat=>fh.f (j+10) 1 (x:Int))=q1.map (fun v:Nat=>some (v:Int)):=by kernel_rfl
theorem Q7 {t x k:Nat} (ht:t<2) (hx:x<256) (hk:10≤k):fh.f k (t:Int) (x:Int)=some (((qq t).getD x 0:Nat):Int):=by
 obtain ⟨j,rfl⟩: ∃j,k=j+10:=⟨k-10,by omega⟩
 have:t=0∨t=1:=by omega
 rcases this with rfl | rfl
 ·exact xx (Hj 0 (by omega)).1 (TB j) hx
 ·exact xx (Hj 1 (by omega)).1 (TC j) hx
def Eo (i:Nat):List Nat:=if i=4 then [1,0,0,1] else if i=3 then [1,1,0,0] else if i=2 then [0,1,0,1] else if i=1 then [0,0,1,1] else [1,0,1,0]
theorem Ai (i j:Nat):(Eo i).getD j 0<2:=by
 unfold Eo
 have h: ∀l∈([[1,0,0,1],[1,1,0,0],[0,1,0,1],[0,0,1,1],[1,0,1,0]]:List (List Nat)),∀x∈l,x<2:=by decide
 have g: ∀l:List Nat,(∀x∈l,x<2)→l.getD j 0<2:=fun l hl=>by
  rw [List.getD_eq_getElem?_getD]
  cases e:l[j]? with
  | none=>decide
  | some x=>exact hl x (List.mem_of_getElem? e)
 repeat' split
 all_goals exact g _ (h _ (by simp))
theorem zf {i k:Nat} (hi:i≤4):iH.f k (i:Int)=some (il (Eo i)):=by
 have:i=0∨i=1∨i=2∨i=3∨i=4:=by omega
 rcases this with rfl | rfl | rfl | rfl | rfl<;>rfl
def B4 (x:List Nat):Prop:=x.length=4∧ ∀v∈x,v<256
theorem B4.set {x:List Nat} (h:B4 x) (j:Nat) {v:Nat} (hv:v<256):B4 (x.set j v):=⟨by rw [List.length_set];exact h.1,fun y hy=>by
 rcases List.mem_or_eq_of_mem_set hy with hy | rfl
 ·exact h.2 y hy
 ·exact hv⟩
theorem B4.at {x:List Nat} (h:B4 x) (j:Nat):x.getD j 0<256:=dN h.2 j
theorem B4.four {x:List Nat} (h:B4 x): ∃a b c d,x=[a,b,c,d]:=by
 obtain ⟨hl,_⟩:=h
 match x,hl with
 | [a,b,c,d],_=>exact ⟨a,b,c,d,rfl⟩
def qv (i j v:Nat):Nat:=(qq ((Eo i).getD j 0)).getD v 0
theorem uW (i j:Nat) (v:Nat):qv i j v<256:=dN (Hj _ (Ai i j)).2.1 v
def zx (i:Nat) (x:List Nat):List Nat:=[qv i 0 (x.getD 0 0),qv i 1 (x.getD 1 0),qv i 2 (x.getD 2 0),qv i 3 (x.getD 3 0)]
theorem qk (i:Nat) (x:List Nat):B4 (zx i x):=⟨rfl,fun v hv=>by
 simp only [zx,List.mem_cons,List.not_mem_nil,or_false] at hv
 rcases hv with rfl | rfl | rfl | rfl<;>exact uW _ _ _⟩
theorem CG {a1:List Int} {i:Nat} (ii:Int) {x:List Nat} (hx:B4 x) {j k:Nat} (hj:j<4) (hk:10≤k):
 aY.l1 (k+1) a1 ii (il (Eo i)) (il x) (j:Int)=aY.l1 k a1 ii (il (Eo i)) (il (x.set j (qv i j (x.getD j 0)))) ((j+1:Nat):Int):=by
 have c0:decide (0≤(j:Int))=true:=by rw [decide_eq_true_eq];omega
 have c1:decide ((j:Int)<4)=true:=by rw [decide_eq_true_eq];omega
 have c2:decide ((j:Int)<((il x).length:Int))=true:=by rw [decide_eq_true_eq,ag,hx.1];omega
 have a2:ak ((j:Int)+1)=((j+1:Nat):Int):=au (n:=j+1) (by omega)
 have q:=SB (k:=k) (Ai i j) (hx.at j) hk
 rw [aY.l1]
 unfold gd
 rw [if_pos c1,if_pos c0,if_pos c1,if_pos c0,if_pos c2,bf,bf,q,Option.bind_some,if_pos c0,if_pos c2,Int.toNat_natCast,kw,a2]
 rfl
theorem Q8 {a1:List Int} {i:Nat} (ii:Int) {x:List Nat} (hx:B4 x) {k:Nat} (hk:20≤k):
 aY.l1 (k+4) a1 ii (il (Eo i)) (il x) 0=aY.l1 k a1 ii (il (Eo i)) (il (zx i x)) 4:=by
 have e0:=CG (a1:=a1) (i:=i) ii hx (j:=0) (k:=k+3) (by omega) (by omega)
 have o1:=hx.set 0 (uW i 0 (x.getD 0 0))
 have e1:=CG (a1:=a1) (i:=i) ii o1 (j:=1) (k:=k+2) (by omega) (by omega)
 have o2:=o1.set 1 (uW i 1 ((x.set 0 (qv i 0 (x.getD 0 0))).getD 1 0))
 have e2:=CG (a1:=a1) (i:=i) ii o2 (j:=2) (k:=k+1) (by omega) (by omega)
 have o3:=o2.set 2 (uW i 2 (((x.set 0 (qv i 0 (x.getD 0 0))).set 1 (qv i 1 ((x.set 0 (qv i 0 (x.getD 0 0))).getD 1 0))).getD 2 0))
 have e3:=CG (a1:=a1) (i:=i) ii o3 (j:=3) (k:=k) (by omega) (by omega)
 refine (e0.trans (e1.trans (e2.trans e3))).trans ?_
 obtain ⟨a,b,c,d,rfl⟩:=hx.four
 rfl
def x4 (x y:List Nat):List Nat:=[x.getD 0 0 ^^^ y.getD 0 0,x.getD 1 0 ^^^ y.getD 1 0,x.getD 2 0 ^^^ y.getD 2 0,x.getD 3 0 ^^^ y.getD 3 0]
theorem xy {a b:Nat} (ha:a<256) (hb:b<256):a ^^^ b<256:=Nat.xor_lt_two_pow (n:=8) ha hb
theorem Lq {x y:List Nat} (hx:B4 x) (hy:B4 y):B4 (x4 x y):=⟨rfl,fun v hv=>by
 simp only [x4,List.mem_cons,List.not_mem_nil,or_false] at hv
 rcases hv with rfl | rfl | rfl | rfl<;>exact xy (hx.at _) (hy.at _)⟩
theorem JD {x y:List Nat} (hx:B4 x) (hy:B4 y) {k:Nat} (hk:10≤k):bw.f k (il x) (il y)=some (il (x4 x y),true):=by
 have l:(il x).length=4:=by rw [ag,hx.1]
 rw [z7 (by rw [ag,ag,hx.1,hy.1]) (by omega) (by omega),l]
 have e:fill 4 (xo (il x) (il y))=il (x4 x y):=by
  have z: ∀j:Nat,xo (il x) (il y) j=((x.getD j 0 ^^^ y.getD j 0:Nat):Int):=fun j=>by
   unfold xo;rw [bf,bf,BZ (hx.at j) (hy.at j)]
  show [xo (il x) (il y) 0,xo (il x) (il y) 1,xo (il x) (il y) 2,xo (il x) (il y) 3]=_
  rw [z,z,z,z];rfl
 rw [e]
def wb (w:Nat):List Nat:=(vW w 4).reverse
theorem oZ (w:Nat):B4 (wb w):=⟨by unfold wb;rw [List.length_reverse,mP],fun v hv=>M0 _ _ v (by unfold wb at hv;simpa using hv)⟩
def RX (W:List Nat):Nat→List Nat→List Nat
 | 0,x=>zx 0 x
 | i+1,x=>RX W i (x4 (zx (i+1) x) (wb (W.getD i 0)))
def xz:List Nat:=[1,239,91,91,91,239,239,1,239,91,1,239,239,1,239,91]
def mr (r j:Nat):Nat:=xz.getD (4*r+j) 0
def rL (r:Nat):List Int:=((il xz).take ((r:Int).toNat*4+4)).drop ((r:Int).toNat*4)
theorem Nk: ∀r:Nat,r<4→ ∀j:Nat,j<4→rd (rL r) (j:Int)=((mr r j:Nat):Int):=by decide
theorem Hk: ∀r:Nat,r<4→ ∀j:Nat,j<4→mr r j<256:=by decide
theorem Nl:tB 361:=⟨by decide,by decide⟩
def mm (r j:Nat) (x:List Nat):Nat:=mu 361 (mr r j) (x.getD j 0)
theorem sf {r j:Nat} (hr:r<4) (hj:j<4) (x:List Nat):mm r j x<256:=qP Nl (Hk r hr j hj) _
theorem qQ {y:List Nat} {r v:Nat} (h:r<y.length):(y.set r v).getD r 0=v:=by
 rw [List.getD_eq_getElem?_getD,List.getElem?_set_self h];rfl
theorem CH {x y:List Nat} (hx:B4 x) (hy:B4 y) {r j k:Nat} (hr:r<4) (hj:j<4) (hk:10≤k):
 aY.l3 (k+1) (il xz) (r:Int) (il x) (il y) (rL r) (j:Int)=aY.l3 k (il xz) (r:Int) (il x) (il (y.set r (y.getD r 0 ^^^ mm r j x))) (rL r) ((j+1:Nat):Int):=by
 have c0: ∀z:Nat,decide (0≤(z:Int))=true:=fun z=>by rw [decide_eq_true_eq];omega
 have c1:decide ((j:Int)<4)=true:=by rw [decide_eq_true_eq];omega
 have c3:decide ((r:Int)<((il y).length:Int))=true:=by rw [decide_eq_true_eq,ag,hy.1];omega
 have c2:decide ((j:Int)<((il x).length:Int))=true:=by rw [decide_eq_true_eq,ag,hx.1];omega
 have a2:ak ((j:Int)+1)=((j+1:Nat):Int):=au (n:=j+1) (by omega)
 have q:=CE (k:=k) Nl (by omega) (Hk r hr j hj) (hx.at j)
 simp only [Int.cast_ofNat_Int] at q
 have bx:aK .u8 ((y.getD r 0:Nat):Int) ((mu 361 (mr r j) (x.getD j 0):Nat):Int)=((y.getD r 0 ^^^ mm r j x:Nat):Int):=BZ (hy.at r) (sf hr hj x)
 rw [aY.l3]
 unfold gd
 rw [if_pos c1,if_pos (c0 _),if_pos c1,if_pos (c0 _),if_pos c3,if_pos (c0 _),if_pos c2,Nk r hr j hj,bf,q,Option.bind_some,if_pos (c0 _),if_pos c3,bf,bx,Int.toNat_natCast,kw,a2]
def xA (r:Nat) (v:Nat) (x:List Nat):Nat:=(((v ^^^ mm r 0 x) ^^^ mm r 1 x) ^^^ mm r 2 x) ^^^ mm r 3 x
theorem CI {x y:List Nat} (hx:B4 x) (hy:B4 y) {r k:Nat} (hr:r<4) (hk:20≤k):
 aY.l2 (k+6) (il xz) (il x) (il y) (r:Int)=aY.l2 k (il xz) (il x) (il (y.set r (xA r (y.getD r 0) x))) ((r+1:Nat):Int):=by
 have c0:decide (0≤(r:Int))=true:=by rw [decide_eq_true_eq];omega
 have c3:decide ((r:Int)<4)=true:=by rw [decide_eq_true_eq];omega
 have a2:ak ((r:Int)+1)=((r+1:Nat):Int):=au (n:=r+1) (by omega)
 have lt: ∀v j,v<256→j<4→v ^^^ mm r j x<256:=fun v j hv hj=>xy hv (sf hr hj x)
 have g: ∀v,(y.set r v).getD r 0=v:=fun v=>qQ (by rw [hy.1];exact hr)
 have ss: ∀u v,(y.set r u).set r v=y.set r v:=fun u v=>by rw [List.set_set]
 have l0:=lt _ 0 (hy.at r) (by omega)
 have l1:=lt _ 1 l0 (by omega)
 have l2:=lt _ 2 l1 (by omega)
 have e0:=CH hx hy hr (j:=0) (k:=k+4) (by omega) (by omega)
 have e1:=CH hx (hy.set r l0) hr (j:=1) (k:=k+3) (by omega) (by omega)
 rw [g,ss] at e1
 have e2:=CH hx (hy.set r l1) hr (j:=2) (k:=k+2) (by omega) (by omega)
 rw [g,ss] at e2
 have e3:=CH hx (hy.set r l2) hr (j:=3) (k:=k+1) (by omega) (by omega)
 rw [g,ss] at e3
 show aY.l2 (k+5+1) _ _ _ _=_
 rw [aY.l2]
 unfold gd
 rw [if_pos c3,if_pos c0,if_pos c3]
 refine (e0.trans (e1.trans (e2.trans e3))).trans ?_
 rw [aY.l3,if_neg (by decide),a2];rfl
def Lr (x:List Nat):List Nat:=[xA 0 0 x,xA 1 0 x,xA 2 0 x,xA 3 0 x]
theorem oe {r v:Nat} (hr:r<4) (hv:v<256) (x:List Nat):xA r v x<256:=xy (xy (xy (xy hv (sf hr (by omega) x)) (sf hr (by omega) x)) (sf hr (by omega) x)) (sf hr (by omega) x)
theorem Aj (x:List Nat):B4 (Lr x):=⟨rfl,fun v hv=>by
 simp only [Lr,List.mem_cons,List.not_mem_nil,or_false] at hv
 rcases hv with rfl | rfl | rfl | rfl
 ·exact oe (r:=0) (by omega) (by decide) x
 ·exact oe (r:=1) (by omega) (by decide) x
 ·exact oe (r:=2) (by omega) (by decide) x
 ·exact oe (r:=3) (by omega) (by decide) x⟩
theorem rT {k:Nat} (x y z w:Int) (hk:10≤k):dQ.f k [x,y,z,w]=some [w,z,y,x]:=by
 obtain ⟨j,rfl⟩: ∃j,k=j+10:=⟨k-10,by omega⟩
 kernel_rfl
theorem RY {x:List Nat} (hx:B4 x) {k:Nat} (hk:10≤k):fj.f k (il x)=some (((jk x.reverse:Nat):Int),true):=by
 obtain ⟨a,b,c,d,rfl⟩:=hx.four
 (unfold fj.f;(try dsimp only [gd,gb,Option.bind_some]))
 have:=rT (k:=k) (a:Int) (b:Int) (c:Int) (d:Int) hk
 show (dQ.f k [(a:Int),(b:Int),(c:Int),(d:Int)]).bind _=_
 (rw [this];(try rw [Option.bind_some]))
 have q:iw.f k [(d:Int),(c:Int),(b:Int),(a:Int)]=some (((jk [d,c,b,a]:Nat):Int),true):=xc (l:=[d,c,b,a]) (k:=k) (fun v hv=>hx.2 v (by simp at hv ⊢;omega)) rfl (by omega)
 rw [q];rfl
theorem Ak {v k:Nat} (hv:v<4294967296) (hk:20≤k):dX.f k (v:Int)=some (il (wb v)):=by
 (unfold dX.f;(try dsimp only [gd,gb,Option.bind_some]))
 have:=rT (k:=k) ((v >>> 24%256:Nat):Int) ((v >>> 16%256:Nat):Int) ((v >>> 8%256:Nat):Int) ((v%256:Nat):Int) (by omega)
 have e:il (vW v 4)=[((v >>> 24%256:Nat):Int),((v >>> 16%256:Nat):Int),((v >>> 8%256:Nat):Int),((v%256:Nat):Int)]:=by rw [ri];rfl
 (rw [pt v hv (by omega)];(try rw [Option.bind_some]);rw [e,this];(try rw [Option.bind_some]))
 unfold wb;rw [ri];rfl
theorem Q9 {x:List Nat} (hx:B4 x) {k:Nat} (hk:60≤k):aY.l2 k (il xz) (il x) (List.replicate 4 (0:Int)) 0=some ((jk (Lr x).reverse:Nat):Int):=by
 obtain ⟨k,rfl⟩: ∃j,k=j+25:=⟨k-25,by omega⟩
 have z:B4 [0,0,0,0]:=⟨rfl,by decide⟩
 have e0:=CI hx z (r:=0) (k:=k+19) (by omega) (by omega)
 have o1:=z.set 0 (oe (r:=0) (v:=0) (by omega) (by decide) x)
 have e1:=CI hx o1 (r:=1) (k:=k+13) (by omega) (by omega)
 have o2:=o1.set 1 (oe (r:=1) (v:=0) (by omega) (by decide) x)
 have e2:=CI hx o2 (r:=2) (k:=k+7) (by omega) (by omega)
 have o3:=o2.set 2 (oe (r:=2) (v:=0) (by omega) (by decide) x)
 have e3:=CI hx o3 (r:=3) (k:=k+1) (by omega) (by omega)
 refine (e0.trans (e1.trans (e2.trans e3))).trans ?_
 show aY.l2 (k+1) (il xz) (il x) (il (Lr x)) 4=_
 (rw [aY.l2];(try dsimp only [gd,gb,Option.bind_some]);rw [if_neg (by decide),RY (Aj x) (by omega)];(try rw [Option.bind_some]))
theorem SC {W:List Nat} (hW: ∀v∈W,v<4294967296) (i:Nat): ∀ {k:Nat} {x:List Nat},6*i+100≤k→i≤4→i≤W.length→B4 x→aY.l0 k (il W) (il x) (i:Int)=some ((jk (Lr (RX W i x)).reverse:Nat):Int):=by
 induction i with
 | zero=>
  intro k x hk hi hl hx
  obtain ⟨k,rfl⟩: ∃j,k=j+6:=⟨k-6,by omega⟩
  have e:=Q8 (a1:=il W) (i:=0) 0 hx (k:=k+1) (by omega)
  have o:=zf (i:=0) (k:=k+5) (by omega)
  show aY.l0 (k+5+1) (il W) (il x) 0=_
  (rw [aY.l0];(try dsimp only [gd,gb,Option.bind_some]))
  simp only [Int.cast_ofNat_Int] at o
  (rw [o];(try rw [Option.bind_some]))
  refine e.trans ?_
  (rw [aY.l1];(try dsimp only [gd,gb,Option.bind_some]);rw [if_neg (by decide),if_neg (by decide)])
  show (some (il xz)).bind _=_
  ((try rw [Option.bind_some]))
  exact Q9 (qk 0 x) (by omega)
 | succ i ih=>
  intro k x hk hi hl hx
  obtain ⟨k,rfl⟩: ∃j,k=j+6:=⟨k-6,by omega⟩
  have e:=Q8 (a1:=il W) (i:=i+1) ((i+1:Nat):Int) hx (k:=k+1) (by omega)
  have o:=zf (i:=i+1) (k:=k+5) hi
  have a1:ak (((i+1:Nat):Int)-1)=(i:Int):=by rw [cA (by omega) (by omega)];omega
  have wl:W.getD i 0<4294967296:=by
   rw [List.getD_eq_getElem?_getD]
   cases e:W[i]? with
   | none=>decide
   | some v=>exact hW v (List.mem_of_getElem? e)
  have xr:=JD (qk (i+1) x) (oZ (W.getD i 0)) (k:=k) (by omega)
  show aY.l0 (k+5+1) (il W) (il x) ((i+1:Nat):Int)=_
  (rw [aY.l0];(try dsimp only [gd,gb,Option.bind_some]);rw [o];(try rw [Option.bind_some]))
  refine e.trans ?_
  (rw [aY.l1];(try dsimp only [gd,gb,Option.bind_some]);rw [if_neg (by decide),if_pos (by rw [decide_eq_true_eq];omega),a1,if_pos (by rw [decide_eq_true_eq];omega),if_pos (by rw [decide_eq_true_eq,ag];omega),bf,Ak wl (by omega)];(try rw [Option.bind_some]);rw [xr];(try rw [Option.bind_some]))
  exact ih (by omega) (by omega) (by omega) (Lq (qk _ _) (oZ _))
def hN (W:List Nat) (x:Nat):Nat:=jk (Lr (RX W (min W.length 4) (wb x))).reverse
theorem Eb {W:List Nat} (hW: ∀v∈W,v<4294967296) {x k:Nat} (hx:x<4294967296) (hk:200≤k):aY.f k (x:Int) (il W)=some ((hN W x:Nat):Int):=by
 have m:mn (((il W).length:Nat):Int) 4=((min W.length 4:Nat):Int):=by
  unfold mn;rw [ag];split<;>omega
 (unfold aY.f;(try dsimp only [gd,gb,Option.bind_some]))
 (rw [Ak hx (by omega)];(try rw [Option.bind_some]);rw [m])
 exact SC hW (min W.length 4) (by omega) (by omega) (by omega) (oZ x)
theorem JE {a n:Nat} (hn:n<32):mM .u32 (a:Int) (n:Int)=((a >>> n:Nat):Int):=by
 show shr _ (min _ 32)=_
 rw [Int.toNat_natCast,Nat.min_eq_left (by omega),gW]
theorem CJ {a n:Nat} (hn:n<32):lG .u32 (a:Int) (n:Int)=(((a <<< n)%4294967296:Nat):Int):=by
 show shl .u32 _ (min _ 32)=_
 rw [Int.toNat_natCast,Nat.min_eq_left (by omega),yT]
theorem SD {j:Nat} (hj:j<4):kX (ak (8*(j:Int)))=((8*j:Nat):Int):=by
 have:ak (8*(j:Int))=((8*j:Nat):Int):=au (n:=8*j) (by omega)
 rw [this,po,Nat.mod_eq_of_lt (by omega)]
theorem xB {x:List Nat} (hx:B4 x) {w:Nat} {j k:Nat} (hj:j<4):aL.l0 (k+1) (w:Int) (il x) (j:Int)=aL.l0 k (w:Int) (il (x.set j (x.getD j 0 ^^^ (w >>> (8*j))%256))) ((j+1:Nat):Int):=by
 have c0:decide (0≤(j:Int))=true:=by rw [decide_eq_true_eq];omega
 have c1:decide ((j:Int)<4)=true:=by rw [decide_eq_true_eq];omega
 have a2:ak ((j:Int)+1)=((j+1:Nat):Int):=au (n:=j+1) (by omega)
 (rw [aL.l0];(try dsimp only [gd,gb,Option.bind_some]);rw [if_pos c1,if_pos c0,if_pos c1,SD hj,if_pos (by rw [decide_eq_true_eq];omega),JE (by omega),iR,bf,BZ (hx.at j) (Nat.mod_lt _ (by decide))];(try rw [Option.bind_some]);rw [if_pos c0,if_pos c1,Int.toNat_natCast,kw,a2])
theorem CK {x:List Nat} (hx:B4 x) {w k:Nat} (hk:10≤k):aL.f k (il x) (w:Int)=some (il (x4 x (wb w))):=by
 obtain ⟨k,rfl⟩: ∃j,k=j+5:=⟨k-5,by omega⟩
 have l: ∀v j,v<256→v ^^^ (w >>> (8*j))%256<256:=fun v j hv=>xy hv (Nat.mod_lt _ (by decide))
 have e0:=xB hx (w:=w) (j:=0) (k:=k+4) (by omega)
 have o1:=hx.set 0 (l _ 0 (hx.at 0))
 have e1:=xB o1 (w:=w) (j:=1) (k:=k+3) (by omega)
 have o2:=o1.set 1 (l _ 1 (o1.at 1))
 have e2:=xB o2 (w:=w) (j:=2) (k:=k+2) (by omega)
 have o3:=o2.set 2 (l _ 2 (o2.at 2))
 have e3:=xB o3 (w:=w) (j:=3) (k:=k+1) (by omega)
 (unfold aL.f;(try dsimp only [gd,gb,Option.bind_some]))
 refine (e0.trans (e1.trans (e2.trans e3))).trans ?_
 (rw [aL.l0];(try dsimp only [gd,gb,Option.bind_some]);rw [if_neg (by decide)])
 obtain ⟨a,b,c,d,rfl⟩:=hx.four
 unfold wb;rw [ri];rfl
theorem t6 {i:Nat} {x:List Nat} (hx:B4 x) {j k:Nat} (hj:j<4) (hk:10≤k):ay.l0 (k+1) (il (Eo i)) (il x) (j:Int)=ay.l0 k (il (Eo i)) (il (x.set j (qv i j (x.getD j 0)))) ((j+1:Nat):Int):=by
 have c0:decide (0≤(j:Int))=true:=by rw [decide_eq_true_eq];omega
 have c1:decide ((j:Int)<4)=true:=by rw [decide_eq_true_eq];omega
 have a2:ak ((j:Int)+1)=((j+1:Nat):Int):=au (n:=j+1) (by omega)
 have q:=Q7 (k:=k) (Ai i j) (hx.at j) hk
 (rw [ay.l0];(try dsimp only [gd,gb,Option.bind_some]);rw [if_pos c1,if_pos c0,if_pos c1,if_pos c0,if_pos c1,bf,bf,q];(try rw [Option.bind_some]);rw [if_pos c0,if_pos c1,Int.toNat_natCast,kw,a2])
 rfl
theorem Hl (i:Nat) {x:List Nat} (hx:B4 x) {k:Nat} (hk:20≤k):ay.f k (il x) (il (Eo i))=some (il (zx i x)):=by
 obtain ⟨k,rfl⟩: ∃j,k=j+5:=⟨k-5,by omega⟩
 have e0:=t6 (i:=i) hx (j:=0) (k:=k+4) (by omega) (by omega)
 have o1:=hx.set 0 (uW i 0 (x.getD 0 0))
 have e1:=t6 (i:=i) o1 (j:=1) (k:=k+3) (by omega) (by omega)
 have o2:=o1.set 1 (uW i 1 ((x.set 0 (qv i 0 (x.getD 0 0))).getD 1 0))
 have e2:=t6 (i:=i) o2 (j:=2) (k:=k+2) (by omega) (by omega)
 have o3:=o2.set 2 (uW i 2 (((x.set 0 (qv i 0 (x.getD 0 0))).set 1 (qv i 1 ((x.set 0 (qv i 0 (x.getD 0 0))).getD 1 0))).getD 2 0))
 have e3:=t6 (i:=i) o3 (j:=3) (k:=k+1) (by omega) (by omega)
 (unfold ay.f;(try dsimp only [gd,gb,Option.bind_some]))
 refine (e0.trans (e1.trans (e2.trans e3))).trans ?_
 (rw [ay.l0];(try dsimp only [gd,gb,Option.bind_some]);rw [if_neg (by decide)])
 obtain ⟨a,b,c,d,rfl⟩:=hx.four
 rfl
def tC (r v:Nat):Nat:=v <<< (8*r)
theorem oz {r v:Nat} (hr:r<4) (hv:v<256):tC r v<4294967296:=by
 unfold tC;rw [Nat.shiftLeft_eq]
 have:2^(8*r)≤2^24:=Nat.pow_le_pow_right (by decide) (by omega)
 have h2:v*2^(8*r)≤255*2^24:=Nat.mul_le_mul (by omega) this
 omega
theorem vf {x y:Nat} (hx:x<4294967296) (hy:y<4294967296):x ^^^ y<4294967296:=Nat.xor_lt_two_pow (n:=32) hx hy
theorem t7 (r a b:Nat):tC r (a ^^^ b)=tC r a ^^^ tC r b:=by unfold tC;exact Nat.shiftLeft_xor_distrib
theorem xD {a b n:Nat} (h:a<2^n):a ^^^ b <<< n=a+b*2^n:=by
 rw [←Nat.shiftLeft_eq,Nat.add_comm,Nat.shiftLeft_add_eq_or_of_lt h]
 refine Nat.eq_of_testBit_eq fun i=> ?_
 rw [Nat.testBit_xor,Nat.testBit_or,Nat.testBit_shiftLeft]
 by_cases hi:i<n
 ·have:¬ i≥n:=by omega
  simp [this]
 ·have:a.testBit i=false:=Nat.testBit_lt_two_pow (Nat.lt_of_lt_of_le h (Nat.pow_le_pow_right (by decide) (by omega)))
  simp [this]
theorem Ls {y0 y1 y2 y3:Nat} (h0:y0<256) (h1:y1<256) (h2:y2<256):(((0 ^^^ tC 0 y0) ^^^ tC 1 y1) ^^^ tC 2 y2) ^^^ tC 3 y3=jk [y3,y2,y1,y0]:=by
 have e1:y0 ^^^ y1 <<< 8=y0+y1*2^8:=xD (by omega)
 have e2:(y0+y1*2^8) ^^^ y2 <<< 16=y0+y1*2^8+y2*2^16:=xD (by omega)
 have e3:(y0+y1*2^8+y2*2^16) ^^^ y3 <<< 24=y0+y1*2^8+y2*2^16+y3*2^24:=xD (by omega)
 show (((0 ^^^ y0) ^^^ y1 <<< 8) ^^^ y2 <<< 16) ^^^ y3 <<< 24=_
 rw [Nat.zero_xor,e1,e2,e3]
 simp only [jk,List.foldl];omega
theorem Nm (r v:Nat) (x:List Nat):(((v ^^^ tC r (mm r 0 x)) ^^^ tC r (mm r 1 x)) ^^^ tC r (mm r 2 x)) ^^^ tC r (mm r 3 x)=v ^^^ tC r (xA r 0 x):=by
 unfold xA;rw [Nat.zero_xor,t7,t7,t7];simp only [Nat.xor_assoc]
def Ra (r:Nat):List Nat:=if r=0 then [1,164,85,135,90,88,219,158] else if r=1 then [164,86,130,243,30,198,104,229] else if r=2 then [2,161,252,193,71,174,61,25] else [164,85,135,90,88,219,158,3]
def cr (r j:Nat):Nat:=(Ra r).getD j 0
def CD:List (List Int):=[([1,164,85,135,90,88,219,158]:List Int),([164,86,130,243,30,198,104,229]:List Int),([2,161,252,193,71,174,61,25]:List Int),([164,85,135,90,88,219,158,3]:List Int)]
theorem Hm: ∀r:Nat,r<4→rr CD (r:Int)=il (Ra r):=by decide
theorem Hn: ∀r:Nat,r<4→(Ra r).length=8:=by decide
theorem Ho: ∀r:Nat,r<4→ ∀j:Nat,j<8→cr r j<256:=by decide
theorem Nn:tB 333:=⟨by decide,by decide⟩
def cm (r j:Nat) (m:List Nat):Nat:=mu 333 (cr r j) (m.getD j 0)
theorem CL {r j:Nat} (hr:r<4) (hj:j<8) (m:List Nat):cm r j m<256:=qP Nn (Ho r hr j hj) _
def sm (r:Nat) (m:List Nat):Nat→Nat→Nat→Nat
 | _,0,v=>v
 | j,d+1,v=>sm r m (j+1) d (v ^^^ cm r j m)
theorem Lt {r:Nat} (hr:r<4) (m:List Nat): ∀d j v,j+d≤8→v<256→sm r m j d v<256
 | 0,_,_,_,h=>h
 | d+1,j,v,h,hv=>Lt hr m d (j+1) _ (by omega) (xy hv (CL hr (by omega) m))
theorem Hp (r:Nat) (m:List Nat): ∀d j v,sm r m j d v=v ^^^ sm r m j d 0
 | 0,_,v=>by simp [sm]
 | d+1,j,v=>by
  rw [sm,Hp r m d (j+1) (v ^^^ cm r j m),sm,Hp r m d (j+1) (0 ^^^ cm r j m),Nat.zero_xor,Nat.xor_assoc]
def B8 (x:List Nat):Prop:=x.length=8∧ ∀v∈x,v<256
theorem SE {m:List Nat} (hm:B8 m) {r:Nat} (hr:r<4) (d:Nat): ∀ {j k:Nat} {y:List Nat},j+d=8→B4 y→10≤k→
 ba.l1 (k+d) (il m) CD (r:Int) (il y) (j:Int)=ba.l1 k (il m) CD (r:Int) (il (y.set r (sm r m j d (y.getD r 0)))) 8:=by
 induction d with
 | zero=>
  intro j k y hj hy hk
  have:j=8:=by omega
  subst this
  show _=ba.l1 k (il m) CD (r:Int) (il (y.set r (y.getD r 0))) 8
  have:y.set r (y.getD r 0)=y:=by
   have hr':r<y.length:=by rw [hy.1];exact hr
   rw [List.getD_eq_getElem?_getD,List.getElem?_eq_getElem hr',Option.getD_some,List.set_getElem_self]
  rw [this];rfl
 | succ d ih=>
  intro j k y hj hy hk
  have c0: ∀z:Nat,decide (0≤(z:Int))=true:=fun z=>by rw [decide_eq_true_eq];omega
  have c1:decide ((j:Int)<8)=true:=by rw [decide_eq_true_eq];omega
  have c3:decide ((r:Int)<((il y).length:Int))=true:=by rw [decide_eq_true_eq,ag,hy.1];omega
  have c2:decide ((j:Int)<((il m).length:Int))=true:=by rw [decide_eq_true_eq,ag,hm.1];omega
  have c4:decide ((j:Int)<((il (Ra r)).length:Int))=true:=by rw [decide_eq_true_eq,ag,Hn r hr];omega
  have a2:ak ((j:Int)+1)=((j+1:Nat):Int):=au (n:=j+1) (by omega)
  have hc:=Ho r hr j (by omega)
  have q:=CE (k:=k+d) Nn (by omega) hc (dN hm.2 j)
  simp only [Int.cast_ofNat_Int] at q
  have bx:aK .u8 ((y.getD r 0:Nat):Int) ((mu 333 (cr r j) (m.getD j 0):Nat):Int)=((y.getD r 0 ^^^ cm r j m:Nat):Int):=BZ (hy.at r) (CL hr (by omega) m)
  have cl:(rd (il (Ra r)) (j:Int):Int)=((cr r j:Nat):Int):=bf _ _
  show ba.l1 (k+d+1) _ _ _ _ _=_
  rw [ba.l1]
  unfold gd
  rw [Hm r hr,if_pos c4,if_pos (c0 _),if_pos c4,if_pos (c0 _),if_pos c3,if_pos (c0 _),if_pos c2,cl,bf,q,Option.bind_some,if_pos (c0 _),if_pos c3,bf,bx,Int.toNat_natCast,kw,a2]
  have o:=hy.set r (xy (hy.at r) (CL hr (show j<8 by omega) m))
  rw [ih (by omega) o hk,qQ (by rw [hy.1];exact hr),List.set_set];rfl
theorem CM {m:List Nat} (hm:B8 m) {r:Nat} (hr:r<4) {k:Nat} {y:List Nat} (hy:B4 y) (hk:20≤k):
 ba.l0 (k+10) (il m) (il y) CD (r:Int)=ba.l0 k (il m) (il (y.set r (sm r m 0 8 (y.getD r 0)))) CD ((r+1:Nat):Int):=by
 have c0:decide (0≤(r:Int))=true:=by rw [decide_eq_true_eq];omega
 have c3:decide ((r:Int)<4)=true:=by rw [decide_eq_true_eq];omega
 have a2:ak ((r:Int)+1)=((r+1:Nat):Int):=au (n:=r+1) (by omega)
 have l:=SE hm hr 8 (j:=0) (k:=k+1) (by omega) hy (by omega)
 show ba.l0 (k+9+1) _ _ _ _=_
 rw [ba.l0]
 unfold gd
 rw [if_pos c3,if_pos c0,if_pos c3]
 refine l.trans ?_
 rw [ba.l1,Hm r hr,ag,Hn r hr,if_neg (by decide),a2]
def Rb (m:List Nat):List Nat:=[sm 0 m 0 8 0,sm 1 m 0 8 0,sm 2 m 0 8 0,sm 3 m 0 8 0]
theorem qn {r:Nat} (hr:r<4) (m:List Nat):sm r m 0 8 0<256:=Lt hr m 8 0 0 (by omega) (by decide)
theorem Al (m:List Nat):B4 (Rb m):=⟨rfl,fun v hv=>by
 simp only [Rb,List.mem_cons,List.not_mem_nil,or_false] at hv
 rcases hv with rfl | rfl | rfl | rfl
 ·exact qn (r:=0) (by omega) m
 ·exact qn (r:=1) (by omega) m
 ·exact qn (r:=2) (by omega) m
 ·exact qn (r:=3) (by omega) m⟩
def fd (m:List Nat):Nat:=jk (Rb m).reverse
theorem Rc (m:List Nat):fd m<4294967296:=by
 have h:=rS (Rb m).reverse (fun x hx=>(Al m).2 x (by simpa using hx))
 rw [List.length_reverse,(Al m).1] at h
 exact h
theorem Ec {m:List Nat} (hm:B8 m) {k:Nat} (hk:100≤k):ba.f k (il m)=some ((fd m:Nat):Int):=by
 obtain ⟨k,rfl⟩: ∃j,k=j+41:=⟨k-41,by omega⟩
 have z:B4 [0,0,0,0]:=⟨rfl,by decide⟩
 have e0:=CM hm (r:=0) (k:=k+31) (by omega) z (by omega)
 have o1:=z.set 0 (qn (r:=0) (by omega) m)
 have e1:=CM hm (r:=1) (k:=k+21) (by omega) o1 (by omega)
 have o2:=o1.set 1 (qn (r:=1) (by omega) m)
 have e2:=CM hm (r:=2) (k:=k+11) (by omega) o2 (by omega)
 have o3:=o2.set 2 (qn (r:=2) (by omega) m)
 have e3:=CM hm (r:=3) (k:=k+1) (by omega) o3 (by omega)
 unfold ba.f
 refine (e0.trans (e1.trans (e2.trans e3))).trans ?_
 show ba.l0 (k+1) (il m) (il (Rb m)) CD 4=_
 rw [ba.l0,if_neg (by decide),RY (Al m) (by omega),Option.bind_some];rfl
def cL:List Int:=([1,164,85,135,90,88,219,158]:List Int)++(([164,86,130,243,30,198,104,229]:List Int)++(([2,161,252,193,71,174,61,25]:List Int)++([164,85,135,90,88,219,158,3]:List Int)))
theorem Re: ∀r:Nat,r<4→ ∀j:Nat,j<8→cL.getD ((r:Int).toNat*8+(j:Int).toNat) 0=((cr r j:Nat):Int):=by decide
theorem SF {m:List Nat} (hm:B8 m) {r:Nat} (hr:r<4) (d:Nat): ∀ {j k v:Nat},j+d=8→v<4294967296→10≤k→
 bj.l1 (k+d) (il m) (r:Int) cL (v:Int) (j:Int)=bj.l1 k (il m) (r:Int) cL ((v ^^^ tC r (sm r m j d 0):Nat):Int) 8:=by
 induction d with
 | zero=>
  intro j k v hj hv hk
  have:j=8:=by omega
  subst this
  have:tC r (sm r m 8 0 0)=0:=by show 0 <<< _=0;simp
  rw [this,Nat.xor_zero];rfl
 | succ d ih=>
  intro j k v hj hv hk
  have c0: ∀z:Nat,decide (0≤(z:Int))=true:=fun z=>by rw [decide_eq_true_eq];omega
  have c1:decide ((j:Int)<8)=true:=by rw [decide_eq_true_eq];omega
  have c3:decide ((r:Int)<4)=true:=by rw [decide_eq_true_eq];omega
  have c2:decide ((j:Int)<((il m).length:Int))=true:=by rw [decide_eq_true_eq,ag,hm.1];omega
  have a2:ak ((j:Int)+1)=((j+1:Nat):Int):=au (n:=j+1) (by omega)
  have hc:=Ho r hr j (by omega)
  have q:=CF (k:=k+d) Nn (by omega) hc (dN hm.2 j)
  simp only [Int.cast_ofNat_Int] at q
  have hm8:mu 333 (cr r j) (m.getD j 0)<256:=CL hr (by omega) m
  have ha:=oz hr hm8
  have u:fv ((mu 333 (cr r j) (m.getD j 0):Nat):Int)=((mu 333 (cr r j) (m.getD j 0):Nat):Int):=by rw [kI,Nat.mod_eq_of_lt (by omega)]
  have sh:lG .u32 ((mu 333 (cr r j) (m.getD j 0):Nat):Int) ((8*r:Nat):Int)=((tC r (cm r j m):Nat):Int):=by
   rw [CJ (by omega)]
   show ((tC r (mu 333 (cr r j) (m.getD j 0))%4294967296:Nat):Int)=_
   rw [Nat.mod_eq_of_lt ha];rfl
  have ha':tC r (cm r j m)<4294967296:=ha
  show bj.l1 (k+d+1) _ _ _ _ _=_
  rw [bj.l1]
  unfold gd
  rw [if_pos c1,if_pos (c0 _),if_pos c3,if_pos (c0 _),if_pos c1,if_pos (c0 _),if_pos c2,Re r hr j (by omega),bf,q,Option.bind_some,SD hr,if_pos (c0 _),u,sh,nt hv ha',Option.bind_some,a2]
  rw [ih (by omega) (vf hv ha') hk]
  congr 2
  rw [sm,Hp r m d (j+1) (0 ^^^ cm r j m),Nat.zero_xor,t7,Nat.xor_assoc]
theorem CN {m:List Nat} (hm:B8 m) {r:Nat} (hr:r<4) {k v:Nat} (hv:v<4294967296) (hk:20≤k):
 bj.l0 (k+10) (il m) cL (v:Int) (r:Int)=bj.l0 k (il m) cL ((v ^^^ tC r (sm r m 0 8 0):Nat):Int) ((r+1:Nat):Int):=by
 have c3:decide ((r:Int)<4)=true:=by rw [decide_eq_true_eq];omega
 have a2:ak ((r:Int)+1)=((r+1:Nat):Int):=au (n:=r+1) (by omega)
 have l:=SF hm hr 8 (j:=0) (k:=k+1) (by omega) hv (by omega)
 show bj.l0 (k+9+1) _ _ _ _=_
 rw [bj.l0,if_pos c3]
 refine l.trans ?_
 rw [bj.l1,if_neg (by decide),a2]
theorem JF {m:List Nat} (hm:B8 m) {k:Nat} (hk:100≤k):bj.f k (il m)=some ((fd m:Nat):Int):=by
 obtain ⟨k,rfl⟩: ∃j,k=j+41:=⟨k-41,by omega⟩
 have rl:=fun r (hr:r<4)=>qn hr m
 have v0:=vf (by decide:0<4294967296) (oz (r:=0) (by omega) (rl 0 (by omega)))
 have v1:=vf v0 (oz (r:=1) (by omega) (rl 1 (by omega)))
 have v2:=vf v1 (oz (r:=2) (by omega) (rl 2 (by omega)))
 have e0:=CN hm (v:=0) (r:=0) (k:=k+31) (by omega) (by decide) (by omega)
 have e1:=CN hm (r:=1) (k:=k+21) (by omega) v0 (by omega)
 have e2:=CN hm (r:=2) (k:=k+11) (by omega) v1 (by omega)
 have e3:=CN hm (r:=3) (k:=k+1) (by omega) v2 (by omega)
 unfold bj.f
 refine (e0.trans (e1.trans (e2.trans e3))).trans ?_
 rw [bj.l0,if_neg (by decide),Ls (rl 0 (by omega)) (rl 1 (by omega)) (rl 2 (by omega))];rfl
def mL:List Int:=([1,239,91,91]:List Int)++(([91,239,239,1]:List Int)++(([239,91,1,239]:List Int)++([239,1,239,91]:List Int)))
theorem Rf: ∀r:Nat,r<4→ ∀j:Nat,j<4→mL.getD ((r:Int).toNat*4+(j:Int).toNat) 0=((mr r j:Nat):Int):=by decide
theorem JG {x:List Nat} (hx:B4 x) {v r j k:Nat} (hv:v<4294967296) (hr:r<4) (hj:j<4) (hk:10≤k):
 bo.l1 (k+1) (r:Int) (il x) mL (v:Int) (j:Int)=bo.l1 k (r:Int) (il x) mL ((v ^^^ tC r (mm r j x):Nat):Int) ((j+1:Nat):Int):=by
 have c0: ∀z:Nat,decide (0≤(z:Int))=true:=fun z=>by rw [decide_eq_true_eq];omega
 have c1:decide ((j:Int)<4)=true:=by rw [decide_eq_true_eq];omega
 have c3:decide ((r:Int)<4)=true:=by rw [decide_eq_true_eq];omega
 have a2:ak ((j:Int)+1)=((j+1:Nat):Int):=au (n:=j+1) (by omega)
 have q:=CF (k:=k) Nl (by omega) (Hk r hr j hj) (hx.at j)
 simp only [Int.cast_ofNat_Int] at q
 have hm:mu 361 (mr r j) (x.getD j 0)<256:=sf hr hj x
 have ha:=oz hr hm
 have u:fv ((mu 361 (mr r j) (x.getD j 0):Nat):Int)=((mu 361 (mr r j) (x.getD j 0):Nat):Int):=by rw [kI,Nat.mod_eq_of_lt (by omega)]
 have sh:lG .u32 ((mu 361 (mr r j) (x.getD j 0):Nat):Int) ((8*r:Nat):Int)=((tC r (mm r j x):Nat):Int):=by
  rw [CJ (by omega)]
  show ((tC r (mu 361 (mr r j) (x.getD j 0))%4294967296:Nat):Int)=_
  rw [Nat.mod_eq_of_lt ha];rfl
 rw [bo.l1]
 unfold gd
 rw [if_pos c1,if_pos (c0 _),if_pos c3,if_pos (c0 _),if_pos c1,if_pos (c0 _),if_pos c1,Rf r hr j hj,bf,q,Option.bind_some,SD hr,if_pos (c0 _),u,sh,nt hv (oz hr (sf hr hj x)),Option.bind_some,a2]
theorem xE {x:List Nat} (hx:B4 x) {v r k:Nat} (hv:v<4294967296) (hr:r<4) (hk:20≤k):
 bo.l0 (k+6) (il x) mL (v:Int) (r:Int)=bo.l0 k (il x) mL ((v ^^^ tC r (xA r 0 x):Nat):Int) ((r+1:Nat):Int):=by
 have c3:decide ((r:Int)<4)=true:=by rw [decide_eq_true_eq];omega
 have a2:ak ((r:Int)+1)=((r+1:Nat):Int):=au (n:=r+1) (by omega)
 have l:=fun j (hj:j<4)=>oz hr (sf hr hj x)
 have v0:=vf hv (l 0 (by omega))
 have v1:=vf v0 (l 1 (by omega))
 have v2:=vf v1 (l 2 (by omega))
 have e0:=JG hx hv hr (j:=0) (k:=k+4) (by omega) (by omega)
 have e1:=JG hx v0 hr (j:=1) (k:=k+3) (by omega) (by omega)
 have e2:=JG hx v1 hr (j:=2) (k:=k+2) (by omega) (by omega)
 have e3:=JG hx v2 hr (j:=3) (k:=k+1) (by omega) (by omega)
 show bo.l0 (k+5+1) _ _ _ _=_
 rw [bo.l0,if_pos c3]
 refine (e0.trans (e1.trans (e2.trans e3))).trans ?_
 rw [bo.l1,if_neg (by decide),a2,Nm]
theorem Am {x:List Nat} (hx:B4 x) {k:Nat} (hk:60≤k):bo.l0 k (il x) mL 0 0=some ((jk (Lr x).reverse:Nat):Int):=by
 obtain ⟨k,rfl⟩: ∃j,k=j+25:=⟨k-25,by omega⟩
 have rl:=fun r (hr:r<4)=>oe hr (by decide:0<256) x
 have v0:=vf (by decide:0<4294967296) (oz (r:=0) (by omega) (rl 0 (by omega)))
 have v1:=vf v0 (oz (r:=1) (by omega) (rl 1 (by omega)))
 have v2:=vf v1 (oz (r:=2) (by omega) (rl 2 (by omega)))
 have e0:=xE hx (v:=0) (r:=0) (k:=k+19) (by decide) (by omega) (by omega)
 have e1:=xE hx (r:=1) (k:=k+13) v0 (by omega) (by omega)
 have e2:=xE hx (r:=2) (k:=k+7) v1 (by omega) (by omega)
 have e3:=xE hx (r:=3) (k:=k+1) v2 (by omega) (by omega)
 refine (e0.trans (e1.trans (e2.trans e3))).trans ?_
 rw [bo.l0,if_neg (by decide),Ls (rl 0 (by omega)) (rl 1 (by omega)) (rl 2 (by omega))];rfl
theorem TE (w:Nat):x4 [0,0,0,0] (wb w)=wb w:=by
 obtain ⟨a,b,c,d,e⟩:=(oZ w).four
 rw [e];simp [x4]
theorem CO {W:List Nat} (hW2:2≤W.length) (hW4:W.length≤4) {x k:Nat} (hk:200≤k):bo.f k (x:Int) (il W)=some ((hN W x:Nat):Int):=by
 have z:B4 [0,0,0,0]:=⟨rfl,by decide⟩
 have L0:aL.f k ([0,0,0,0]:List Int) (x:Int)=some (il (wb x)):=by
  have:=CK z (w:=x) (k:=k) (by omega)
  rw [TE] at this;exact this
 have g: ∀i:Nat,rd (il W) (i:Int)=((W.getD i 0:Nat):Int):=bf W
 have g0:rd (il W) 0=((W.getD 0 0:Nat):Int):=g 0
 have g1:rd (il W) 1=((W.getD 1 0:Nat):Int):=g 1
 have g2:rd (il W) 2=((W.getD 2 0:Nat):Int):=g 2
 have g3:rd (il W) 3=((W.getD 3 0:Nat):Int):=g 3
 have S: ∀(i:Nat) (y:List Nat),B4 y→ay.f k (il y) (il (Eo i))=some (il (zx i y)):=fun i y hy=>Hl i hy (by omega)
 have S4: ∀y,B4 y→ay.f k (il y) [1,0,0,1]=some (il (zx 4 y)):=fun y hy=>S 4 y hy
 have S3: ∀y,B4 y→ay.f k (il y) [1,1,0,0]=some (il (zx 3 y)):=fun y hy=>S 3 y hy
 have S2: ∀y,B4 y→ay.f k (il y) [0,1,0,1]=some (il (zx 2 y)):=fun y hy=>S 2 y hy
 have S1: ∀y,B4 y→ay.f k (il y) [0,0,1,1]=some (il (zx 1 y)):=fun y hy=>S 1 y hy
 have S0: ∀y,B4 y→ay.f k (il y) [1,0,1,0]=some (il (zx 0 y)):=fun y hy=>S 0 y hy
 have L: ∀(i w:Nat) (y:List Nat),aL.f k (il (zx i y)) (w:Int)=some (il (x4 (zx i y) (wb w))):=fun i w y=>CK (qk i y) (by omega)
 have ok: ∀(i w:Nat) (y:List Nat),B4 (x4 (zx i y) (wb w)):=fun i w y=>Lq (qk i y) (oZ w)
 have ll:((il W).length:Int)=(W.length:Int):=by rw [ag]
 have L0:aL.f k (List.replicate 4 0) (x:Int)=some (il (wb x)):=L0
 have S1: ∀y,B4 y→ay.f k (il y) [0,0,1,1]=some (il (zx 1 y)):=S1
 unfold bo.f hN gd
 rw [L0,Option.bind_some,ll]
 have:W.length=2∨W.length=3∨W.length=4:=by omega
 rcases this with h | h | h
 ·rw [h,if_neg (by decide),if_neg (by decide),if_neg (by decide),S2 _ (oZ x),Option.bind_some,if_pos (by decide),g1,L,Option.bind_some,S1 _ (ok _ _ _),Option.bind_some,if_pos (by decide),g0,L,Option.bind_some,S0 _ (ok _ _ _),Option.bind_some]
  exact Am (qk _ _) (by omega)
 ·rw [h,if_neg (by decide),if_pos (by decide),S3 _ (oZ x),Option.bind_some,if_pos (by decide),g2,L,Option.bind_some,if_neg (by decide),S2 _ (ok _ _ _),Option.bind_some,if_pos (by decide),g1,L,Option.bind_some,S1 _ (ok _ _ _),Option.bind_some,if_pos (by decide),g0,L,Option.bind_some,S0 _ (ok _ _ _),Option.bind_some]
  exact Am (qk _ _) (by omega)
 ·rw [h,if_pos (by decide),S4 _ (oZ x),Option.bind_some,if_pos (by decide),g3,L,Option.bind_some,if_pos (by decide),S3 _ (ok _ _ _),Option.bind_some,if_pos (by decide),g2,L,Option.bind_some,if_neg (by decide),S2 _ (ok _ _ _),Option.bind_some,if_pos (by decide),g1,L,Option.bind_some,S1 _ (ok _ _ _),Option.bind_some,if_pos (by decide),g0,L,Option.bind_some,S0 _ (ok _ _ _),Option.bind_some]
  exact Am (qk _ _) (by omega)
def ev:List Nat→List Nat
 | a::b::c::d::_::_::_::_::r=>jk [d,c,b,a]::ev r
 | _=>[]
def od:List Nat→List Nat
 | _::_::_::_::a::b::c::d::r=>jk [d,c,b,a]::od r
 | _=>[]
def sd:List Nat→List Nat
 | a::b::c::d::e::f::g::h::r=>fd [a,b,c,d,e,f,g,h]::sd r
 | _=>[]
theorem uT {l:List Nat} {n:Nat} (h:l.length=8*(n+1)): ∃a b c d e f g i r,l=a::b::c::d::e::f::g::i::r∧r.length=8*n:=by
 match l,h with
 | a::b::c::d::e::f::g::i::r,h=>exact ⟨a,b,c,d,e,f,g,i,r,rfl,by simp only [List.length_cons] at h;omega⟩
 | [],h=>simp only [List.length_cons,List.length_nil] at h;omega
 | [_],h=>simp only [List.length_cons,List.length_nil] at h;omega
 | [_,_],h=>simp only [List.length_cons,List.length_nil] at h;omega
 | [_,_,_],h=>simp only [List.length_cons,List.length_nil] at h;omega
 | [_,_,_,_],h=>simp only [List.length_cons,List.length_nil] at h;omega
 | [_,_,_,_,_],h=>simp only [List.length_cons,List.length_nil] at h;omega
 | [_,_,_,_,_,_],h=>simp only [List.length_cons,List.length_nil] at h;omega
 | [_,_,_,_,_,_,_],h=>simp only [List.length_cons,List.length_nil] at h;omega
theorem xF {x y z w:Nat} (hx:x<256) (hy:y<256) (hz:z<256) (hw:w<256):jk [x,y,z,w]<4294967296:=by
 simp only [jk,List.foldl];omega
theorem t9: ∀(n:Nat) (l:List Nat),l.length=8*n→(ev l).length=n∧(od l).length=n∧(sd l).length=n
 | 0,l,h=>by have:l=[]:=List.eq_nil_of_length_eq_zero (by omega);subst this;exact ⟨rfl,rfl,rfl⟩
 | n+1,l,h=>by
  obtain ⟨a,b,c,d,e,f,g,i,r,rfl,hr⟩:=uT h
  obtain ⟨h1,h2,h3⟩:=t9 n r hr
  simp only [ev,od,sd,List.length_cons,h1,h2,h3];exact ⟨trivial,trivial,trivial⟩
theorem An: ∀(n:Nat) (l:List Nat),l.length=8*n→(∀x∈l,x<256)→(∀x∈ev l,x<4294967296)∧(∀x∈od l,x<4294967296)∧(∀x∈sd l,x<4294967296)
 | 0,l,h,_=>by have:l=[]:=List.eq_nil_of_length_eq_zero (by omega);subst this;simp [ev,od,sd]
 | n+1,l,h,hl=>by
  obtain ⟨a,b,c,d,e,f,g,i,r,rfl,hr⟩:=uT h
  obtain ⟨h1,h2,h3⟩:=An n r hr (fun x hx=>hl x (by simp [hx]))
  have ha:=hl a (by simp);have hb:=hl b (by simp);have hc:=hl c (by simp);have hd:=hl d (by simp)
  have he:=hl e (by simp);have hf:=hl f (by simp);have hg:=hl g (by simp);have hi:=hl i (by simp)
  refine ⟨?_,?_,?_⟩
  ·intro v hv
   rcases List.mem_cons.1 hv with rfl | hv
   ·exact xF hd hc hb ha
   ·exact h1 v hv
  ·intro v hv
   rcases List.mem_cons.1 hv with rfl | hv
   ·exact xF hi hg hf he
   ·exact h2 v hv
  ·intro v hv
   rcases List.mem_cons.1 hv with rfl | hv
   ·exact Rc _
   ·exact h3 v hv
def ka (E:List Nat) (i:Nat):Nat:=hN E (2*i*16843009)
def kb (O:List Nat) (i:Nat):Nat:=kz (hN O ((2*i+1)*16843009)) 8
def kc (E O:List Nat) (i:Nat):Nat:=kz (wa (ka E i) (wa (kb O i) (kb O i))) 9
def ks (E O:List Nat):Nat→Nat→List Nat
 | _,0=>[]
 | i,d+1=>wa (ka E i) (kb O i)::kc E O i::ks E O (i+1) d
theorem Hq (W:List Nat) (x:Nat):hN W x<4294967296:=by
 have h:=rS (Lr (RX W (min W.length 4) (wb x))).reverse (fun x hx=>(Aj _).2 x (by simpa using hx))
 rw [List.length_reverse,(Aj _).1] at h
 exact h
theorem Rh (E O:List Nat) (i:Nat):kc E O i<4294967296:=jD (gk _ _)
theorem jc (E O:List Nat): ∀d i,(ks E O i d).length=2*d
 | 0,_=>rfl
 | d+1,i=>by simp only [ks,List.length_cons,jc E O d];omega
theorem Lu (E O:List Nat): ∀d i,∀x∈ks E O i d,x<4294967296
 | 0,_=>by simp [ks]
 | d+1,i=>by
  intro x hx
  rcases List.mem_cons.1 hx with rfl | hx
  ·exact gk _ _
  rcases List.mem_cons.1 hx with rfl | hx
  ·exact Rh _ _ _
  ·exact Lu E O d _ x hx
theorem sg (x:Nat):fv (2*(x:Int))=((wa x x:Nat):Int):=by
 rw [show 2*(x:Int)=((x:Int)+(x:Int)) by omega,fL]
theorem No {S:List Nat} (h:S.length=2∨S.length=3∨S.length=4) {k:Nat} (hk:20≤k):aw.f k (il S)=some (il S.reverse):=by
 obtain ⟨k,rfl⟩: ∃j,k=j+20:=⟨k-20,by omega⟩
 match S,h with
 | [a,b],_=>
  show aw.f (k+20) [(a:Int),(b:Int)]=some [(b:Int),(a:Int)]
  kernel_rfl
 | [a,b,c],_=>
  show aw.f (k+20) [(a:Int),(b:Int),(c:Int)]=some [(c:Int),(b:Int),(a:Int)]
  kernel_rfl
 | [a,b,c,d],_=>
  show aw.f (k+20) [(a:Int),(b:Int),(c:Int),(d:Int)]=some [(d:Int),(c:Int),(b:Int),(a:Int)]
  kernel_rfl
 | [],h=>simp at h
 | [_],h=>simp at h
 | _::_::_::_::_::_,h=>simp at h
theorem Hr {S:List Nat} (h:S.length≤100) {k:Nat}:bI.f k (il S)=some (il S):=by
 unfold bI.f gd
 rw [if_pos (by rw [decide_eq_true_eq,ag,List.length_nil];omega),List.nil_append]
theorem Ri {a b c d k:Nat} (ha:a<256) (hb:b<256) (hc:c<256) (hd:d<256) (hk:20≤k):fj.f k (il [a,b,c,d])=some (((jk [d,c,b,a]:Nat):Int),true):=
 RY (x:=[a,b,c,d]) ⟨rfl,by intro v hv;simp at hv;omega⟩ (by omega)
theorem p0 {n:Nat}: ∀ {m E O S:List Nat} {k:Nat},m.length=8*n→(∀x∈m,x<256)→E.length+n<1000→O.length+n<1000→S.length+n<1000→120≤k→
 bm.l0 (k+n+1) (il S) (il E) (il O) (il m)=(aw.f k (il (S++sd m))).bind fun t=>bm.l1 k t (il (E++ev m)) (il (O++od m)) ([]:List Int) 0:=by
 induction n with
 | zero=>
  intro m E O S k h hm hE hO hS hk
  have:m=[]:=List.eq_nil_of_length_eq_zero (by omega)
  subst this
  show bm.l0 (k+1) _ _ _ _=_
  rw [bm.l0,if_neg (by decide)]
  simp only [ev,od,sd,List.append_nil]
 | succ n ih=>
  intro m E O S k h hm hE hO hS hk
  obtain ⟨a,b,c,d,e,f,g,i,r,rfl,hr⟩:=uT h
  have ha:=hm a (by simp);have hb:=hm b (by simp);have hc:=hm c (by simp);have hd:=hm d (by simp)
  have he:=hm e (by simp);have hf:=hm f (by simp);have hg:=hm g (by simp);have hi:=hm i (by simp)
  obtain ⟨M,eM⟩: ∃M,M=a::b::c::d::e::f::g::i::r:=⟨_,rfl⟩
  have hl:(il M).length=8*(n+1):=by rw [ag,eM];exact h
  have e0:(il M).take 4=il [a,b,c,d]:=by rw [eM];rfl
  have e1:((il M).take 8).drop 4=il [e,f,g,i]:=by rw [eM];rfl
  have e2:(il M).take 8=il [a,b,c,d,e,f,g,i]:=by rw [eM];rfl
  have e3:(il M).drop 8=il r:=by rw [eM];rfl
  have l0:=Ri (k:=k+n+1) ha hb hc hd (by omega)
  have l1:=Ri (k:=k+n+1) he hf hg hi (by omega)
  have l2:=Ec (m:=[a,b,c,d,e,f,g,i]) (k:=k+n+1) ⟨rfl,by intro v hv;simp at hv;omega⟩ (by omega)
  have c0:decide (((il M).length:Int)>0)=true:=by rw [decide_eq_true_eq];omega
  have c4:decide (4≤((il M).length:Int))=true:=by rw [decide_eq_true_eq];omega
  have c8:decide (8≤((il M).length:Int))=true:=by rw [decide_eq_true_eq];omega
  have cx: ∀(v:Int) (X:List Nat),X.length+(n+1)<1000→decide ((il X).length+[v].length≤1000000000)=true:=fun v X hX=>by
   rw [decide_eq_true_eq,ag];simp only [List.length_cons,List.length_nil];omega
  have ih':=ih (m:=r) (E:=E++[jk [d,c,b,a]]) (O:=O++[jk [i,g,f,e]]) (S:=S++[fd [a,b,c,d,e,f,g,i]]) (k:=k) hr (fun x hx=>hm x (by simp [hx])) (by simp;omega) (by simp;omega) (by simp;omega) hk
  rw [gF,gF,gF] at ih'
  rw [←eM]
  show bm.l0 (k+n+1+1) _ _ _ _=_
  rw [bm.l0,if_pos c0]
  unfold gd
  rw [if_pos c4,e0,l0,Option.bind_some,if_pos c8,e1,l1,Option.bind_some,if_pos (cx _ _ hE),if_pos (cx _ _ hO),if_pos c8,e2,l2,Option.bind_some,if_pos (cx _ _ hS),if_pos c8,e3]
  refine Eq.trans ih' ?_
  rw [eM]
  simp only [ev,od,sd,List.append_assoc,List.cons_append,List.nil_append]
theorem p1 {E O:List Nat} (hE: ∀v∈E,v<4294967296) (hO: ∀v∈O,v<4294967296) {S:List Nat} (hS:S.length≤100) (d:Nat): ∀ {i k:Nat} {K:List Nat},i+d=19→K.length=2*i→220≤k→
 bm.l1 (k+d+1) (il S) (il E) (il O) (il K) (i:Int)=some (il (K++ks E O i (d+1)),il S,0):=by
 induction d with
 | zero=>
  intro i k K hi hK hk
  have:i=19:=by omega
  subst this
  have x0:fv ((fv (2*((19:Nat):Int)))*16843009)=((2*19*16843009:Nat):Int):=by decide
  have x1:fv ((fv ((fv (2*((19:Nat):Int)))+1))*16843009)=(((2*19+1)*16843009:Nat):Int):=by decide
  have h0:=Eb hE (x:=2*19*16843009) (k:=k) (by decide) (by omega)
  have h1:=Eb hO (x:=(2*19+1)*16843009) (k:=k) (by decide) (by omega)
  have r0:=j0 (k:=k) (Hq O ((2*19+1)*16843009)) 8
  have r1:=j0 (k:=k) (gk (ka E 19) (wa (kb O 19) (kb O 19))) 9
  have c1: ∀u v:Int,decide ((il K).length+[u,v].length≤1000000000)=true:=fun u v=>by
   rw [decide_eq_true_eq,ag,hK];simp only [List.length_cons,List.length_nil];omega
  have e1:il K++[fv ((ka E 19:Int)+(kb O 19:Int)),((kc E O 19:Nat):Int)]=il (K++ks E O 19 1):=by
   rw [gF,fL];rfl
  show bm.l1 (k+1) _ _ _ _ _=_
  rw [bm.l1]
  unfold gd
  rw [x0,h0,Option.bind_some,x1,h1,Option.bind_some,r0,Option.bind_some]
  show (bF.f k (fv ((ka E 19:Int)+(fv (2*(kb O 19:Int))))) 9).bind _=_
  rw [sg,fL,r1,Option.bind_some,if_pos (c1 _ _),if_neg (by decide)]
  show (bI.f k (il K++[fv ((ka E 19:Int)+(kb O 19:Int)),((kc E O 19:Nat):Int)])).bind _=_
  rw [e1,Hr (by rw [List.length_append,jc,hK];decide),Option.bind_some,Hr hS,Option.bind_some]
 | succ d ih=>
  intro i k K hi hK hk
  have hi19:i<19:=by omega
  have x0:fv ((fv (2*(i:Int)))*16843009)=((2*i*16843009:Nat):Int):=by
   have:fv (2*(i:Int))=((2*i:Nat):Int):=by rw [kD];omega
   rw [this,kD];omega
  have x1:fv ((fv ((fv (2*(i:Int)))+1))*16843009)=(((2*i+1)*16843009:Nat):Int):=by
   have:fv (2*(i:Int))=((2*i:Nat):Int):=by rw [kD];omega
   have h2:fv (((2*i:Nat):Int)+1)=((2*i+1:Nat):Int):=by rw [kD];omega
   rw [this,h2,kD];omega
  have x2:fv ((i:Int)+1)=((i+1:Nat):Int):=by rw [kD];omega
  have h0:=Eb hE (x:=2*i*16843009) (k:=k+d+1) (by omega) (by omega)
  have h1:=Eb hO (x:=(2*i+1)*16843009) (k:=k+d+1) (by omega) (by omega)
  have r0:=j0 (k:=k+d+1) (Hq O ((2*i+1)*16843009)) 8
  have r1:=j0 (k:=k+d+1) (gk (ka E i) (wa (kb O i) (kb O i))) 9
  have c1: ∀u v:Int,decide ((il K).length+[u,v].length≤1000000000)=true:=fun u v=>by
   rw [decide_eq_true_eq,ag,hK];simp only [List.length_cons,List.length_nil];omega
  have e1:il K++[fv ((ka E i:Int)+(kb O i:Int)),((kc E O i:Nat):Int)]=il (K++ks E O i 1):=by
   rw [gF,fL];rfl
  show bm.l1 (k+d+1+1) _ _ _ _ _=_
  rw [bm.l1]
  unfold gd
  rw [x0,h0,Option.bind_some,x1,h1,Option.bind_some,r0,Option.bind_some]
  show (bF.f (k+d+1) (fv ((ka E i:Int)+(fv (2*(kb O i:Int))))) 9).bind _=_
  rw [sg,fL,r1,Option.bind_some,if_pos (c1 _ _),x2,if_pos (by rw [decide_eq_true_eq];omega)]
  show bm.l1 (k+d+1) (il S) (il E) (il O) (il K++[fv ((ka E i:Int)+(kb O i:Int)),((kc E O i:Nat):Int)]) ((i+1:Nat):Int)=_
  rw [e1,ih (by omega) (by rw [List.length_append,jc,hK];omega) hk]
  simp only [ks,List.append_assoc,List.cons_append,List.nil_append]
theorem xG {m:List Nat} {n:Nat} (h:m.length=8*n) (hn:n=2∨n=3∨n=4) (hm: ∀x∈m,x<256) {k:Nat} (hk:300≤k):
 bm.l0 k ([]:List Int) ([]:List Int) ([]:List Int) (il m)=some (il (ks (ev m) (od m) 0 20),il (sd m).reverse,0):=by
 obtain ⟨k,rfl⟩: ∃j,k=j+20+n+1:=⟨k-20-n-1,by omega⟩
 obtain ⟨l1,l2,l3⟩:=t9 n m h
 obtain ⟨b1,b2,b3⟩:=An n m h hm
 have e:=p0 (E:=[]) (O:=[]) (S:=[]) (k:=k+20) h hm (by simp;omega) (by simp;omega) (by simp;omega) (by omega)
 refine Eq.trans e ?_
 simp only [List.nil_append]
 rw [No (by omega) (by omega),Option.bind_some]
 have f:=p1 b1 b2 (S:=(sd m).reverse) (by rw [List.length_reverse];omega) 19 (i:=0) (k:=k) (K:=[]) (by omega) rfl (by omega)
 exact f
theorem JH {m:List Nat} {n:Nat} (h:m.length=8*n) (hn:n=2∨n=3∨n=4) (hm: ∀x∈m,x<256) {k:Nat} (hk:300≤k):
 bm.f k (il m)=some (il (ks (ev m) (od m) 0 20),il (sd m).reverse,0):=by
 unfold bm.f
 rw [ag,h]
 rcases hn with rfl | rfl | rfl
 ·rw [if_neg (by decide)];exact xG h (by omega) hm hk
 ·rw [if_pos (by decide),if_neg (by decide)];exact xG h (by omega) hm hk
 ·rw [if_pos (by decide),if_pos (by decide),if_neg (by decide)];exact xG h (by omega) hm hk
theorem Np {k:Nat} (a b c d:Int) (hk:20≤k):bH.f k [a,b,c,d]=ez.f k [d,c,b,a]:=by
 obtain ⟨j,rfl⟩: ∃j,k=j+20:=⟨k-20,by omega⟩
 kernel_rfl
theorem xH {a b c d k:Nat} (ha:a<256) (hb:b<256) (hc:c<256) (hd:d<256) (hk:20≤k):bH.f k (il [a,b,c,d])=some ((jk [d,c,b,a]:Nat):Int):=by
 have q:=Np (k:=k) (a:Int) (b:Int) (c:Int) (d:Int) hk
 refine Eq.trans q ?_
 exact tR (l:=[d,c,b,a]) (k:=k) (by intro v hv;simp at hv;omega) (by simp) (by omega)
theorem dt (l:List Nat) (i n:Nat):((il l).take (i+n)).drop i=il ((l.drop i).take n):=by
 rw [nv,tQ,List.drop_take];congr 2;omega
theorem TF {M:List Nat} (hM: ∀x∈M,x<256) (hML:M.length<1000) {n:Nat}: ∀ {E O S:List Nat} {i k:Nat},(M.drop i).length=8*n→i≤M.length→E.length+n<1000→O.length+n<1000→S.length+n<1000→120≤k→
 aQ.l0 (k+n+1) (il M) (il E) (il O) (il S) (i:Int)=aQ.l1 k (il (E++ev (M.drop i))) (il (O++od (M.drop i))) (il ((sd (M.drop i)).reverse++S)) ([]:List Int) 0:=by
 induction n with
 | zero=>
  intro E O S i k h hiM hE hO hS hk
  have e0:M.drop i=[]:=List.eq_nil_of_length_eq_zero (by omega)
  have e1:M.length≤i:=by rw [List.length_drop] at h;omega
  rw [e0]
  show aQ.l0 (k+1) _ _ _ _ _=_
  rw [aQ.l0,if_neg (by rw [decide_eq_true_eq,ag];omega)]
  simp only [ev,od,sd,List.append_nil,List.reverse_nil,List.nil_append]
 | succ n ih=>
  intro E O S i k h hiM hE hO hS hk
  obtain ⟨a,b,c,d,e,f,g,t,r,eD,hr⟩:=uT h
  have hD: ∀x∈a::b::c::d::e::f::g::t::r,x<256:=fun x hx=>hM x (List.mem_of_mem_drop (by rw [eD];exact hx))
  have ha:=hD a (by simp);have hb:=hD b (by simp);have hc:=hD c (by simp);have hd:=hD d (by simp)
  have he:=hD e (by simp);have hf:=hD f (by simp);have hg:=hD g (by simp);have ht:=hD t (by simp)
  have hL:M.length=i+8*(n+1):=by rw [List.length_drop] at h;omega
  have s4:ak ((i:Int)+4)=((i+4:Nat):Int):=au (n:=i+4) (by omega)
  have s8:ak ((i:Int)+8)=((i+8:Nat):Int):=au (n:=i+8) (by omega)
  have d4:M.drop (i+4)=e::f::g::t::r:=by rw [←List.drop_drop,eD];rfl
  have d8:M.drop (i+8)=r:=by rw [←List.drop_drop,eD];rfl
  have e0:((il M).take (((i+4:Nat):Int)).toNat).drop ((i:Int)).toNat=il [a,b,c,d]:=by rw [Int.toNat_natCast,Int.toNat_natCast,dt,eD];rfl
  have e1:((il M).take (((i+8:Nat):Int)).toNat).drop (((i+4:Nat):Int)).toNat=il [e,f,g,t]:=by
   rw [Int.toNat_natCast,Int.toNat_natCast,show i+8=i+4+4 from rfl,dt,d4];rfl
  have e2:((il M).take (((i+8:Nat):Int)).toNat).drop ((i:Int)).toNat=il [a,b,c,d,e,f,g,t]:=by rw [Int.toNat_natCast,Int.toNat_natCast,dt,eD];rfl
  have l0:=xH (k:=k+n+1) ha hb hc hd (by omega)
  have l1:=xH (k:=k+n+1) he hf hg ht (by omega)
  have l2:=JF (m:=[a,b,c,d,e,f,g,t]) (k:=k+n+1) ⟨rfl,by intro v hv;simp at hv;omega⟩ (by omega)
  have w0:fv ((jk [d,c,b,a]:Nat):Int)=((jk [d,c,b,a]:Nat):Int):=by rw [kI,Nat.mod_eq_of_lt (xF hd hc hb ha)]
  have w1:fv ((jk [t,g,f,e]:Nat):Int)=((jk [t,g,f,e]:Nat):Int):=by rw [kI,Nat.mod_eq_of_lt (xF ht hg hf he)]
  have ci:decide ((i:Int)<((il M).length:Int))=true:=by rw [decide_eq_true_eq,ag];omega
  have c0: ∀z:Nat,decide (0≤(z:Int))=true:=fun z=>by rw [decide_eq_true_eq];omega
  have c1: ∀y z:Nat,y≤z→decide ((y:Int)≤(z:Int))=true:=fun y z hz=>by rw [decide_eq_true_eq];omega
  have cx: ∀(v:Int) (X:List Nat),X.length+(n+1)<1000→decide ((il X).length+[v].length≤1000000000)=true:=fun v X hX=>by
   rw [decide_eq_true_eq,ag];simp only [List.length_cons,List.length_nil];omega
  have cy: ∀(v:Int) (X:List Nat),X.length+(n+1)<1000→decide ([v].length+(il X).length≤1000000000)=true:=fun v X hX=>by
   rw [decide_eq_true_eq,ag];simp only [List.length_cons,List.length_nil];omega
  have ih':=ih (E:=E++[jk [d,c,b,a]]) (O:=O++[jk [t,g,f,e]]) (S:=fd [a,b,c,d,e,f,g,t]::S) (i:=i+8) (k:=k) (by rw [d8];exact hr) (by omega) (by simp;omega) (by simp;omega) (by simp;omega) hk
  rw [gF,gF] at ih'
  show aQ.l0 (k+n+1+1) _ _ _ _ _=_
  have i4:((i+4:Nat):Int)≤((il M).length:Int):=by rw [ag];omega
  have i8:((i+8:Nat):Int)≤((il M).length:Int):=by rw [ag];omega
  have k4:decide (((i+4:Nat):Int)≤((il M).length:Int))=true:=by rw [decide_eq_true_eq];exact i4
  have k8:decide (((i+8:Nat):Int)≤((il M).length:Int))=true:=by rw [decide_eq_true_eq];exact i8
  rw [aQ.l0,if_pos ci]
  unfold gd
  rw [if_pos (c0 _),s4,s8,if_pos (c1 _ _ (by omega)),if_pos k4,e0,l0,Option.bind_some,w0,if_pos (cx _ _ hE),if_pos (c0 _),if_pos (c1 _ _ (by omega)),if_pos k8,e1,l1,Option.bind_some,w1,if_pos (cx _ _ hO),if_pos (c0 _),if_pos (c1 _ _ (by omega)),if_pos k8,e2,l2,Option.bind_some,if_pos (cy _ _ hS)]
  refine Eq.trans ih' ?_
  rw [d8,eD]
  simp only [ev,od,sd,List.append_assoc,List.cons_append,List.nil_append,List.reverse_cons]
theorem TG {E O:List Nat} (hE:2≤E.length∧E.length≤4) (hO:2≤O.length∧O.length≤4) {S:List Nat} (d:Nat): ∀ {i k:Nat} {K:List Nat},i+d=20→K.length=2*i→220≤k→
 aQ.l1 (k+d+1) (il E) (il O) (il S) (il K) (i:Int)=some (il (K++ks E O i d),il S,0):=by
 induction d with
 | zero=>
  intro i k K hi hK hk
  have:i=20:=by omega
  subst this
  show aQ.l1 (k+1) _ _ _ _ _=_
  rw [aQ.l1,if_neg (by decide)]
  simp only [ks,List.append_nil]
 | succ d ih=>
  intro i k K hi hK hk
  have hi19:i<20:=by omega
  have y0:ak (2*(i:Int))=((2*i:Nat):Int):=au (n:=2*i) (by omega)
  have y1:ak (((2*i:Nat):Int)+1)=((2*i+1:Nat):Int):=au (n:=2*i+1) (by omega)
  have x0:fv ((fv ((2*i:Nat):Int))*16843009)=((2*i*16843009:Nat):Int):=by
   have:fv ((2*i:Nat):Int)=((2*i:Nat):Int):=by rw [kD];omega
   rw [this,kD];omega
  have x1:fv ((fv ((2*i+1:Nat):Int))*16843009)=(((2*i+1)*16843009:Nat):Int):=by
   have h2:fv ((2*i+1:Nat):Int)=((2*i+1:Nat):Int):=by rw [kD];omega
   rw [h2,kD];omega
  have x2:ak ((i:Int)+1)=((i+1:Nat):Int):=au (n:=i+1) (by omega)
  have h0:=CO hE.1 hE.2 (x:=2*i*16843009) (k:=k+d+1) (by omega)
  have h1:=CO hO.1 hO.2 (x:=(2*i+1)*16843009) (k:=k+d+1) (by omega)
  have r0:=kC (k:=k+d+1) (Hq O ((2*i+1)*16843009)) 8
  have r1:=kC (k:=k+d+1) (gk (ka E i) (wa (kb O i) (kb O i))) 9
  have c1: ∀u v:Int,decide ((il K).length+[u,v].length≤1000000000)=true:=fun u v=>by
   rw [decide_eq_true_eq,ag,hK];simp only [List.length_cons,List.length_nil];omega
  have e1:il K++[fv ((ka E i:Int)+(kb O i:Int)),((kc E O i:Nat):Int)]=il (K++ks E O i 1):=by
   rw [gF,fL];rfl
  show aQ.l1 (k+d+1+1) _ _ _ _ _=_
  rw [aQ.l1,if_pos (by rw [decide_eq_true_eq];omega)]
  unfold gd
  rw [y0,y1,x0,h0,Option.bind_some,x1,h1,Option.bind_some,r0,Option.bind_some]
  show (aH.f (k+d+1) (fv ((ka E i:Int)+(fv (2*(kb O i:Int))))) 9).bind _=_
  rw [sg,fL,r1,Option.bind_some,if_pos (c1 _ _),x2]
  show aQ.l1 (k+d+1) (il E) (il O) (il S) (il K++[fv ((ka E i:Int)+(kb O i:Int)),((kc E O i:Nat):Int)]) ((i+1:Nat):Int)=_
  rw [e1,ih (by omega) (by rw [List.length_append,jc,hK];omega) hk]
  simp only [ks,List.append_assoc,List.cons_append,List.nil_append]
theorem uX {m:List Nat} {n:Nat} (h:m.length=8*n) (hn:n=2∨n=3∨n=4) (hm: ∀x∈m,x<256) {k:Nat} (hk:300≤k):
 aQ.l0 k (il m) ([]:List Int) ([]:List Int) ([]:List Int) 0=some (il (ks (ev m) (od m) 0 20),il (sd m).reverse,0):=by
 obtain ⟨k,rfl⟩: ∃j,k=j+21+n+1:=⟨k-21-n-1,by omega⟩
 obtain ⟨l1,l2,l3⟩:=t9 n m h
 have e:=TF hm (by omega) (E:=[]) (O:=[]) (S:=[]) (i:=0) (n:=n) (k:=k+21) (by rw [List.drop_zero];exact h) (by omega) (by simp;omega) (by simp;omega) (by simp;omega) (by omega)
 refine Eq.trans e ?_
 simp only [List.nil_append,List.append_nil,List.drop_zero]
 have f:=TG (E:=ev m) (O:=od m) (by omega) (by omega) (S:=(sd m).reverse) 20 (i:=0) (k:=k) (K:=[]) (by omega) rfl (by omega)
 exact f
theorem Hs {m:List Nat} {n:Nat} (h:m.length=8*n) (hn:n=2∨n=3∨n=4) (hm: ∀x∈m,x<256) {k:Nat} (hk:300≤k):
 aQ.f k (il m)=some (il (ks (ev m) (od m) 0 20),il (sd m).reverse,0):=by
 unfold aQ.f
 rw [ag,h]
 rcases hn with rfl | rfl | rfl
 ·rw [if_neg (by decide)];exact uX h (by omega) hm hk
 ·rw [if_pos (by decide),if_neg (by decide)];exact uX h (by omega) hm hk
 ·rw [if_pos (by decide),if_pos (by decide),if_neg (by decide)];exact uX h (by omega) hm hk
end Go.Scr.S.Tw
