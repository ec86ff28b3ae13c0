/- Functions that the law reaches, as plain functions, and that each call answers so: a cipher's block. -/
import Derived.Test.YtdemmfohkhpklaaGreatDoorXF
import Derived.Test.YtdemmfohkhpklaaGreatDoorFa
set_option linter.unusedVariables false
set_option linter.unusedSimpArgs false
set_option maxRecDepth 100000
set_option maxHeartbeats 8000000
namespace Go.Scr.S
variable {k np0 cp0 np1 cp1 np2 cp2 np3 cp3 np4 cp4:Nat} {Ap0 Ap1 Ap2 Ap3 Ap4:Option Addr} {w w0:World} {FT:List Ent} {Zm Zp0 Zp1 Zp2 Zp3:Zp}
open Go.RowKit (Below)
open Go.Proofs.Tryz (prog f21 func21 f22 func22 f30 func30 f32 func32 f59 func59 f61 func61 f63 func63 f65 func65 f67 func67 f72 func72 f91 func91 f92 func92 f93 func93 f96 func96 f100 func100 f101 func101 f113 func113 f114 func114 f115 func115 f116 func116 f138 func138 f139 func139 f140 func140 f145 func145 f158 func158 f159 func159 f160 func160 f181 func181 f182 func182 f183 func183 f184 func184 f195 func195 f196 func196 f197 func197)
def Y0.f (k:Nat) (a0:List SlV):Option (List SlV):=gd (([]:List SlV).length+a0.length≤1000000000) (some (([]:List SlV)++a0))
theorem Y0.calls {a0:List SlV} {r:List SlV} (hr0:Rd w (.slice Ap0 np0 cp0) (ones a0)) (h:Y0.f k a0=some r):Calls prog 91 #[(.slice Ap0 np0 cp0)] w (Ret fun v w'=> ∃A0' c0',v= .slice A0' r.length c0'∧Mem w w' (Gs [⟨.slice A0' r.length c0',22,1,ones r⟩] [])):=by
 obtain rfl:=hr0.lo
 unfold Y0.f at h
 refine calls_S func91 ?_
 have M:=Mem.r0 w
 refine .gq 8 ?_
 rcases (hr0.mono M.below).isnil with ⟨rfl,hn_⟩ | ⟨a1,rfl⟩
 ·obtain rfl:a0=[]:=by simpa [nums,bools,strs,ones] using hn_
  replace h:(some ([]:List SlV))=some r:=by simpa using h
  refine .gq 7 ?_
  replace M:=M.n1 22
  obtain rfl:=sj h
  exact .ret func91 ⟨none,0,rfl,(M.pm [0] [])⟩
 ·refine .gq 6<| .new 22 1 0 (ones []) M fun g2 W3 M=> .gq 1 ?_
  obtain ⟨c8,h⟩:=ifd h
  refine .ao M 0 rfl (hr0.mono M.below) c8 fun A5 c6 W7 M=> .gq 2 ?_
  obtain rfl:=sj h
  exact .ret func91 ⟨A5,c6,rfl,(M.pm [0] [])⟩
theorem Y0.rows {cs:List Value} {A:Option Addr} {n c:Nat} {w:World} (hr:Rd w (.slice A n c) cs) (hq: ∃ys:List SlV,cs=ones ys) (hl:cs.length≤1000000000):
  Calls prog 91 #[.slice A n c] w (Ret fun v w'=> ∃A0' c0',v= .slice A0' cs.length c0'∧Mem w w' (Gs [⟨.slice A0' cs.length c0',22,1,cs⟩] [])):=by
 obtain ⟨ys,rfl⟩:=hq
 rw [ones_length] at hl
 rw [ones_length]
 exact Y0.calls (k:=0) (a0:=ys) (r:=ys) hr (by unfold Y0.f gd;rw [if_pos (by rw [decide_eq_true_eq,List.length_nil];omega)];rfl)
def Y9.l0:Nat→(List SlV)→(List SlV)→Int→Int→Option (List SlV)
 | 0,_,_,_,_=>none
 | k+1,a0,x0_0,x2_0,x3_0=>if (decide (x2_0<x3_0))=true then (gd (0≤x3_0) (gd (x3_0<(a0.length:Int)) (gd (0≤x2_0) (gd (x2_0<(a0.length:Int)) (gd (0≤x2_0) (gd (x2_0<(a0.length:Int)) (gd (0≤x3_0) (gd (x3_0<(a0.length:Int)) (Y9.l0 k a0 ((x0_0.set (x2_0:Int).toNat (rdo x0_0 x3_0)).set (x3_0:Int).toNat (rdo x0_0 x2_0)) (I64 (x2_0+1)) (I64 (x3_0-1))))))))))) else (some x0_0)
def Y9.f (k:Nat) (a0:List SlV):Option (List SlV):=Y9.l0 k a0 a0 0 (I64 ((a0.length:Int)-1))
abbrev Y9.R (Ap0:Option Addr) (cp0:Nat) (a0:List SlV) (r:List SlV) (w0:World) (FT:List Ent):Value→World→Prop:=fun v w'=>v= .tuple #[]∧Mem w0 w' (Gs [⟨.slice Ap0 a0.length cp0,22,1,ones r⟩] [FT])
theorem Y9.calls {a0:List SlV} {r:List SlV} (M0:Mem w0 w (Gs [⟨.slice Ap0 np0 cp0,22,1,ones a0⟩] [FT])) (h:Y9.f k a0=some r):Calls prog 92 #[(.slice Ap0 np0 cp0)] w (Ret (Y9.R Ap0 cp0 a0 r w0 FT)):=by
 obtain rfl:=(M0.or 0).lo
 unfold Y9.f at h
 refine calls_S func92 ?_
 have M:=M0
 refine .gq 10 ?_
 have l0: ∀k_≤k,∀(x0_0:List SlV) (x2_0:Int) (x3_0:Int) {W:World} (M:Mem w0 W (Gs [⟨.slice Ap0 a0.length cp0,22,1,ones x0_0⟩] [FT])) (h:Y9.l0 k_ a0 x0_0 x2_0 x3_0=some r),RL 92 f92 (Y9.R Ap0 cp0 a0 r w0 FT) [1,0,0] [(0,.slice Ap0 a0.length cp0),(2,.i x2_0),(3,.i x3_0)] W:=by
  refine loopI (by intros;rename_i h;simp [Y9.l0] at h) fun k hk ih0 x0_0 x2_0 x3_0 W M h=> ?_
  simp only [Y9.l0] at h
  refine .gq 7 ?_
  rcases ift h with ⟨c2,h⟩ | ⟨c2,h⟩
  ·refine .kn 9 c2<| .gq 4<| .at (show RL 92 f92 (Y9.R Ap0 cp0 a0 r w0 FT) [1,0,0,1,0,0] [(0,.slice Ap0 a0.length cp0),(2,.i x2_0),(3,.i x3_0)] _ from .dr [0] M fun W3 M=> ?_)
   refine .pz tr [0,1,2,3,4,5] ?_
   obtain ⟨c5,h⟩:=ifd h
   obtain ⟨c6,h⟩:=ifd h
   obtain ⟨pq4,Cq4⟩:=M.oa 0 rfl c5 c6
   refine .ix tr 6 Cq4<| .pz tr [8,9] ?_
   obtain ⟨c8,h⟩:=ifd h
   obtain ⟨c9,h⟩:=ifd h
   obtain ⟨pq7,Cq7⟩:=M.oa 0 rfl c8 c9
   refine .ix tr 10 Cq7 ?_
   have J10:RJ 92 f92 (Y9.R Ap0 cp0 a0 r w0 FT) [1,0,0,1,0,0] w0 [⟨.slice Ap0 a0.length cp0,22,1,ones x0_0⟩] [FT] [0] ([0,1,2,3,4,5,6,8,9,10,7,11],[(0,.slice Ap0 a0.length cp0),(2,.i x2_0),(3,.i x3_0),(14,.slice Ap0 a0.length cp0),(15,.i x2_0),(16,.slice Ap0 a0.length cp0),(17,.i x3_0),(18,.slice Ap0 a0.length cp0),(19,.i x3_0),(20,.pointer (some pq4)),(21,sv (rdo x0_0 x3_0)),(22,.slice Ap0 a0.length cp0),(23,.i x2_0),(24,.pointer (some pq7)),(25,sv (rdo x0_0 x2_0))]):=by
    intro W11 M
    obtain ⟨c13,h⟩:=ifd h
    obtain ⟨c14,h⟩:=ifd h
    obtain ⟨pq12,Cq12⟩:=M.oa 0 rfl c13 c14
    refine .ix tr 12 Cq12<| .a1 tr 13<| .so (rdo x0_0 x3_0) Cq12 M 0 rfl fun W15 M=> ?_
    obtain ⟨c17,h⟩:=ifd h
    obtain ⟨c18,h⟩:=ifd h
    obtain ⟨pq16,Cq16⟩:=M.oa 0 rfl c17 c18
    exact .ix tr 14 Cq16<| .a1 tr 15<| .so (rdo x0_0 x2_0) Cq16 M 0 rfl fun W19 M=> .dn tr<| .gq 10<| .at (ih0 k (by omega) ((x0_0.set (x2_0:Int).toNat (rdo x0_0 x3_0)).set (x3_0:Int).toNat (rdo x0_0 x2_0)) (I64 (x2_0+1)) (I64 (x3_0-1)) (M.pm [0] [[0]]) h)
   have J20:RJ 92 f92 (Y9.R Ap0 cp0 a0 r w0 FT) [1,0,0,1,0,0] w0 [⟨.slice Ap0 a0.length cp0,22,1,ones x0_0⟩] [FT] [0] ([0,1,2,3,4,5,6,8,9,10,11],[(0,.slice Ap0 a0.length cp0),(2,.i x2_0),(3,.i x3_0),(14,.slice Ap0 a0.length cp0),(15,.i x2_0),(16,.slice Ap0 a0.length cp0),(17,.i x3_0),(18,.slice Ap0 a0.length cp0),(19,.i x3_0),(20,.pointer (some pq4)),(22,.slice Ap0 a0.length cp0),(23,.i x2_0),(24,.pointer (some pq7)),(25,sv (rdo x0_0 x2_0))]):=by
    intro W21 M
    exact .a1 tr 7<| .lO Cq4 (M.or 0)<| .jn M [0] [[0]] (J10) rfl rfl
   have J22:RJ 92 f92 (Y9.R Ap0 cp0 a0 r w0 FT) [1,0,0,1,0,0] w0 [⟨.slice Ap0 a0.length cp0,22,1,ones x0_0⟩] [FT] [0] ([0,1,2,3,4,5,6,8,9,10,7],[(0,.slice Ap0 a0.length cp0),(2,.i x2_0),(3,.i x3_0),(14,.slice Ap0 a0.length cp0),(15,.i x2_0),(16,.slice Ap0 a0.length cp0),(17,.i x3_0),(18,.slice Ap0 a0.length cp0),(19,.i x3_0),(20,.pointer (some pq4)),(21,sv (rdo x0_0 x3_0)),(22,.slice Ap0 a0.length cp0),(23,.i x2_0),(24,.pointer (some pq7))]):=by
    intro W23 M
    exact .a1 tr 11<| .lO Cq7 (M.or 0)<| .jn M [0] [[0]] (J10) rfl rfl
   refine .a2 tr 7 11 ?_ ?_
   ·exact .lO Cq4 (M.or 0)<| .jn M [0] [[0]] (J22) rfl rfl
   ·exact .lO Cq7 (M.or 0)<| .jn M [0] [[0]] (J20) rfl rfl
  refine .kn 9 c2<| .gq 2 ?_
  obtain rfl:=sj h
  exact .ret func92 ⟨rfl,(M.pm [0] [[0]])⟩
 exact .at (l0 k k.le_refl a0 0 (I64 ((a0.length:Int)-1)) (M.pm [0] [[0]]) h)
theorem Y9.rows {cs:List Value} {A:Option Addr} {n c:Nat} {w w0:World} {FT:List Ent} (M0:Mem w0 w (Gs [⟨.slice A n c,22,1,cs⟩] [FT])) (hq: ∃ys:List SlV,cs=ones ys) (hl:cs.length=16):
  Calls prog 92 #[.slice A n c] w (Ret fun v w'=>v= .tuple #[]∧Mem w0 w' (Gs [⟨.slice A n c,22,1,cs.reverse⟩] [FT])):=by
 obtain ⟨ys,rfl⟩:=hq
 rw [ones_length] at hl
 have hn:ys.length=n:=(M0.or 0).lo
 have e:Y9.f 40 ys=some ys.reverse:=by
  match ys,hl with
  | [a,b,c,d,e,f,g,h,i,j,k,l,m,n,o,p],_=>exact Eq.trans (by kernel_rfl) (Eq.refl _)
 have q:Calls prog 92 #[.slice A n c] w (Ret fun v w'=>v= .tuple #[]∧Mem w0 w' (Gs [⟨.slice A ys.length c,22,1,ones ys.reverse⟩] [FT])):=Y9.calls (r:=ys.reverse) M0 e
 have r:(ones ys).reverse=ones ys.reverse:=by simp [ones,List.map_reverse]
 rw [hn] at q
 rw [r];exact q
def Y6.f (k:Nat) (a1:Int):Option Li:=if (decide (a1<0))=true then (none) else (if (decide ((I64 (a1-(I64 (0-0))))>0))=true then (gd (0<(I64 (a1-(I64 (0-0))))) (gd ((I64 (a1-(I64 (0-0))))≤1000000000) (some ((List.replicate (I64 (a1-(I64 (0-0))):Int).toNat (0:Int)).take (0))))) else (some ([]:Li)))
theorem Y6.calls {a1:Int} {r:Li} (h:Y6.f k a1=some r):Calls prog 72 #[.slice none 0 0,.i a1] w (Ret fun v w'=> ∃A0' c0',v= .slice A0' r.length c0'∧Mem w w' (Gs [⟨.slice A0' r.length c0',5,1,nums .u8 r⟩] [])):=by
 unfold Y6.f at h
 refine calls_S func72 ?_
 have M:=Mem.r0 w
 refine .gq 10 ?_
 obtain ⟨c1,h⟩:=ifz h
 refine .kn 6 c1<| .gq 19 ?_
 rcases ift h with ⟨c2,h⟩ | ⟨c2,h⟩
 ·refine .kn 16 c2<| .gq 5<| .yt (yl_res (A:=none) (m:=0) (c:=0) 0 (by decide) (by decide) (by decide))<| .gq 1 ?_
  obtain ⟨c6,h⟩:=ifd h
  obtain ⟨c7,h⟩:=ifd h
  refine .az 5 .u8 c6 c7 M fun g3 c4 W5 M=> .gq 2<| .rsn 0 M 0 rfl fun M=> .gq 7 ?_
  obtain rfl:=sj h
  exact .ret func72 ⟨(pa g3),c4,rfl,(M.pm [0] [])⟩
 refine .kn 16 c2<| .gq 7 ?_
 replace M:=M.n1 5
 obtain rfl:=sj h
 exact .ret func72 ⟨none,0,rfl,(M.pm [0] [])⟩
mutual
def Y3.l0:Nat→Lj→Int→Int→Option Li
 | 0,_,_,_=>none
 | k+1,a0,x3_0,x11_0=>if (decide (x11_0<(a0.length:Int)))=true then (gd (0≤x11_0) (gd (x11_0<(a0.length:Int)) ((some (I64 (x3_0+((rdr ([]:Li) a0 x11_0).length:Int)):Int)).bind fun y5=>(if (decide (y5<0))=true then (none) else (Y3.l0 k a0 y5 (I64 (x11_0+1))))))) else ((Y6.f k x3_0).bind fun t8=>(Y3.l1 k a0 t8 0))
def Y3.l1:Nat→Lj→Li→Int→Option Li
 | 0,_,_,_=>none
 | k+1,a0,x6_1,x27_1=>if (decide (x27_1<(a0.length:Int)))=true then (gd (0≤x27_1) (gd (x27_1<(a0.length:Int)) (gd (x6_1.length+(rdr ([]:Li) a0 x27_1).length≤1000000000) (Y3.l1 k a0 (x6_1++(rdr ([]:Li) a0 x27_1)) (I64 (x27_1+1)))))) else (some x6_1)
end
def Y3.f (k:Nat) (a0:Lj):Option Li:=Y3.l0 k a0 0 0
abbrev Y3.R (r:Li) (w:World):Value→World→Prop:=fun v w'=> ∃A0' c0',v= .slice A0' r.length c0'∧Mem w w' (Gs [⟨.slice A0' r.length c0',5,1,nums .u8 r⟩] [])
theorem Y3.calls {vp0:Value} {a0:Lj} {r:Li} (hp0:(rRows (rNums .u8)) Zp0 vp0 a0) (hZp0: ∀W,Kept w W→Zp0 W) (h:Y3.f k a0=some r):Calls prog 32 #[vp0] w (Ret (Y3.R r w)):=by
 obtain ⟨Ap0,cp0,cs0,rfl,hr0,hq0⟩:=hp0
 unfold Y3.f at h
 refine calls_S func32 ?_
 have M:=Mem.r0 w
 refine .gq 17 ?_
 have l0: ∀k_≤k,∀(x3_0:Int) (x11_0:Int) {W:World} (M:Mem w W (Gs [] [])) (h:Y3.l0 k_ a0 x3_0 x11_0=some r),RL 32 f32 (Y3.R r w) [1,1,0,1,0,0] [(0,.slice Ap0 a0.length cp0),(3,.i x3_0),(9,.slice Ap0 a0.length cp0),(10,.i (a0.length:Int)),(11,.i x11_0)] W:=by
  refine loopI (by intros;rename_i h;simp [Y3.l0] at h) fun k hk ih0 x3_0 x11_0 W M h=> ?_
  simp only [Y3.l0] at h
  refine .gq 5 ?_
  rcases ift h with ⟨c1,h⟩ | ⟨c1,h⟩
  ·refine .kn 12 c1<| .gq 6 ?_
   obtain ⟨c3,h⟩:=ifd h
   obtain ⟨c4,h⟩:=ifd h
   obtain ⟨uq2,huq2,hvq2⟩:=Each2.at hq0 ([]:Li) (i:=x11_0) c3 c4
   obtain ⟨Aq2,cq2,rfl,hq2⟩:=hvq2
   obtain ⟨pq2,Cq2⟩:=(hr0 _ (hZp0 _ M.kept)).cel c3 c4 huq2
   refine .ix Cq2<| .lc Cq2<| .gq 15 ?_
   let y5:Int:=I64 (x3_0+((rdr ([]:Li) a0 x11_0).length:Int))
   replace h:=bz (y:=y5) h rfl
   obtain ⟨c6,h⟩:=ifz h
   exact .kn 20 c6<| .gq 8<| .at (ih0 k (by omega) y5 (I64 (x11_0+1)) (M.pm [] []) h)
  refine .kn 12 c1<| .gq 5 ?_
  obtain ⟨t8,ht8,h⟩:=bs h
  refine .ca (Y6.calls ht8) ?_
  rintro _ W7 ⟨A9,c10,rfl,M_⟩
  replace M:=M.cg M_
  refine .gq 11 ?_
  have l1: ∀k_≤k,∀(A6_1:Option Addr) (c6_1:Nat) (x6_1:Li) (x27_1:Int) {W:World} (M:Mem w W (Gs [⟨.slice A6_1 x6_1.length c6_1,5,1,nums .u8 x6_1⟩] [])) (h:Y3.l1 k_ a0 x6_1 x27_1=some r),RL 32 f32 (Y3.R r w) [1,1,1,1,0,1,0,0] [(6,.slice A6_1 x6_1.length c6_1),(25,.slice Ap0 a0.length cp0),(26,.i (a0.length:Int)),(27,.i x27_1)] W:=by
   refine loopI (by intros;rename_i h;simp [Y3.l1] at h) fun k hk ih1 A6_1 c6_1 x6_1 x27_1 W M h=> ?_
   simp only [Y3.l1] at h
   refine .gq 5 ?_
   rcases ift h with ⟨c13,h⟩ | ⟨c13,h⟩
   ·refine .kn 28 c13<| .gq 6 ?_
    obtain ⟨c15,h⟩:=ifd h
    obtain ⟨c16,h⟩:=ifd h
    obtain ⟨uq14,huq14,hvq14⟩:=Each2.at hq0 ([]:Li) (i:=x27_1) c15 c16
    obtain ⟨Aq14,cq14,rfl,hq14⟩:=hvq14
    obtain ⟨pq14,Cq14⟩:=(hr0 _ (hZp0 _ M.kept)).cel c15 c16 huq14
    refine .ix Cq14<| .lc Cq14<| .gq 5 ?_
    obtain ⟨c20,h⟩:=ifd h
    exact .an M 0 rfl (hq14 _ (hZp0 _ M.kept)) c20 fun A17 c18 W19 M=> .gq 8<| .at (ih1 k (by omega) A17 c18 (x6_1++(rdr ([]:Li) a0 x27_1)) (I64 (x27_1+1)) (M.pm [0] []) h)
   refine .kn 28 c13<| .gq 7 ?_
   obtain rfl:=sj h
   exact .ret func32 ⟨A6_1,c6_1,rfl,(M.pm [0] [])⟩
  exact .at (l1 k k.le_refl A9 c10 t8 0 (M.pm [0] []) h)
 exact .at (l0 k k.le_refl 0 0 (M.pm [] []) h)
def Vm.l0:Nat→Li→Int→Option Li
 | 0,_,_=>none
 | k+1,x1_0,x6_0=>if (decide (x6_0<8))=true then (gd (0≤x6_0) (gd (x6_0<(8:Int)) ((some (rd ([58,60,62,64,57,59,61,63]:Li) x6_0:Int)).bind fun y10=>((Vl.f k x1_0 y10 8 0 8).bind fun t12=>(Vm.l0 k t12 (I64 (x6_0+1))))))) else (some x1_0)
def Vm.f (k:Nat):Option Li:=Vm.l0 k ([]:Li) 0
abbrev Vm.R (r:Li) (w:World):Value→World→Prop:=fun v w'=> ∃A0' c0',v= .slice A0' r.length c0'∧Mem w w' (Gs [⟨.slice A0' r.length c0',3,1,nums .i64 r⟩] [])
theorem Vm.calls {r:Li} (h:Vm.f k=some r):Calls prog 138 #[] w (Ret (Vm.R r w)):=by
 unfold Vm.f at h
 refine calls_S func138 ?_
 have M:=Mem.r0 w
 refine .gq 11<| .new 3 1 8 (nums .i64 [58,60,62,64,57,59,61,63]) M fun g1 W2 M=> .gq 5 ?_
 replace M:=M.n1 3
 have l0: ∀k_≤k,∀(A1_0:Option Addr) (c1_0:Nat) (x1_0:Li) (x6_0:Int) {W:World} (M:Mem w W (Gs [⟨.slice A1_0 x1_0.length c1_0,3,1,nums .i64 x1_0⟩,⟨.slice (pa g1) 8 8,3,1,nums .i64 [58,60,62,64,57,59,61,63]⟩] [])) (h:Vm.l0 k_ x1_0 x6_0=some r),RL 138 f138 (Vm.R r w) [1,1,0,1,0,0] [(1,.slice A1_0 x1_0.length c1_0),(4,.slice (pa g1) 8 8),(5,.i 8),(6,.i x6_0)] W:=by
  refine loopI (by intros;rename_i h;simp [Vm.l0] at h) fun k hk ih0 A1_0 c1_0 x1_0 x6_0 W M h=> ?_
  simp only [Vm.l0] at h
  refine .gq 5 ?_
  rcases ift h with ⟨c6,h⟩ | ⟨c6,h⟩
  ·refine .kn 7 c6<| .gq 6 ?_
   obtain ⟨c8,h⟩:=ifd h
   obtain ⟨c9,h⟩:=ifd h
   obtain ⟨pq7,Cq7⟩:=M.na 1 rfl c8 c9
   refine .ix Cq7<| .lc Cq7<| .gq 5 ?_
   let y10:Int:=rd ([58,60,62,64,57,59,61,63]:Li) x6_0
   replace h:=bz (y:=y10) h rfl
   obtain ⟨t12,ht12,h⟩:=bs h
   refine .ca (Vl.calls (M.fm [0] [1] [] rfl rfl rfl) ht12) ?_
   rintro _ W11 ⟨A13,c14,rfl,M_⟩
   replace M:=M_.u1
   exact .gq 8<| .at (ih0 k (by omega) A13 c14 t12 (I64 (x6_0+1)) (M.pm [0,1] []) h)
  refine .kn 7 c6<| .gq 7 ?_
  obtain rfl:=sj h
  exact .ret func138 ⟨A1_0,c1_0,rfl,(M.pm [0] [])⟩
 exact .at (l0 k k.le_refl none 0 ([]:Li) 0 (M.pm [0,1] []) h)
def Vq.l0:Nat→Li→Int→Option Li
 | 0,_,_=>none
 | k+1,x1_0,x3_0=>if (decide (x3_0<48))=true then ((some (I64 ((Int.tmod (I64 ((I64 ((I64 (4*(I64 (Int.tdiv x3_0 6))))+(Int.tmod x3_0 6)))+31)) 32)+1):Int)).bind fun y4=>(gd (x1_0.length+([y4]:Li).length≤1000000000) (Vq.l0 k (x1_0++([y4]:Li)) (I64 (x3_0+1))))) else (some x1_0)
def Vq.f (k:Nat):Option Li:=Vq.l0 k ([]:Li) 0
abbrev Vq.R (r:Li) (w:World):Value→World→Prop:=fun v w'=> ∃A0' c0',v= .slice A0' r.length c0'∧Mem w w' (Gs [⟨.slice A0' r.length c0',3,1,nums .i64 r⟩] [])
theorem Vq.calls {r:Li} (h:Vq.f k=some r):Calls prog 181 #[] w (Ret (Vq.R r w)):=by
 unfold Vq.f at h
 refine calls_S func181 ?_
 have M:=Mem.r0 w
 refine .gq 15 ?_
 replace M:=M.n1 3
 have l0: ∀k_≤k,∀(A1_0:Option Addr) (c1_0:Nat) (x1_0:Li) (x3_0:Int) {W:World} (M:Mem w W (Gs [⟨.slice A1_0 x1_0.length c1_0,3,1,nums .i64 x1_0⟩] [])) (h:Vq.l0 k_ x1_0 x3_0=some r),RL 181 f181 (Vq.R r w) [1,1,0,1,0,0] [(1,.slice A1_0 x1_0.length c1_0),(3,.i x3_0)] W:=by
  refine loopI (by intros;rename_i h;simp [Vq.l0] at h) fun k hk ih0 A1_0 c1_0 x1_0 x3_0 W M h=> ?_
  simp only [Vq.l0] at h
  refine .gq 5 ?_
  rcases ift h with ⟨c3,h⟩ | ⟨c3,h⟩
  ·refine .kn 4 c3<| .gq 20 ?_
   let y4:Int:=I64 ((Int.tmod (I64 ((I64 ((I64 (4*(I64 (Int.tdiv x3_0 6))))+(Int.tmod x3_0 6)))+31)) 32)+1)
   replace h:=bz (y:=y4) h rfl
   refine .new 3 1 1 (nums .i64 [y4]) M fun g5 W6 M=> ?_
   obtain ⟨c11,h⟩:=ifd h
   exact .an M 1 rfl (M.or 0) c11 fun A8 c9 W10 M=> .gq 8<| .at (ih0 k (by omega) A8 c9 (x1_0++([y4]:Li)) (I64 (x3_0+1)) (M.pm [1] []) h)
  refine .kn 4 c3<| .gq 7 ?_
  obtain rfl:=sj h
  exact .ret func181 ⟨A1_0,c1_0,rfl,(M.pm [0] [])⟩
 exact .at (l0 k k.le_refl none 0 ([]:Li) 0 (M.pm [0] []) h)
def Vp.f (k:Nat) (a0:Int):Option (Int):=if (decide (a0≥65))=true then (some (U8 ((U8 (a0-65))+10))) else (some (U8 (a0-48)))
theorem Vp.calls {a0:Int} {r:Int} (h:Vp.f k a0=some r):Calls prog 182 #[.y a0] w (Ret fun v w'=>v= .y r∧Mem w w' (Gs [] [])):=by
 unfold Vp.f at h
 refine calls_S func182 ?_
 have M:=Mem.r0 w
 refine .gq 10 ?_
 rcases ift h with ⟨c1,h⟩ | ⟨c1,h⟩
 ·refine .kn 4 c1<| .gq 8 ?_
  obtain rfl:=sj h
  exact .ret func182 ⟨rfl,(M.pm [] [])⟩
 refine .kn 4 c1<| .gq 8 ?_
 obtain rfl:=sj h
 exact .ret func182 ⟨rfl,(M.pm [] [])⟩
def Vj.f (k:Nat) (a0:Int) (a1:Int):Option (ByteArray):=if (a0==0)=true then (gd (0≤a1) (gd (a1<(4:Int)) (some (rds ([(⟨#[69,52,68,49,50,70,66,56,51,65,54,67,53,57,48,55]⟩:ByteArray),(⟨#[48,70,55,52,69,50,68,49,65,54,67,66,57,53,51,56]⟩:ByteArray),(⟨#[52,49,69,56,68,54,50,66,70,67,57,55,51,65,53,48]⟩:ByteArray),(⟨#[70,67,56,50,52,57,49,55,53,66,51,69,65,48,54,68]⟩:ByteArray)]:List ByteArray) a1)))) else (if (a0==1)=true then (gd (0≤a1) (gd (a1<(4:Int)) (some (rds ([(⟨#[70,49,56,69,54,66,51,52,57,55,50,68,67,48,53,65]⟩:ByteArray),(⟨#[51,68,52,55,70,50,56,69,67,48,49,65,54,57,66,53]⟩:ByteArray),(⟨#[48,69,55,66,65,52,68,49,53,56,67,54,57,51,50,70]⟩:ByteArray),(⟨#[68,56,65,49,51,70,52,50,66,54,55,67,48,53,69,57]⟩:ByteArray)]:List ByteArray) a1)))) else (if (a0==2)=true then (gd (0≤a1) (gd (a1<(4:Int)) (some (rds ([(⟨#[65,48,57,69,54,51,70,53,49,68,67,55,66,52,50,56]⟩:ByteArray),(⟨#[68,55,48,57,51,52,54,65,50,56,53,69,67,66,70,49]⟩:ByteArray),(⟨#[68,54,52,57,56,70,51,48,66,49,50,67,53,65,69,55]⟩:ByteArray),(⟨#[49,65,68,48,54,57,56,55,52,70,69,51,66,53,50,67]⟩:ByteArray)]:List ByteArray) a1)))) else (if (a0==3)=true then (gd (0≤a1) (gd (a1<(4:Int)) (some (rds ([(⟨#[55,68,69,51,48,54,57,65,49,50,56,53,66,67,52,70]⟩:ByteArray),(⟨#[68,56,66,53,54,70,48,51,52,55,50,67,49,65,69,57]⟩:ByteArray),(⟨#[65,54,57,48,67,66,55,68,70,49,51,69,53,50,56,52]⟩:ByteArray),(⟨#[51,70,48,54,65,49,68,56,57,52,53,66,67,55,50,69]⟩:ByteArray)]:List ByteArray) a1)))) else (if (a0==4)=true then (gd (0≤a1) (gd (a1<(4:Int)) (some (rds ([(⟨#[50,67,52,49,55,65,66,54,56,53,51,70,68,48,69,57]⟩:ByteArray),(⟨#[69,66,50,67,52,55,68,49,53,48,70,65,51,57,56,54]⟩:ByteArray),(⟨#[52,50,49,66,65,68,55,56,70,57,67,53,54,51,48,69]⟩:ByteArray),(⟨#[66,56,67,55,49,69,50,68,54,70,48,57,65,52,53,51]⟩:ByteArray)]:List ByteArray) a1)))) else (if (a0==5)=true then (gd (0≤a1) (gd (a1<(4:Int)) (some (rds ([(⟨#[67,49,65,70,57,50,54,56,48,68,51,52,69,55,53,66]⟩:ByteArray),(⟨#[65,70,52,50,55,67,57,53,54,49,68,69,48,66,51,56]⟩:ByteArray),(⟨#[57,69,70,53,50,56,67,51,55,48,52,65,49,68,66,54]⟩:ByteArray),(⟨#[52,51,50,67,57,53,70,65,66,69,49,55,54,48,56,68]⟩:ByteArray)]:List ByteArray) a1)))) else (if (a0==6)=true then (gd (0≤a1) (gd (a1<(4:Int)) (some (rds ([(⟨#[52,66,50,69,70,48,56,68,51,67,57,55,53,65,54,49]⟩:ByteArray),(⟨#[68,48,66,55,52,57,49,65,69,51,53,67,50,70,56,54]⟩:ByteArray),(⟨#[49,52,66,68,67,51,55,69,65,70,54,56,48,53,57,50]⟩:ByteArray),(⟨#[54,66,68,56,49,52,65,55,57,53,48,70,69,50,51,67]⟩:ByteArray)]:List ByteArray) a1)))) else (gd (0≤a1) (gd (a1<(4:Int)) (some (rds ([(⟨#[68,50,56,52,54,70,66,49,65,57,51,69,53,48,67,55]⟩:ByteArray),(⟨#[49,70,68,56,65,51,55,52,67,53,54,66,48,69,57,50]⟩:ByteArray),(⟨#[55,66,52,49,57,67,69,50,48,54,65,68,70,51,53,56]⟩:ByteArray),(⟨#[50,49,69,55,52,65,56,68,70,67,57,48,51,53,54,66]⟩:ByteArray)]:List ByteArray) a1))))))))))
theorem Vj.calls {a0:Int} {a1:Int} {r:ByteArray} (h:Vj.f k a0 a1=some r):Calls prog 183 #[.i a0,.i a1] w (Ret fun v w'=>v= .string r∧Mem w w' (Gs [] [])):=by
 unfold Vj.f at h
 refine calls_S func183 ?_
 have M:=Mem.r0 w
 refine .gq 15 ?_
 rcases ift h with ⟨c1,h⟩ | ⟨c1,h⟩
 ·refine .kn 6 c1<| .gq 5 ?_
  obtain ⟨c2,h⟩:=ifd h
  obtain ⟨c3,h⟩:=ifd h
  refine .yt (yl_ixt (N:=4) (rfl:([(⟨#[69,52,68,49,50,70,66,56,51,65,54,67,53,57,48,55]⟩:ByteArray),(⟨#[48,70,55,52,69,50,68,49,65,54,67,66,57,53,51,56]⟩:ByteArray),(⟨#[52,49,69,56,68,54,50,66,70,67,57,55,51,65,53,48]⟩:ByteArray),(⟨#[70,67,56,50,52,57,49,55,53,66,51,69,65,48,54,68]⟩:ByteArray)]:List ByteArray).length=_) c2 c3)<| .gq 2 ?_
  obtain rfl:=sj h
  exact .ret func183 ⟨rfl,(M.pm [] [])⟩
 refine .kn 6 c1<| .gq 6 ?_
 rcases ift h with ⟨c4,h⟩ | ⟨c4,h⟩
 ·refine .kn 11 c4<| .gq 5 ?_
  obtain ⟨c5,h⟩:=ifd h
  obtain ⟨c6,h⟩:=ifd h
  refine .yt (yl_ixt (N:=4) (rfl:([(⟨#[70,49,56,69,54,66,51,52,57,55,50,68,67,48,53,65]⟩:ByteArray),(⟨#[51,68,52,55,70,50,56,69,67,48,49,65,54,57,66,53]⟩:ByteArray),(⟨#[48,69,55,66,65,52,68,49,53,56,67,54,57,51,50,70]⟩:ByteArray),(⟨#[68,56,65,49,51,70,52,50,66,54,55,67,48,53,69,57]⟩:ByteArray)]:List ByteArray).length=_) c5 c6)<| .gq 2 ?_
  obtain rfl:=sj h
  exact .ret func183 ⟨rfl,(M.pm [] [])⟩
 refine .kn 11 c4<| .gq 6 ?_
 rcases ift h with ⟨c7,h⟩ | ⟨c7,h⟩
 ·refine .kn 16 c7<| .gq 5 ?_
  obtain ⟨c8,h⟩:=ifd h
  obtain ⟨c9,h⟩:=ifd h
  refine .yt (yl_ixt (N:=4) (rfl:([(⟨#[65,48,57,69,54,51,70,53,49,68,67,55,66,52,50,56]⟩:ByteArray),(⟨#[68,55,48,57,51,52,54,65,50,56,53,69,67,66,70,49]⟩:ByteArray),(⟨#[68,54,52,57,56,70,51,48,66,49,50,67,53,65,69,55]⟩:ByteArray),(⟨#[49,65,68,48,54,57,56,55,52,70,69,51,66,53,50,67]⟩:ByteArray)]:List ByteArray).length=_) c8 c9)<| .gq 2 ?_
  obtain rfl:=sj h
  exact .ret func183 ⟨rfl,(M.pm [] [])⟩
 refine .kn 16 c7<| .gq 6 ?_
 rcases ift h with ⟨c10,h⟩ | ⟨c10,h⟩
 ·refine .kn 21 c10<| .gq 5 ?_
  obtain ⟨c11,h⟩:=ifd h
  obtain ⟨c12,h⟩:=ifd h
  refine .yt (yl_ixt (N:=4) (rfl:([(⟨#[55,68,69,51,48,54,57,65,49,50,56,53,66,67,52,70]⟩:ByteArray),(⟨#[68,56,66,53,54,70,48,51,52,55,50,67,49,65,69,57]⟩:ByteArray),(⟨#[65,54,57,48,67,66,55,68,70,49,51,69,53,50,56,52]⟩:ByteArray),(⟨#[51,70,48,54,65,49,68,56,57,52,53,66,67,55,50,69]⟩:ByteArray)]:List ByteArray).length=_) c11 c12)<| .gq 2 ?_
  obtain rfl:=sj h
  exact .ret func183 ⟨rfl,(M.pm [] [])⟩
 refine .kn 21 c10<| .gq 6 ?_
 rcases ift h with ⟨c13,h⟩ | ⟨c13,h⟩
 ·refine .kn 26 c13<| .gq 5 ?_
  obtain ⟨c14,h⟩:=ifd h
  obtain ⟨c15,h⟩:=ifd h
  refine .yt (yl_ixt (N:=4) (rfl:([(⟨#[50,67,52,49,55,65,66,54,56,53,51,70,68,48,69,57]⟩:ByteArray),(⟨#[69,66,50,67,52,55,68,49,53,48,70,65,51,57,56,54]⟩:ByteArray),(⟨#[52,50,49,66,65,68,55,56,70,57,67,53,54,51,48,69]⟩:ByteArray),(⟨#[66,56,67,55,49,69,50,68,54,70,48,57,65,52,53,51]⟩:ByteArray)]:List ByteArray).length=_) c14 c15)<| .gq 2 ?_
  obtain rfl:=sj h
  exact .ret func183 ⟨rfl,(M.pm [] [])⟩
 refine .kn 26 c13<| .gq 6 ?_
 rcases ift h with ⟨c16,h⟩ | ⟨c16,h⟩
 ·refine .kn 31 c16<| .gq 5 ?_
  obtain ⟨c17,h⟩:=ifd h
  obtain ⟨c18,h⟩:=ifd h
  refine .yt (yl_ixt (N:=4) (rfl:([(⟨#[67,49,65,70,57,50,54,56,48,68,51,52,69,55,53,66]⟩:ByteArray),(⟨#[65,70,52,50,55,67,57,53,54,49,68,69,48,66,51,56]⟩:ByteArray),(⟨#[57,69,70,53,50,56,67,51,55,48,52,65,49,68,66,54]⟩:ByteArray),(⟨#[52,51,50,67,57,53,70,65,66,69,49,55,54,48,56,68]⟩:ByteArray)]:List ByteArray).length=_) c17 c18)<| .gq 2 ?_
  obtain rfl:=sj h
  exact .ret func183 ⟨rfl,(M.pm [] [])⟩
 refine .kn 31 c16<| .gq 6 ?_
 rcases ift h with ⟨c19,h⟩ | ⟨c19,h⟩
 ·refine .kn 36 c19<| .gq 5 ?_
  obtain ⟨c20,h⟩:=ifd h
  obtain ⟨c21,h⟩:=ifd h
  refine .yt (yl_ixt (N:=4) (rfl:([(⟨#[52,66,50,69,70,48,56,68,51,67,57,55,53,65,54,49]⟩:ByteArray),(⟨#[68,48,66,55,52,57,49,65,69,51,53,67,50,70,56,54]⟩:ByteArray),(⟨#[49,52,66,68,67,51,55,69,65,70,54,56,48,53,57,50]⟩:ByteArray),(⟨#[54,66,68,56,49,52,65,55,57,53,48,70,69,50,51,67]⟩:ByteArray)]:List ByteArray).length=_) c20 c21)<| .gq 2 ?_
  obtain rfl:=sj h
  exact .ret func183 ⟨rfl,(M.pm [] [])⟩
 refine .kn 36 c19<| .gq 7 ?_
 obtain ⟨c22,h⟩:=ifd h
 obtain ⟨c23,h⟩:=ifd h
 refine .yt (yl_ixt (N:=4) (rfl:([(⟨#[68,50,56,52,54,70,66,49,65,57,51,69,53,48,67,55]⟩:ByteArray),(⟨#[49,70,68,56,65,51,55,52,67,53,54,66,48,69,57,50]⟩:ByteArray),(⟨#[55,66,52,49,57,67,69,50,48,54,65,68,70,51,53,56]⟩:ByteArray),(⟨#[50,49,69,55,52,65,56,68,70,67,57,48,51,53,54,66]⟩:ByteArray)]:List ByteArray).length=_) c22 c23)<| .gq 2 ?_
 obtain rfl:=sj h
 exact .ret func183 ⟨rfl,(M.pm [] [])⟩
def Vn.f (k:Nat):Option Li:=some ([16,7,20,21,29,12,28,17,1,15,23,26,5,18,31,10,2,8,24,14,32,27,3,9,19,13,30,6,22,11,4,25]:Li)
theorem Vn.calls {r:Li} (h:Vn.f k=some r):Calls prog 184 #[] w (Ret fun v w'=> ∃A0' c0',v= .slice A0' r.length c0'∧Mem w w' (Gs [⟨.slice A0' r.length c0',3,1,nums .i64 r⟩] [])):=by
 unfold Vn.f at h
 refine calls_S func184 ?_
 have M:=Mem.r0 w
 refine .gq 6<| .new 3 1 32 (nums .i64 [16,7,20,21,29,12,28,17,1,15,23,26,5,18,31,10,2,8,24,14,32,27,3,9,19,13,30,6,22,11,4,25]) M fun g1 W2 M=> .gq 2 ?_
 obtain rfl:=sj h
 exact .ret func184 ⟨(pa g1),32,rfl,(M.pm [0] [])⟩
mutual
def Vg.l0:Nat→(Li×Bool)→Li→Int→Option (Li×Bool)
 | 0,_,_,_=>none
 | k+1,t16,x8_0,x9_0=>(Qk.f k t16.1 (I64 ((I64 (6*x9_0))+1))).bind fun t24=>((Qk.f k t16.1 (I64 ((I64 ((I64 (6*x9_0))+1))+5))).bind fun t26=>(Vg.l1 k t16 t24 t26 x8_0 x9_0 0 1))
def Vg.l1:Nat→(Li×Bool)→Int→Int→Li→Int→Int→Int→Option (Li×Bool)
 | 0,_,_,_,_,_,_,_=>none
 | k+1,t16,t24,t26,x8_0,x9_0,x12_1,x13_1=>if (decide (x13_1≤4))=true then ((Qk.f k t16.1 (I64 ((I64 ((I64 (6*x9_0))+1))+x13_1))).bind fun t29=>(Vg.l1 k t16 t24 t26 x8_0 x9_0 (I64 ((I64 (2*x12_1))+t29)) (I64 (x13_1+1)))) else (gd (0≤(I64 (Int.tdiv x9_0 2))) (gd ((I64 (Int.tdiv x9_0 2))<(4:Int)) ((Vj.f k x9_0 (I64 ((I64 (2*t24))+t26))).bind fun t34=>((Vp.f k (sb t34 x12_1)).bind fun t41=>(gd (0≤x12_1) (gd (x12_1<(t34.size:Int)) (gd (0≤(I64 (4*(I64 (1-(Int.tmod x9_0 2)))))) (gd (0≤(I64 (Int.tdiv x9_0 2))) (gd ((I64 (Int.tdiv x9_0 2))<(4:Int)) (if (decide ((I64 (x9_0+1))<8))=true then (Vg.l0 k t16 (x8_0.set (I64 (Int.tdiv x9_0 2):Int).toNat (bor .u8 (rd x8_0 (I64 (Int.tdiv x9_0 2))) (shlv .u8 t41 (I64 (4*(I64 (1-(Int.tmod x9_0 2)))))))) (I64 (x9_0+1))) else ((Vn.f k).bind fun t57=>((Qn.f k (x8_0.set (I64 (Int.tdiv x9_0 2):Int).toNat (bor .u8 (rd x8_0 (I64 (Int.tdiv x9_0 2))) (shlv .u8 t41 (I64 (4*(I64 (1-(Int.tmod x9_0 2)))))))) t57).bind fun t62=>(some (t62.1,t62.2))))))))))))))
end
def Vg.f (k:Nat) (a0:Li) (a1:Li):Option (Li×Bool):=if ((a0.length:Int) != 4)=true then (some (([]:Li),false)) else (if ((a1.length:Int) != 6)=true then (some (([]:Li),false)) else ((Vq.f k).bind fun t6=>((Qn.f k a0 t6).bind fun t11=>((Jd.f k t11.1 a1).bind fun t16=>(Vg.l0 k t16 (List.replicate 4 (0:Int)) 0)))))
abbrev Vg.R (r:Li×Bool) (w:World):Value→World→Prop:=fun v w'=> ∃A0' c0',v= .tuple #[.slice A0' r.1.length c0',.bool r.2]∧Mem w w' (Gs [⟨.slice A0' r.1.length c0',5,1,nums .u8 r.1⟩] [])
theorem Vg.calls {a0:Li} {a1:Li} {r:Li×Bool} (hr0:Rd w (.slice Ap0 np0 cp0) (nums .u8 a0)) (hr1:Rd w (.slice Ap1 np1 cp1) (nums .u8 a1)) (h:Vg.f k a0 a1=some r):Calls prog 139 #[(.slice Ap0 np0 cp0),(.slice Ap1 np1 cp1)] w (Ret (Vg.R r w)):=by
 obtain rfl:=hr0.ln
 obtain rfl:=hr1.ln
 unfold Vg.f at h
 refine calls_S func139 ?_
 have M:=Mem.r0 w
 refine .gq 13 ?_
 rcases ift h with ⟨c1,h⟩ | ⟨c1,h⟩
 ·refine .kn 17 c1<| .gq 11 ?_
  replace M:=M.n1 5
  obtain rfl:=sj h
  exact .ret func139 ⟨none,0,rfl,(M.pm [0] [])⟩
 refine .kn 17 c1<| .gq 5 ?_
 rcases ift h with ⟨c3,h⟩ | ⟨c3,h⟩
 ·refine .kn 21 c3<| .gq 6 ?_
  replace M:=M.n1 5
  obtain rfl:=sj h
  exact .ret func139 ⟨none,0,rfl,(M.pm [0] [])⟩
 refine .kn 21 c3<| .gq 5 ?_
 obtain ⟨t6,ht6,h⟩:=bs h
 refine .ca (Vq.calls ht6) ?_
 rintro _ W5 ⟨A7,c8,rfl,M_⟩
 replace M:=M.cg M_
 obtain ⟨t11,ht11,h⟩:=bs h
 refine .ca (Qn.calls (hr0.mono M.below) (M.or 0) ht11) ?_
 rintro _ W10 ⟨A12,c13,rfl,M_⟩
 replace M:=M.cg M_
 refine .gq 10 ?_
 obtain ⟨t16,ht16,h⟩:=bs h
 refine .ca (Jd.calls (M.or 0) (hr1.mono M.below) ht16) ?_
 rintro _ W15 ⟨A17,c18,rfl,M_⟩
 replace M:=M.cg M_
 refine .gq 7<| .mn 5 .u8 4 4 M fun g21 W20 M=> .gq 8 ?_
 have l0: ∀k_≤k,∀(x8_0:Li) (x9_0:Int) {W:World} (M:Mem w W (Gs [⟨.slice A17 t16.1.length c18,5,1,nums .u8 t16.1⟩,⟨.slice (pa g21) 4 4,5,1,nums .u8 x8_0⟩] [])) (h:Vg.l0 k_ t16 x8_0 x9_0=some r),RL 139 f139 (Vg.R r w) [1,0,1,1,1,1,1,1] [(6,.slice A17 t16.1.length c18),(8,.slice (pa g21) 4 4),(9,.i x9_0)] W:=by
  refine loopI (by intros;rename_i h;simp [Vg.l0] at h) fun k hk ih0 x8_0 x9_0 W M h=> ?_
  simp only [Vg.l0] at h
  refine .gq 11 ?_
  obtain ⟨t24,ht24,h⟩:=bs h
  refine .ca (Qk.calls (M.or 0) ht24) ?_
  rintro _ W23 ⟨rfl,M_⟩
  replace M:=M.cg M_
  refine .gq 4 ?_
  obtain ⟨t26,ht26,h⟩:=bs h
  refine .ca (Qk.calls (M.or 0) ht26) ?_
  rintro _ W25 ⟨rfl,M_⟩
  replace M:=M.cg M_
  refine .gq 14 ?_
  have l1: ∀k_≤k,∀(x12_1:Int) (x13_1:Int) {W:World} (M:Mem w W (Gs [⟨.slice A17 t16.1.length c18,5,1,nums .u8 t16.1⟩,⟨.slice (pa g21) 4 4,5,1,nums .u8 x8_0⟩] [])) (h:Vg.l1 k_ t16 t24 t26 x8_0 x9_0 x12_1 x13_1=some r),RL 139 f139 (Vg.R r w) [1,0,1,1,1,1,1,1,1,1,1,0,1,0,0] [(6,.slice A17 t16.1.length c18),(8,.slice (pa g21) 4 4),(9,.i x9_0),(10,.i (I64 ((I64 (6*x9_0))+1))),(11,.i (I64 ((I64 (2*t24))+t26))),(12,.i x12_1),(13,.i x13_1)] W:=by
   refine loopI (by intros;rename_i h;simp [Vg.l1] at h) fun k hk ih1 x12_1 x13_1 W M h=> ?_
   simp only [Vg.l1] at h
   refine .gq 6 ?_
   rcases ift h with ⟨c27,h⟩ | ⟨c27,h⟩
   ·refine .kn 48 c27<| .gq 11 ?_
    obtain ⟨t29,ht29,h⟩:=bs h
    refine .ca (Qk.calls (M.or 0) ht29) ?_
    rintro _ W28 ⟨rfl,M_⟩
    replace M:=M.cg M_
    exact .gq 10<| .at (ih1 k (by omega) (I64 ((I64 (2*x12_1))+t29)) (I64 (x13_1+1)) (M.pm [0,1] []) h)
   refine .kn 48 c27<| .gq 3<| .at (show RL 139 f139 (Vg.R r w) [1,0,1,1,1,1,1,1,1,1,1,1,0] [(6,.slice A17 t16.1.length c18),(8,.slice (pa g21) 4 4),(9,.i x9_0),(11,.i (I64 ((I64 (2*t24))+t26))),(12,.i x12_1)] _ from .dr [1] M fun W30 M=> ?_)
   refine .pz tr [0,1,2] ?_
   obtain ⟨c32,h⟩:=ifd h
   obtain ⟨c33,h⟩:=ifd h
   obtain ⟨pq31,Cq31⟩:=M.na 1 rfl c32 c33
   refine .ix tr 3 Cq31<| .pz tr [5,6,8,11,12,13,14] ?_
   obtain ⟨t34,ht34,h⟩:=bs h
   obtain ⟨t41,ht41,h⟩:=bs h
   obtain ⟨c46,h⟩:=ifd h
   obtain ⟨c47,h⟩:=ifd h
   obtain ⟨c48,h⟩:=ifd h
   have J49:RJ 139 f139 (Vg.R r w) [1,0,1,1,1,1,1,1,1,1,1,1,0] w [⟨.slice A17 t16.1.length c18,5,1,nums .u8 t16.1⟩,⟨.slice (pa g21) 4 4,5,1,nums .u8 x8_0⟩] [] [1] ([0,1,2,3,5,6,8,11,12,13,14,4,7,9,10,15,16],[(6,.slice A17 t16.1.length c18),(8,.slice (pa g21) 4 4),(9,.i x9_0),(11,.i (I64 ((I64 (2*t24))+t26))),(12,.i x12_1),(59,.slice (pa g21) 4 4),(61,.i (I64 (Int.tdiv x9_0 2))),(75,.y (bor .u8 (rd x8_0 (I64 (Int.tdiv x9_0 2))) (shlv .u8 t41 (I64 (4*(I64 (1-(Int.tmod x9_0 2))))))))]):=by
    intro W50 M
    obtain ⟨c52,h⟩:=ifd h
    obtain ⟨c53,h⟩:=ifd h
    obtain ⟨pq51,Cq51⟩:=M.na 1 rfl c52 c53
    refine .ix tr 17 Cq51<| .a1 tr 18<| .sn (bor .u8 (rd x8_0 (I64 (Int.tdiv x9_0 2))) (shlv .u8 t41 (I64 (4*(I64 (1-(Int.tmod x9_0 2))))))) Cq51 M 1 rfl fun W54 M=> .dn tr<| .gq 12 ?_
    rcases ift h with ⟨c55,h⟩ | ⟨c55,h⟩
    ·exact .kn 80 c55<| .gq 4<| .at (ih0 k (by omega) (x8_0.set (I64 (Int.tdiv x9_0 2):Int).toNat (bor .u8 (rd x8_0 (I64 (Int.tdiv x9_0 2))) (shlv .u8 t41 (I64 (4*(I64 (1-(Int.tmod x9_0 2)))))))) (I64 (x9_0+1)) (M.pm [0,1] []) h)
    refine .kn 80 c55<| .gq 5 ?_
    obtain ⟨t57,ht57,h⟩:=bs h
    refine .ca (Vn.calls ht57) ?_
    rintro _ W56 ⟨A58,c59,rfl,M_⟩
    replace M:=M.cg M_
    obtain ⟨t62,ht62,h⟩:=bs h
    refine .ca (Qn.calls (M.or 2) (M.or 0) ht62) ?_
    rintro _ W61 ⟨A63,c64,rfl,M_⟩
    replace M:=M.cg M_
    refine .gq 5 ?_
    obtain rfl:=sj h
    exact .ret func139 ⟨A63,c64,rfl,(M.pm [0] [])⟩
   have J66:RJ 139 f139 (Vg.R r w) [1,0,1,1,1,1,1,1,1,1,1,1,0] w [⟨.slice A17 t16.1.length c18,5,1,nums .u8 t16.1⟩,⟨.slice (pa g21) 4 4,5,1,nums .u8 x8_0⟩] [] [1] ([0,1,2,3,5,6,8,11,12,13,14,7,9,10,15],[(6,.slice A17 t16.1.length c18),(8,.slice (pa g21) 4 4),(9,.i x9_0),(11,.i (I64 ((I64 (2*t24))+t26))),(12,.i x12_1),(59,.slice (pa g21) 4 4),(61,.i (I64 (Int.tdiv x9_0 2))),(62,.pointer (some pq31)),(74,.y (shlv .u8 t41 (I64 (4*(I64 (1-(Int.tmod x9_0 2)))))))]):=by
    intro W67 M
    exact .a1 tr 4<| .ln Cq31 (M.or 1)<| .pz tr [16]<| .jn M [0,1] [] (J49) rfl rfl
   have J68:RJ 139 f139 (Vg.R r w) [1,0,1,1,1,1,1,1,1,1,1,1,0] w [⟨.slice A17 t16.1.length c18,5,1,nums .u8 t16.1⟩,⟨.slice (pa g21) 4 4,5,1,nums .u8 x8_0⟩] [] [1] ([0,1,2,3,5,6,8,11,12,13,14,4,7,9],[(6,.slice A17 t16.1.length c18),(8,.slice (pa g21) 4 4),(9,.i x9_0),(11,.i (I64 ((I64 (2*t24))+t26))),(12,.i x12_1),(59,.slice (pa g21) 4 4),(61,.i (I64 (Int.tdiv x9_0 2))),(63,.y (rd x8_0 (I64 (Int.tdiv x9_0 2)))),(68,.y (sb t34 x12_1)),(73,.i (I64 (4*(I64 (1-(Int.tmod x9_0 2))))))]):=by
    intro W69 M
    refine .a1 tr 10<| .ca (Vp.calls ht41) ?_
    rintro _ W70 ⟨rfl,M_⟩
    refine .ca M_ [1] ?_
    replace M:=M.cg M_
    exact .yt tr 15 (yl_shl (kd:= .u8) t41 c48)<| .pz tr [16]<| .jn M [0,1] [] (J49) rfl rfl
   have J72:RJ 139 f139 (Vg.R r w) [1,0,1,1,1,1,1,1,1,1,1,1,0] w [⟨.slice A17 t16.1.length c18,5,1,nums .u8 t16.1⟩,⟨.slice (pa g21) 4 4,5,1,nums .u8 x8_0⟩] [] [1] ([0,1,2,3,5,6,8,11,12,13,14,7,9],[(6,.slice A17 t16.1.length c18),(8,.slice (pa g21) 4 4),(9,.i x9_0),(11,.i (I64 ((I64 (2*t24))+t26))),(12,.i x12_1),(59,.slice (pa g21) 4 4),(61,.i (I64 (Int.tdiv x9_0 2))),(62,.pointer (some pq31)),(68,.y (sb t34 x12_1)),(73,.i (I64 (4*(I64 (1-(Int.tmod x9_0 2))))))]):=by
    intro W73 M
    refine .a2 tr 4 10 ?_ ?_
    ·exact .ln Cq31 (M.or 1)<| .jn M [0,1] [] (J68) rfl rfl
    ·refine .ca (Vp.calls ht41) ?_
     rintro _ W74 ⟨rfl,M_⟩
     refine .ca M_ [1] ?_
     replace M:=M.cg M_
     exact .yt tr 15 (yl_shl (kd:= .u8) t41 c48)<| .jn M [0,1] [] (J66) rfl rfl
   have J76:RJ 139 f139 (Vg.R r w) [1,0,1,1,1,1,1,1,1,1,1,1,0] w [⟨.slice A17 t16.1.length c18,5,1,nums .u8 t16.1⟩,⟨.slice (pa g21) 4 4,5,1,nums .u8 x8_0⟩] [] [1] ([0,1,2,3,5,6,8,11,12,13,14,4],[(6,.slice A17 t16.1.length c18),(8,.slice (pa g21) 4 4),(9,.i x9_0),(11,.i (I64 ((I64 (2*t24))+t26))),(12,.i x12_1),(59,.slice (pa g21) 4 4),(61,.i (I64 (Int.tdiv x9_0 2))),(63,.y (rd x8_0 (I64 (Int.tdiv x9_0 2)))),(64,.i x9_0),(65,.i (I64 ((I64 (2*t24))+t26))),(67,.i x12_1),(73,.i (I64 (4*(I64 (1-(Int.tmod x9_0 2))))))]):=by
    intro W77 M
    refine .a1 tr 7<| .ca (Vj.calls ht34) ?_
    rintro _ W78 ⟨rfl,M_⟩
    refine .ca M_ [1] ?_
    replace M:=M.cg M_
    exact .yt tr 9 (yl_ixs t34 c46 c47)<| .jn M [0,1] [] (J68) rfl rfl
   refine .a2 tr 4 7 ?_ ?_
   ·exact .ln Cq31 (M.or 1)<| .jn M [0,1] [] (J76) rfl rfl
   ·refine .ca (Vj.calls ht34) ?_
    rintro _ W81 ⟨rfl,M_⟩
    refine .ca M_ [1] ?_
    replace M:=M.cg M_
    exact .yt tr 9 (yl_ixs t34 c46 c47)<| .jn M [0,1] [] (J72) rfl rfl
  exact .at (l1 k k.le_refl 0 1 (M.pm [0,1] []) h)
 exact .at (l0 k k.le_refl (List.replicate 4 (0:Int)) 0 (M.pm [1,0] []) h)
def Ql.l0:Nat→Li→Li→Int→Option (Li×Bool)
 | 0,_,_,_=>none
 | k+1,a0,x4_0,x13_0=>if (decide (x13_0<(a0.length:Int)))=true then (gd (0≤x13_0) (gd (x13_0<(a0.length:Int)) (if (decide ((rd a0 x13_0)<1))=true then (some (([]:Li),false)) else (if (decide ((rd a0 x13_0)>(a0.length:Int)))=true then (some (([]:Li),false)) else (gd (0≤(I64 ((rd a0 x13_0)-1))) (gd ((I64 ((rd a0 x13_0)-1))<(((a0.length:Int)).toNat:Int)) ((some (decide ((rd x4_0 (I64 ((rd a0 x13_0)-1)))>0):Bool)).bind fun y17=>(if y17=true then (some (([]:Li),false)) else (gd (0≤(I64 ((rd a0 x13_0)-1))) (gd ((I64 ((rd a0 x13_0)-1))<(((a0.length:Int)).toNat:Int)) (Ql.l0 k a0 (x4_0.set (I64 ((rd a0 x13_0)-1):Int).toNat (I64 (x13_0+1))) (I64 (x13_0+1))))))))))))) else (gd (0≤(((a0.length:Int)).toNat:Int)) (gd ((((a0.length:Int)).toNat:Int)≤1000000000) (some ((x4_0.take (List.replicate (((((a0.length:Int)).toNat:Int)).toNat) (0:Int)).length++(List.replicate (((((a0.length:Int)).toNat:Int)).toNat) (0:Int)).drop x4_0.length),true))))
def Ql.f (k:Nat) (a0:Li):Option (Li×Bool):=gd (0≤(a0.length:Int)) (gd ((a0.length:Int)≤1000000000) (Ql.l0 k a0 (List.replicate (((a0.length:Int)).toNat) (0:Int)) 0))
abbrev Ql.R (r:Li×Bool) (w:World):Value→World→Prop:=fun v w'=> ∃A0' c0',v= .tuple #[.slice A0' r.1.length c0',.bool r.2]∧Mem w w' (Gs [⟨.slice A0' r.1.length c0',3,1,nums .i64 r.1⟩] [])
theorem Ql.calls {a0:Li} {r:Li×Bool} (hr0:Rd w (.slice Ap0 np0 cp0) (nums .i64 a0)) (h:Ql.f k a0=some r):Calls prog 140 #[(.slice Ap0 np0 cp0)] w (Ret (Ql.R r w)):=by
 obtain rfl:=hr0.ln
 unfold Ql.f at h
 refine calls_S func140 ?_
 have M:=Mem.r0 w
 refine .gq 9 ?_
 obtain ⟨c3,h⟩:=ifd h
 obtain ⟨c4,h⟩:=ifd h
 refine .mn 3 .i64 (a0.length:Int) (a0.length:Int) M fun g2 W1 M=> .gq 11 ?_
 have l0: ∀k_≤k,∀(x4_0:Li) (x13_0:Int) {W:World} (M:Mem w W (Gs [⟨.slice (pa g2) (((a0.length:Int)).toNat) (((a0.length:Int):Int).toNat),3,1,nums .i64 x4_0⟩] [])) (h:Ql.l0 k_ a0 x4_0 x13_0=some r),RL 140 f140 (Ql.R r w) [1,1,0,1,0,0] [(0,.slice Ap0 a0.length cp0),(4,.slice (pa g2) (((a0.length:Int)).toNat) (((a0.length:Int):Int).toNat)),(12,.i (a0.length:Int)),(13,.i x13_0)] W:=by
  refine loopI (by intros;rename_i h;simp [Ql.l0] at h) fun k hk ih0 x4_0 x13_0 W M h=> ?_
  simp only [Ql.l0] at h
  refine .gq 5 ?_
  rcases ift h with ⟨c6,h⟩ | ⟨c6,h⟩
  ·refine .kn 14 c6<| .gq 13 ?_
   obtain ⟨c8,h⟩:=ifd h
   obtain ⟨c9,h⟩:=ifd h
   obtain ⟨pq7,Cq7⟩:=(hr0.mono M.below).na c8 c9
   refine .ix Cq7<| .lc Cq7<| .gq 8 ?_
   rcases ift h with ⟨c10,h⟩ | ⟨c10,h⟩
   ·refine .kn 22 c10<| .gq 20 ?_
    replace M:=M.n1 3
    obtain rfl:=sj h
    exact .ret func140 ⟨none,0,rfl,(M.pm [0] [])⟩
   refine .kn 22 c10<| .gq 6 ?_
   rcases ift h with ⟨c12,h⟩ | ⟨c12,h⟩
   ·refine .kn 28 c12<| .gq 14 ?_
    replace M:=M.n1 3
    obtain rfl:=sj h
    exact .ret func140 ⟨none,0,rfl,(M.pm [0] [])⟩
   refine .kn 28 c12<| .gq 3 ?_
   obtain ⟨c15,h⟩:=ifd h
   obtain ⟨c16,h⟩:=ifd h
   obtain ⟨pq14,Cq14⟩:=M.na 0 rfl c15 c16
   refine .ix Cq14<| .lc Cq14<| .gq 3 ?_
   let y17:Bool:=decide ((rd x4_0 (I64 ((rd a0 x13_0)-1)))>0)
   replace h:=bz (y:=y17) h rfl
   rcases ift h with ⟨c18,h⟩ | ⟨c18,h⟩
   ·refine .kn 35 c18<| .gq 6 ?_
    replace M:=M.n1 3
    obtain rfl:=sj h
    exact .ret func140 ⟨none,0,rfl,(M.pm [0] [])⟩
   refine .kn 35 c18<| .gq 8 ?_
   obtain ⟨c21,h⟩:=ifd h
   obtain ⟨c22,h⟩:=ifd h
   obtain ⟨pq20,Cq20⟩:=M.na 0 rfl c21 c22
   exact .ix Cq20<| .sn (I64 (x13_0+1)) Cq20 M 0 rfl fun W23 M=> .gq 7<| .at (ih0 k (by omega) (x4_0.set (I64 ((rd a0 x13_0)-1):Int).toNat (I64 (x13_0+1))) (I64 (x13_0+1)) (M.pm [0] []) h)
  refine .kn 14 c6<| .gq 6 ?_
  obtain ⟨c26,h⟩:=ifd h
  obtain ⟨c27,h⟩:=ifd h
  refine .mn 3 .i64 (((a0.length:Int)).toNat:Int) (((a0.length:Int)).toNat:Int) M fun g25 W24 M=> .gq 6<| .cn M 0 rfl (M.or 1) fun W29 M=> .gq 7 ?_
  obtain rfl:=sj h
  have hn0_:=(M.or 0).ln
  exact .ret (v:= .tuple #[.slice (pa g25) (((((a0.length:Int)).toNat:Int)).toNat) (((((a0.length:Int)).toNat:Int):Int).toNat),.bool true]) func140 ⟨(pa g25),((((a0.length:Int)).toNat:Int):Int).toNat,(by rw [hn0_]),by rw [hn0_];exact (M.pm [0] [])⟩
 exact .at (l0 k k.le_refl (List.replicate (((a0.length:Int)).toNat) (0:Int)) 0 (M.pm [0] []) h)
mutual
def Vo.l0:Nat→Lj→Li→Li→Li→Int→Option Li
 | 0,_,_,_,_,_=>none
 | k+1,a1,t2,x6_0,x7_0,x8_0=>if (decide (x8_0<(a1.length:Int)))=true then (gd (0≤x8_0) (gd (x8_0<(a1.length:Int)) ((Vg.f k x7_0 (rdr ([]:Li) a1 x8_0)).bind fun t27=>((Jd.f k x6_0 t27.1).bind fun t32=>(Vo.l1 k a1 t2 x7_0 t32.1 (I64 (x8_0+1))))))) else ((Ql.f k t2).bind fun t111=>((Y3.f k ([x7_0,x6_0]:Lj)).bind fun t121=>((Qn.f k t121 t111.1).bind fun t126=>(some t126.1))))
def Vo.l1:Nat→Lj→Li→Li→Li→Int→Option Li
 | 0,_,_,_,_,_=>none
 | k+1,a1,t2,x6_1,x7_1,x8_1=>if (decide (x8_1<(a1.length:Int)))=true then (gd (0≤x8_1) (gd (x8_1<(a1.length:Int)) ((Vg.f k x7_1 (rdr ([]:Li) a1 x8_1)).bind fun t42=>((Jd.f k x6_1 t42.1).bind fun t47=>(Vo.l2 k a1 t2 x7_1 t47.1 (I64 (x8_1+1))))))) else ((Ql.f k t2).bind fun t90=>((Y3.f k ([x7_1,x6_1]:Lj)).bind fun t101=>((Qn.f k t101 t90.1).bind fun t106=>(some t106.1))))
def Vo.l2:Nat→Lj→Li→Li→Li→Int→Option Li
 | 0,_,_,_,_,_=>none
 | k+1,a1,t2,x6_2,x7_2,x8_2=>if (decide (x8_2<(a1.length:Int)))=true then (gd (0≤x8_2) (gd (x8_2<(a1.length:Int)) ((Vg.f k x7_2 (rdr ([]:Li) a1 x8_2)).bind fun t58=>((Jd.f k x6_2 t58.1).bind fun t63=>(Vo.l2 k a1 t2 x7_2 t63.1 (I64 (x8_2+1))))))) else ((Ql.f k t2).bind fun t68=>((Y3.f k ([x7_2,x6_2]:Lj)).bind fun t80=>((Qn.f k t80 t68.1).bind fun t85=>(some t85.1))))
end
def Vo.f (k:Nat) (a0:Li) (a1:Lj):Option Li:=(Vm.f k).bind fun t2=>((Qn.f k a0 t2).bind fun t7=>(gd (0≤4) (gd (4≤(t7.1.length:Int)) (gd (4≤(t7.1.length:Int)) (Vo.l0 k a1 t2 ((t7.1.take (4:Int).toNat).drop (0:Int).toNat) ((t7.1.take ((t7.1.length:Int):Int).toNat).drop (4:Int).toNat) 0)))))
abbrev Vo.R (r:Li) (w:World):Value→World→Prop:=fun v w'=> ∃A0' c0',v= .slice A0' r.length c0'∧Mem w w' (Gs [⟨.slice A0' r.length c0',5,1,nums .u8 r⟩] [])
theorem Vo.calls {a0:Li} {vp1:Value} {a1:Lj} {r:Li} (hr0:Rd w (.slice Ap0 np0 cp0) (nums .u8 a0)) (hp1:(rRows (rNums .u8)) Zp1 vp1 a1) (hZp1: ∀W,Kept w W→Zp1 W) (h:Vo.f k a0 a1=some r):Calls prog 93 #[(.slice Ap0 np0 cp0),vp1] w (Ret (Vo.R r w)):=by
 obtain rfl:=hr0.ln
 obtain ⟨Ap1,cp1,cs1,rfl,hr1,hq1⟩:=hp1
 unfold Vo.f at h
 refine calls_S func93 ?_
 have M:=Mem.r0 w
 refine .gq 7 ?_
 obtain ⟨t2,ht2,h⟩:=bs h
 refine .ca (Vm.calls ht2) ?_
 rintro _ W1 ⟨A3,c4,rfl,M_⟩
 replace M:=M.cg M_
 refine .gq 6 ?_
 obtain ⟨t7,ht7,h⟩:=bs h
 refine .ca (Qn.calls (hr0.mono M.below) (M.or 0) ht7) ?_
 rintro _ W6 ⟨A8,c9,rfl,M_⟩
 replace M:=M.cg M_
 refine .gq 6<| .at (show RL 93 f93 (Vo.R r w) [1,0,1,1,0] [(0,.slice A8 t7.1.length c9),(1,.slice Ap1 a1.length cp1),(5,.slice A3 t2.length c4)] _ from .dr [] M fun W11 M=> ?_)
 refine .pz tr [0] ?_
 obtain ⟨c12,h⟩:=ifd h
 obtain ⟨c13,h⟩:=ifd h
 refine .ct tr 1 0 4 (M.or 0) fun A14 c15 hs16=> .pz tr [2] ?_
 obtain ⟨c17,h⟩:=ifd h
 refine .ct tr 3 4 (t7.1.length:Int) (M.or 0) fun A18 c19 hs20=> .pz tr [4,5]<| .dn tr<| .gq 6 ?_
 obtain ⟨Fq21,hfq21,M⟩:=M.fs 0
 have l0: ∀k_≤k,∀(A6_0:Option Addr) (c6_0:Nat) (x6_0:Li) (A7_0:Option Addr) (c7_0:Nat) (x7_0:Li) (x8_0:Int) {W:World} (M:Mem w W (Gs [⟨.slice A3 t2.length c4,3,1,nums .i64 t2⟩] [Fq21])) (hrx6_0:RdF (Oks Fq21) (.slice A6_0 x6_0.length c6_0) (nums .u8 x6_0)) (hrx7_0:RdF (Oks Fq21) (.slice A7_0 x7_0.length c7_0) (nums .u8 x7_0)) (h:Vo.l0 k_ a1 t2 x6_0 x7_0 x8_0=some r),RL 93 f93 (Vo.R r w) [1,0,1,1,1,1,1] [(1,.slice Ap1 a1.length cp1),(5,.slice A3 t2.length c4),(6,.slice A6_0 x6_0.length c6_0),(7,.slice A7_0 x7_0.length c7_0),(8,.i x8_0)] W:=by
  refine loopI (by intros;rename_i h;simp [Vo.l0] at h) fun k hk ih0 A6_0 c6_0 x6_0 A7_0 c7_0 x7_0 x8_0 W M hrx6_0 hrx7_0 h=> ?_
  simp only [Vo.l0] at h
  refine .gq 8 ?_
  rcases ift h with ⟨c22,h⟩ | ⟨c22,h⟩
  ·refine .kn 27 c22<| .gq 6 ?_
   obtain ⟨c24,h⟩:=ifd h
   obtain ⟨c25,h⟩:=ifd h
   obtain ⟨uq23,huq23,hvq23⟩:=Each2.at hq1 ([]:Li) (i:=x8_0) c24 c25
   obtain ⟨Aq23,cq23,rfl,hq23⟩:=hvq23
   obtain ⟨pq23,Cq23⟩:=(hr1 _ (hZp1 _ M.kept)).cel c24 c25 huq23
   refine .ix Cq23<| .lc Cq23 ?_
   obtain ⟨t27,ht27,h⟩:=bs h
   refine .ca (Vg.calls (hrx7_0 _ (M.oks 0)) (hq23 _ (hZp1 _ M.kept)) ht27) ?_
   rintro _ W26 ⟨A28,c29,rfl,M_⟩
   replace M:=M.cg M_
   refine .gq 10 ?_
   obtain ⟨t32,ht32,h⟩:=bs h
   refine .ca (Jd.calls (hrx6_0 _ (M.oks 0)) (M.or 0) ht32) ?_
   rintro _ W31 ⟨A33,c34,rfl,M_⟩
   replace M:=M.cg M_
   refine .gq 21 ?_
   have l1: ∀k_≤k,∀(A6_1:Option Addr) (c6_1:Nat) (x6_1:Li) (A7_1:Option Addr) (c7_1:Nat) (x7_1:Li) (x8_1:Int) {W:World} (M:Mem w W (Gs [⟨.slice A3 t2.length c4,3,1,nums .i64 t2⟩,⟨.slice A7_1 x7_1.length c7_1,5,1,nums .u8 x7_1⟩] [Fq21])) (hrx6_1:RdF (Oks Fq21) (.slice A6_1 x6_1.length c6_1) (nums .u8 x6_1)) (h:Vo.l1 k_ a1 t2 x6_1 x7_1 x8_1=some r),RL 93 f93 (Vo.R r w) [1,0,1,1,1,1,1] [(1,.slice Ap1 a1.length cp1),(5,.slice A3 t2.length c4),(6,.slice A6_1 x6_1.length c6_1),(7,.slice A7_1 x7_1.length c7_1),(8,.i x8_1)] W:=by
    refine loopI (by intros;rename_i h;simp [Vo.l1] at h) fun k hk ih1 A6_1 c6_1 x6_1 A7_1 c7_1 x7_1 x8_1 W M hrx6_1 h=> ?_
    simp only [Vo.l1] at h
    refine .gq 8 ?_
    rcases ift h with ⟨c37,h⟩ | ⟨c37,h⟩
    ·refine .kn 27 c37<| .gq 6 ?_
     obtain ⟨c39,h⟩:=ifd h
     obtain ⟨c40,h⟩:=ifd h
     obtain ⟨uq38,huq38,hvq38⟩:=Each2.at hq1 ([]:Li) (i:=x8_1) c39 c40
     obtain ⟨Aq38,cq38,rfl,hq38⟩:=hvq38
     obtain ⟨pq38,Cq38⟩:=(hr1 _ (hZp1 _ M.kept)).cel c39 c40 huq38
     refine .ix Cq38<| .lc Cq38 ?_
     obtain ⟨t42,ht42,h⟩:=bs h
     refine .ca (Vg.calls (M.or 1) (hq38 _ (hZp1 _ M.kept)) ht42) ?_
     rintro _ W41 ⟨A43,c44,rfl,M_⟩
     replace M:=M.cg M_
     refine .gq 10 ?_
     obtain ⟨t47,ht47,h⟩:=bs h
     refine .ca (Jd.calls (hrx6_1 _ (M.oks 0)) (M.or 0) ht47) ?_
     rintro _ W46 ⟨A48,c49,rfl,M_⟩
     replace M:=M.cg M_
     refine .gq 21 ?_
     have l2: ∀k_≤k,∀(A6_2:Option Addr) (c6_2:Nat) (x6_2:Li) (A7_2:Option Addr) (c7_2:Nat) (x7_2:Li) (x8_2:Int) {W:World} (M:Mem w W (Gs [⟨.slice A3 t2.length c4,3,1,nums .i64 t2⟩,⟨.slice A6_2 x6_2.length c6_2,5,1,nums .u8 x6_2⟩,⟨.slice A7_2 x7_2.length c7_2,5,1,nums .u8 x7_2⟩] [Fq21])) (h:Vo.l2 k_ a1 t2 x6_2 x7_2 x8_2=some r),RL 93 f93 (Vo.R r w) [1,0,1,1,1,1,1] [(1,.slice Ap1 a1.length cp1),(5,.slice A3 t2.length c4),(6,.slice A6_2 x6_2.length c6_2),(7,.slice A7_2 x7_2.length c7_2),(8,.i x8_2)] W:=by
      refine loopI (by intros;rename_i h;simp [Vo.l2] at h) fun k hk ih2 A6_2 c6_2 x6_2 A7_2 c7_2 x7_2 x8_2 W M h=> ?_
      simp only [Vo.l2] at h
      refine .gq 8 ?_
      rcases ift h with ⟨c53,h⟩ | ⟨c53,h⟩
      ·refine .kn 27 c53<| .gq 6 ?_
       obtain ⟨c55,h⟩:=ifd h
       obtain ⟨c56,h⟩:=ifd h
       obtain ⟨uq54,huq54,hvq54⟩:=Each2.at hq1 ([]:Li) (i:=x8_2) c55 c56
       obtain ⟨Aq54,cq54,rfl,hq54⟩:=hvq54
       obtain ⟨pq54,Cq54⟩:=(hr1 _ (hZp1 _ M.kept)).cel c55 c56 huq54
       refine .ix Cq54<| .lc Cq54 ?_
       obtain ⟨t58,ht58,h⟩:=bs h
       refine .ca (Vg.calls (M.or 2) (hq54 _ (hZp1 _ M.kept)) ht58) ?_
       rintro _ W57 ⟨A59,c60,rfl,M_⟩
       replace M:=M.cg M_
       refine .gq 10 ?_
       obtain ⟨t63,ht63,h⟩:=bs h
       refine .ca (Jd.calls (M.or 2) (M.or 0) ht63) ?_
       rintro _ W62 ⟨A64,c65,rfl,M_⟩
       replace M:=M.cg M_
       exact .gq 21<| .at (ih2 k (by omega) A7_2 c7_2 x7_2 A64 c65 t63.1 (I64 (x8_2+1)) (M.pm [2,4,0] [[0]]) h)
      refine .kn 27 c53<| .gq 5 ?_
      obtain ⟨t68,ht68,h⟩:=bs h
      refine .ca (Ql.calls (M.or 0) ht68) ?_
      rintro _ W67 ⟨A69,c70,rfl,M_⟩
      replace M:=M.cg M_
      refine .gq 10 ?_
      obtain ⟨Fq72,hfq72,M⟩:=M.fs 3
      obtain ⟨Fq73,hfq73,M⟩:=M.fs 2
      have hqq74:Each2 ((rNums .u8) (andZ (Oks Fq72) (Oks Fq73))) [.slice A7_2 x7_2.length c7_2,.slice A6_2 x6_2.length c6_2] ([x7_2,x6_2]:Lj):=(.cons (rno (RdF.up hfq72 (fun _ z=>z.1)) (ai (M.oks 1) (M.oks 0))) (.cons (rno (RdF.up hfq73 (fun _ z=>z.2)) (ai (M.oks 1) (M.oks 0))) (Each2.nil _)))
      refine .new 22 1 2 ([.slice A7_2 x7_2.length c7_2,.slice A6_2 x6_2.length c6_2]) M (fun g75 W76 M=> ?_) rfl
      obtain ⟨Fq78,hfq78,M⟩:=M.fs 0
      obtain ⟨t80,ht80,h⟩:=bs h
      refine .ca (Y3.calls ⟨_,_,_,rfl,(hfq78.up (fun _ z=>z.1)),(Each2.up (up_nums .u8) hqq74 (fun _ z=>(ai z.2.1 z.2.2)))⟩ (fun _ z=>(ai ((M.oks 0).kept z) (ai ((M.oks 2).kept z) ((M.oks 1).kept z)))) ht80) ?_
      rintro _ W79 ⟨A81,c82,rfl,M_⟩
      replace M:=M.cg M_
      refine .gq 1 ?_
      obtain ⟨t85,ht85,h⟩:=bs h
      refine .ca (Qn.calls (M.or 0) (M.or 1) ht85) ?_
      rintro _ W84 ⟨A86,c87,rfl,M_⟩
      replace M:=M.cg M_
      refine .gq 10 ?_
      obtain rfl:=sj h
      exact .ret func93 ⟨A86,c87,rfl,(M.pm [0] [])⟩
     exact .at (l2 k k.le_refl A7_1 c7_1 x7_1 A48 c49 t47.1 (I64 (x8_1+1)) (M.pm [2,3,0] [[0]]) h)
    refine .kn 27 c37<| .gq 5 ?_
    obtain ⟨t90,ht90,h⟩:=bs h
    refine .ca (Ql.calls (M.or 0) ht90) ?_
    rintro _ W89 ⟨A91,c92,rfl,M_⟩
    replace M:=M.cg M_
    refine .gq 10 ?_
    obtain ⟨Fq94,hfq94,M⟩:=M.fs 2
    have hqq95:Each2 ((rNums .u8) (andZ (Oks Fq94) (Oks Fq21))) [.slice A7_1 x7_1.length c7_1,.slice A6_1 x6_1.length c6_1] ([x7_1,x6_1]:Lj):=(.cons (rno (RdF.up hfq94 (fun _ z=>z.1)) (ai (M.oks 0) (M.oks 1))) (.cons (rno (RdF.up hrx6_1 (fun _ z=>z.2)) (ai (M.oks 0) (M.oks 1))) (Each2.nil _)))
    refine .new 22 1 2 ([.slice A7_1 x7_1.length c7_1,.slice A6_1 x6_1.length c6_1]) M (fun g96 W97 M=> ?_) rfl
    obtain ⟨Fq99,hfq99,M⟩:=M.fs 0
    obtain ⟨t101,ht101,h⟩:=bs h
    refine .ca (Y3.calls ⟨_,_,_,rfl,(hfq99.up (fun _ z=>z.1)),(Each2.up (up_nums .u8) hqq95 (fun _ z=>(ai z.2.1 z.2.2)))⟩ (fun _ z=>(ai ((M.oks 0).kept z) (ai ((M.oks 1).kept z) ((M.oks 2).kept z)))) ht101) ?_
    rintro _ W100 ⟨A102,c103,rfl,M_⟩
    replace M:=M.cg M_
    refine .gq 1 ?_
    obtain ⟨t106,ht106,h⟩:=bs h
    refine .ca (Qn.calls (M.or 0) (M.or 1) ht106) ?_
    rintro _ W105 ⟨A107,c108,rfl,M_⟩
    replace M:=M.cg M_
    refine .gq 10 ?_
    obtain rfl:=sj h
    exact .ret func93 ⟨A107,c108,rfl,(M.pm [0] [])⟩
   exact .at (l1 k k.le_refl A7_0 c7_0 x7_0 A33 c34 t32.1 (I64 (x8_0+1)) (M.pm [2,0] [[0]]) hrx7_0 h)
  refine .kn 27 c22<| .gq 5 ?_
  obtain ⟨t111,ht111,h⟩:=bs h
  refine .ca (Ql.calls (M.or 0) ht111) ?_
  rintro _ W110 ⟨A112,c113,rfl,M_⟩
  replace M:=M.cg M_
  refine .gq 10 ?_
  have hqq115:Each2 ((rNums .u8) (Oks Fq21)) [.slice A7_0 x7_0.length c7_0,.slice A6_0 x6_0.length c6_0] ([x7_0,x6_0]:Lj):=(.cons (rno hrx7_0 (M.oks 0)) (.cons (rno hrx6_0 (M.oks 0)) (Each2.nil _)))
  refine .new 22 1 2 ([.slice A7_0 x7_0.length c7_0,.slice A6_0 x6_0.length c6_0]) M (fun g116 W117 M=> ?_) rfl
  obtain ⟨Fq119,hfq119,M⟩:=M.fs 0
  obtain ⟨t121,ht121,h⟩:=bs h
  refine .ca (Y3.calls ⟨_,_,_,rfl,(hfq119.up (fun _ z=>z.1)),(Each2.up (up_nums .u8) hqq115 (fun _ z=>z.2))⟩ (fun _ z=>(ai ((M.oks 0).kept z) ((M.oks 1).kept z))) ht121) ?_
  rintro _ W120 ⟨A122,c123,rfl,M_⟩
  replace M:=M.cg M_
  refine .gq 1 ?_
  obtain ⟨t126,ht126,h⟩:=bs h
  refine .ca (Qn.calls (M.or 0) (M.or 1) ht126) ?_
  rintro _ W125 ⟨A127,c128,rfl,M_⟩
  replace M:=M.cg M_
  refine .gq 10 ?_
  obtain rfl:=sj h
  exact .ret func93 ⟨A127,c128,rfl,(M.pm [0] [])⟩
 exact .at (l0 k k.le_refl A14 c15 ((t7.1.take (4:Int).toNat).drop (0:Int).toNat) A18 c19 ((t7.1.take ((t7.1.length:Int):Int).toNat).drop (4:Int).toNat) 0 (M.pm [0] [[0]]) (fun _ z=>hs16 _ (hfq21 _ z)) (fun _ z=>hs20 _ (hfq21 _ z)) h)
mutual
def Vf.l0:Nat→Lk→Bool→Li→Int→Option (Li×Int)
 | 0,_,_,_,_=>none
 | k+1,a0,a2,x1_0,x19_0=>gd (x19_0<(a0.length:Int)) (gd (0≤x19_0) (gd (x19_0<(a0.length:Int)) (if a2=true then (gd (0≤(I64 ((I64 ((a0.length:Int)-1))-x19_0))) (gd ((I64 ((I64 ((a0.length:Int)-1))-x19_0))<(a0.length:Int)) (if (!(a2==(x19_0==1)))=true then (gd ((rdr ([]:Lj) a0 (I64 ((I64 ((a0.length:Int)-1))-x19_0))).length≤1000000000) (gd ((rdr ([]:Lj) a0 (I64 ((I64 ((a0.length:Int)-1))-x19_0))).length=16) ((Vo.f k x1_0 ((rdr ([]:Lj) a0 (I64 ((I64 ((a0.length:Int)-1))-x19_0))).reverse)).bind fun t24=>(Vf.l1 k a0 a2 t24 (I64 (x19_0+1)))))) else ((Vo.f k x1_0 (rdr ([]:Lj) a0 (I64 ((I64 ((a0.length:Int)-1))-x19_0)))).bind fun t79=>(Vf.l2 k a0 a2 t79 (I64 (x19_0+1))))))) else (if (!(a2==(x19_0==1)))=true then (gd ((rdr ([]:Lj) a0 x19_0).length≤1000000000) (gd ((rdr ([]:Lj) a0 x19_0).length=16) ((Vo.f k x1_0 ((rdr ([]:Lj) a0 x19_0).reverse)).bind fun t144=>(Vf.l3 k a0 a2 t144 (I64 (x19_0+1)))))) else ((Vo.f k x1_0 (rdr ([]:Lj) a0 x19_0)).bind fun t199=>(Vf.l2 k a0 a2 t199 (I64 (x19_0+1))))))))
def Vf.l1:Nat→Lk→Bool→Li→Int→Option (Li×Int)
 | 0,_,_,_,_=>none
 | k+1,a0,a2,x1_1,x19_1=>if (decide (x19_1<(a0.length:Int)))=true then (gd (0≤x19_1) (gd (x19_1<(a0.length:Int)) (if a2=true then (gd (0≤(I64 ((I64 ((a0.length:Int)-1))-x19_1))) (gd ((I64 ((I64 ((a0.length:Int)-1))-x19_1))<(a0.length:Int)) (if (!(a2==(x19_1==1)))=true then (gd ((rdr ([]:Lj) a0 (I64 ((I64 ((a0.length:Int)-1))-x19_1))).length≤1000000000) (gd ((rdr ([]:Lj) a0 (I64 ((I64 ((a0.length:Int)-1))-x19_1))).length=16) ((Vo.f k x1_1 ((rdr ([]:Lj) a0 (I64 ((I64 ((a0.length:Int)-1))-x19_1))).reverse)).bind fun t49=>(Vf.l1 k a0 a2 t49 (I64 (x19_1+1)))))) else ((Vo.f k x1_1 (rdr ([]:Lj) a0 (I64 ((I64 ((a0.length:Int)-1))-x19_1)))).bind fun t54=>(Vf.l1 k a0 a2 t54 (I64 (x19_1+1))))))) else (if (!(a2==(x19_1==1)))=true then (gd ((rdr ([]:Lj) a0 x19_1).length≤1000000000) (gd ((rdr ([]:Lj) a0 x19_1).length=16) ((Vo.f k x1_1 ((rdr ([]:Lj) a0 x19_1).reverse)).bind fun t69=>(Vf.l1 k a0 a2 t69 (I64 (x19_1+1)))))) else ((Vo.f k x1_1 (rdr ([]:Lj) a0 x19_1)).bind fun t74=>(Vf.l1 k a0 a2 t74 (I64 (x19_1+1)))))))) else (some (x1_1,0))
def Vf.l2:Nat→Lk→Bool→Li→Int→Option (Li×Int)
 | 0,_,_,_,_=>none
 | k+1,a0,a2,x1_2,x19_2=>if (decide (x19_2<(a0.length:Int)))=true then (gd (0≤x19_2) (gd (x19_2<(a0.length:Int)) (if a2=true then (gd (0≤(I64 ((I64 ((a0.length:Int)-1))-x19_2))) (gd ((I64 ((I64 ((a0.length:Int)-1))-x19_2))<(a0.length:Int)) (if (!(a2==(x19_2==1)))=true then (gd ((rdr ([]:Lj) a0 (I64 ((I64 ((a0.length:Int)-1))-x19_2))).length≤1000000000) (gd ((rdr ([]:Lj) a0 (I64 ((I64 ((a0.length:Int)-1))-x19_2))).length=16) ((Vo.f k x1_2 ((rdr ([]:Lj) a0 (I64 ((I64 ((a0.length:Int)-1))-x19_2))).reverse)).bind fun t104=>(Vf.l2 k a0 a2 t104 (I64 (x19_2+1)))))) else ((Vo.f k x1_2 (rdr ([]:Lj) a0 (I64 ((I64 ((a0.length:Int)-1))-x19_2)))).bind fun t109=>(Vf.l2 k a0 a2 t109 (I64 (x19_2+1))))))) else (if (!(a2==(x19_2==1)))=true then (gd ((rdr ([]:Lj) a0 x19_2).length≤1000000000) (gd ((rdr ([]:Lj) a0 x19_2).length=16) ((Vo.f k x1_2 ((rdr ([]:Lj) a0 x19_2).reverse)).bind fun t124=>(Vf.l2 k a0 a2 t124 (I64 (x19_2+1)))))) else ((Vo.f k x1_2 (rdr ([]:Lj) a0 x19_2)).bind fun t129=>(Vf.l2 k a0 a2 t129 (I64 (x19_2+1)))))))) else (some (x1_2,0))
def Vf.l3:Nat→Lk→Bool→Li→Int→Option (Li×Int)
 | 0,_,_,_,_=>none
 | k+1,a0,a2,x1_3,x19_3=>if (decide (x19_3<(a0.length:Int)))=true then (gd (0≤x19_3) (gd (x19_3<(a0.length:Int)) (if a2=true then (gd (0≤(I64 ((I64 ((a0.length:Int)-1))-x19_3))) (gd ((I64 ((I64 ((a0.length:Int)-1))-x19_3))<(a0.length:Int)) (if (!(a2==(x19_3==1)))=true then (gd ((rdr ([]:Lj) a0 (I64 ((I64 ((a0.length:Int)-1))-x19_3))).length≤1000000000) (gd ((rdr ([]:Lj) a0 (I64 ((I64 ((a0.length:Int)-1))-x19_3))).length=16) ((Vo.f k x1_3 ((rdr ([]:Lj) a0 (I64 ((I64 ((a0.length:Int)-1))-x19_3))).reverse)).bind fun t169=>(Vf.l3 k a0 a2 t169 (I64 (x19_3+1)))))) else ((Vo.f k x1_3 (rdr ([]:Lj) a0 (I64 ((I64 ((a0.length:Int)-1))-x19_3)))).bind fun t174=>(Vf.l3 k a0 a2 t174 (I64 (x19_3+1))))))) else (if (!(a2==(x19_3==1)))=true then (gd ((rdr ([]:Lj) a0 x19_3).length≤1000000000) (gd ((rdr ([]:Lj) a0 x19_3).length=16) ((Vo.f k x1_3 ((rdr ([]:Lj) a0 x19_3).reverse)).bind fun t189=>(Vf.l3 k a0 a2 t189 (I64 (x19_3+1)))))) else ((Vo.f k x1_3 (rdr ([]:Lj) a0 x19_3)).bind fun t194=>(Vf.l3 k a0 a2 t194 (I64 (x19_3+1)))))))) else (some (x1_3,0))
end
def Vf.f (k:Nat) (a0:Lk) (a1:Li) (a2:Bool):Option (Li×Int):=if ((a1.length:Int) != 8)=true then (some (([]:Li),1)) else (Vf.l0 k a0 a2 a1 0)
abbrev Vf.R (r:Li×Int) (w:World):Value→World→Prop:=fun v w'=> ∃A0' c0',v= .tuple #[.slice A0' r.1.length c0',.i r.2]∧Mem w w' (Gs [⟨.slice A0' r.1.length c0',5,1,nums .u8 r.1⟩] [])
theorem Vf.calls {vp0:Value} {a0:Lk} {a1:Li} {a2:Bool} {r:Li×Int} (hr1:Rd w (.slice Ap1 np1 cp1) (nums .u8 a1)) (hp0:(rPtr Rs_des_Des) Zp0 vp0 a0) (hZp0: ∀W,Kept w W→Zp0 W) (h:Vf.f k a0 a1 a2=some r):Calls prog 59 #[vp0,(.slice Ap1 np1 cp1),.bool a2] w (Ret (Vf.R r w)):=by
 obtain rfl:=hr1.ln
 obtain ⟨gp0,_,rfl,hco1,_,rfl,⟨Ao1_0,co1_0,cso1_0,rfl,hro1_0,hqo1_0⟩⟩:=id hp0
 unfold Vf.f at h
 refine calls_S func59 ?_
 have M:=Mem.r0 w
 refine .gq 12 ?_
 rcases ift h with ⟨c2,h⟩ | ⟨c2,h⟩
 ·refine .kn 13 c2<| .gq 6 ?_
  replace M:=M.n1 5
  obtain rfl:=sj h
  exact .ret func59 ⟨none,0,rfl,(M.pm [0] [])⟩
 refine .kn 13 c2<| .gq 8<| .ld (hco1 _ (hZp0 _ M.kept) 0 _ rfl)<| .gq 5 ?_
 have l0: ∀k_≤k,∀(A1_0:Option Addr) (c1_0:Nat) (x1_0:Li) (x19_0:Int) {W:World} (M:Mem w W (Gs [] [])) (hrx1_0:Rd w (.slice A1_0 x1_0.length c1_0) (nums .u8 x1_0)) (h:Vf.l0 k_ a0 a2 x1_0 x19_0=some r),RL 59 f59 (Vf.R r w) [1,1,0,1,0,0] [(0,.pt gp0),(1,.slice A1_0 x1_0.length c1_0),(2,.bool a2),(18,.i (a0.length:Int)),(19,.i x19_0)] W:=by
  refine loopI (by intros;rename_i h;simp [Vf.l0] at h) fun k hk ih0 A1_0 c1_0 x1_0 x19_0 W M hrx1_0 h=> ?_
  simp only [Vf.l0] at h
  refine .gq 5 ?_
  obtain ⟨c4,h⟩:=ifs h
  refine .kn 20 c4<| .gq 14<| .ld (hco1 _ (hZp0 _ M.kept) 0 _ rfl)<| .gq 1 ?_
  obtain ⟨c6,h⟩:=ifd h
  obtain ⟨c7,h⟩:=ifd h
  obtain ⟨uq5,huq5,hvq5⟩:=Each2.at hqo1_0 ([]:Lj) (i:=x19_0) c6 c7
  obtain ⟨Aq5,cq5,csq5,rfl,hrq5,hqq5⟩:=hvq5
  obtain ⟨pq5,Cq5⟩:=(hro1_0 _ (hZp0 _ M.kept)).cel c6 c7 huq5
  refine .ix Cq5<| .lc Cq5<| .gq 9 ?_
  have l2: ∀k_≤k,∀(A1_2:Option Addr) (c1_2:Nat) (x1_2:Li) (x19_2:Int) {W:World} (M:Mem w W (Gs [⟨.slice A1_2 x1_2.length c1_2,5,1,nums .u8 x1_2⟩] [])) (h:Vf.l2 k_ a0 a2 x1_2 x19_2=some r),RL 59 f59 (Vf.R r w) [1,1,0,1,0,0] [(0,.pt gp0),(1,.slice A1_2 x1_2.length c1_2),(2,.bool a2),(18,.i (a0.length:Int)),(19,.i x19_2)] W:=by
   refine loopI (by intros;rename_i h;simp [Vf.l2] at h) fun k hk ih2 A1_2 c1_2 x1_2 x19_2 W M h=> ?_
   simp only [Vf.l2] at h
   refine .gq 5 ?_
   rcases ift h with ⟨c84,h⟩ | ⟨c84,h⟩
   ·refine .kn 20 c84<| .gq 14<| .ld (hco1 _ (hZp0 _ M.kept) 0 _ rfl)<| .gq 1 ?_
    obtain ⟨c86,h⟩:=ifd h
    obtain ⟨c87,h⟩:=ifd h
    obtain ⟨uq85,huq85,hvq85⟩:=Each2.at hqo1_0 ([]:Lj) (i:=x19_2) c86 c87
    obtain ⟨Aq85,cq85,csq85,rfl,hrq85,hqq85⟩:=hvq85
    obtain ⟨pq85,Cq85⟩:=(hro1_0 _ (hZp0 _ M.kept)).cel c86 c87 huq85
    refine .ix Cq85<| .lc Cq85<| .gq 9 ?_
    rcases ift h with ⟨c88,h⟩ | ⟨c88,h⟩
    ·refine .kn 30 c88<| .gq 1<| .at (show RL 59 f59 (Vf.R r w) [1,1,0,1,0,0,1,1,0,0,1,1,0,1,0] [(0,.pt gp0),(1,.slice A1_2 x1_2.length c1_2),(2,.bool a2),(8,.i x19_2),(10,.bool a2),(18,.i (a0.length:Int)),(19,.i x19_2)] _ from .dr [] M fun W89 M=> ?_)
     refine .pz tr [0,1,2]<| .lz tr 3 (fun _ hs=>hco1 _ (hZp0 _ (M.ks hs)) 0 _ rfl)<| .pz tr [4,5,6]<| .lz tr 7 (fun _ hs=>hco1 _ (hZp0 _ (M.ks hs)) 0 _ rfl)<| .pz tr [8,9,10,11] ?_
     obtain ⟨c91,h⟩:=ifd h
     obtain ⟨c92,h⟩:=ifd h
     obtain ⟨uq90,huq90,hvq90⟩:=Each2.at hqo1_0 ([]:Lj) (i:=I64 ((I64 ((a0.length:Int)-1))-x19_2)) c91 c92
     obtain ⟨Aq90,cq90,csq90,rfl,hrq90,hqq90⟩:=hvq90
     obtain ⟨pq90,Cq90⟩:=(hro1_0 _ (hZp0 _ M.kept)).cel c91 c92 huq90
     refine .ix tr 12 Cq90<| .lu tr 13 Cq90 huq90 (fun _ hs=>hro1_0 _ (hZp0 _ (M.ks hs)))<| .pz tr [14]<| .dn tr<| .gq 8 ?_
     rcases ift h with ⟨c93,h⟩ | ⟨c93,h⟩
     ·refine .kn 48 c93<| .gq 4 ?_
      obtain ⟨c95,h⟩:=ifd h
      refine .ca (Y0.rows (hrq90 _ (hZp0 _ M.kept)) (Each2.heads rnums_head hqq90) (by rw [hqq90.1];exact c95)) ?_
      rintro _ W94 ⟨A96,c97,rfl,M_⟩
      rw [hqq90.1] at M_ ⊢
      replace M:=M.cg M_
      refine .gq 4 ?_
      obtain ⟨c100,h⟩:=ifd h
      refine .ca (Y9.rows (M.fm [0] [1] [] rfl rfl rfl) (Each2.heads rnums_head hqq90) (by rw [hqq90.1];exact c100)) ?_
      rintro _ W99 ⟨rfl,M_⟩
      have hq101:=Each2.reverse hqq90
      replace M:=M_.u1
      refine .gq 4 ?_
      obtain ⟨Fq102,hfq102,M⟩:=M.fs 0
      obtain ⟨t104,ht104,h⟩:=bs h
      refine .ca (Vo.calls (M.or 0) ⟨_,_,_,(by rw [List.length_reverse]),(hfq102.up (fun _ z=>z.1)),(Each2.up (up_nums .u8) hq101 (fun _ z=>z.2))⟩ (fun _ z=>(ai ((M.oks 0).kept z) (hZp0 _ (M.kept.trans z)))) ht104) ?_
      rintro _ W103 ⟨A105,c106,rfl,M_⟩
      replace M:=M.cg M_
      exact .gq 8<| .at (ih2 k (by omega) A105 c106 t104 (I64 (x19_2+1)) (M.pm [0] []) h)
     refine .kn 48 c93<| .gq 5 ?_
     obtain ⟨t109,ht109,h⟩:=bs h
     refine .ca (Vo.calls (M.or 0) ⟨_,_,_,rfl,hrq90,hqq90⟩ (zp M hZp0) ht109) ?_
     rintro _ W108 ⟨A110,c111,rfl,M_⟩
     replace M:=M.cg M_
     exact .gq 8<| .at (ih2 k (by omega) A110 c111 t109 (I64 (x19_2+1)) (M.pm [0] []) h)
    refine .kn 30 c88<| .gq 10 ?_
    rcases ift h with ⟨c113,h⟩ | ⟨c113,h⟩
    ·refine .kn 48 c113<| .gq 4 ?_
     obtain ⟨c115,h⟩:=ifd h
     refine .ca (Y0.rows (hrq85 _ (hZp0 _ M.kept)) (Each2.heads rnums_head hqq85) (by rw [hqq85.1];exact c115)) ?_
     rintro _ W114 ⟨A116,c117,rfl,M_⟩
     rw [hqq85.1] at M_ ⊢
     replace M:=M.cg M_
     refine .gq 4 ?_
     obtain ⟨c120,h⟩:=ifd h
     refine .ca (Y9.rows (M.fm [0] [1] [] rfl rfl rfl) (Each2.heads rnums_head hqq85) (by rw [hqq85.1];exact c120)) ?_
     rintro _ W119 ⟨rfl,M_⟩
     have hq121:=Each2.reverse hqq85
     replace M:=M_.u1
     refine .gq 4 ?_
     obtain ⟨Fq122,hfq122,M⟩:=M.fs 0
     obtain ⟨t124,ht124,h⟩:=bs h
     refine .ca (Vo.calls (M.or 0) ⟨_,_,_,(by rw [List.length_reverse]),(hfq122.up (fun _ z=>z.1)),(Each2.up (up_nums .u8) hq121 (fun _ z=>z.2))⟩ (fun _ z=>(ai ((M.oks 0).kept z) (hZp0 _ (M.kept.trans z)))) ht124) ?_
     rintro _ W123 ⟨A125,c126,rfl,M_⟩
     replace M:=M.cg M_
     exact .gq 8<| .at (ih2 k (by omega) A125 c126 t124 (I64 (x19_2+1)) (M.pm [0] []) h)
    refine .kn 48 c113<| .gq 5 ?_
    obtain ⟨t129,ht129,h⟩:=bs h
    refine .ca (Vo.calls (M.or 0) ⟨_,_,_,rfl,hrq85,hqq85⟩ (zp M hZp0) ht129) ?_
    rintro _ W128 ⟨A130,c131,rfl,M_⟩
    replace M:=M.cg M_
    exact .gq 8<| .at (ih2 k (by omega) A130 c131 t129 (I64 (x19_2+1)) (M.pm [0] []) h)
   refine .kn 20 c84<| .gq 8 ?_
   obtain rfl:=sj h
   exact .ret func59 ⟨A1_2,c1_2,rfl,(M.pm [0] [])⟩
  rcases ift h with ⟨c8,h⟩ | ⟨c8,h⟩
  ·refine .kn 30 c8<| .gq 1<| .at (show RL 59 f59 (Vf.R r w) [1,1,0,1,0,0,1,1,0,0,1,1,0,1,0] [(0,.pt gp0),(1,.slice A1_0 x1_0.length c1_0),(2,.bool a2),(8,.i x19_0),(10,.bool a2),(18,.i (a0.length:Int)),(19,.i x19_0)] _ from .dr [] M fun W9 M=> ?_)
   refine .pz tr [0,1,2]<| .lz tr 3 (fun _ hs=>hco1 _ (hZp0 _ (M.ks hs)) 0 _ rfl)<| .pz tr [4,5,6]<| .lz tr 7 (fun _ hs=>hco1 _ (hZp0 _ (M.ks hs)) 0 _ rfl)<| .pz tr [8,9,10,11] ?_
   obtain ⟨c11,h⟩:=ifd h
   obtain ⟨c12,h⟩:=ifd h
   obtain ⟨uq10,huq10,hvq10⟩:=Each2.at hqo1_0 ([]:Lj) (i:=I64 ((I64 ((a0.length:Int)-1))-x19_0)) c11 c12
   obtain ⟨Aq10,cq10,csq10,rfl,hrq10,hqq10⟩:=hvq10
   obtain ⟨pq10,Cq10⟩:=(hro1_0 _ (hZp0 _ M.kept)).cel c11 c12 huq10
   refine .ix tr 12 Cq10<| .lu tr 13 Cq10 huq10 (fun _ hs=>hro1_0 _ (hZp0 _ (M.ks hs)))<| .pz tr [14]<| .dn tr<| .gq 8 ?_
   rcases ift h with ⟨c13,h⟩ | ⟨c13,h⟩
   ·refine .kn 48 c13<| .gq 4 ?_
    obtain ⟨c15,h⟩:=ifd h
    refine .ca (Y0.rows (hrq10 _ (hZp0 _ M.kept)) (Each2.heads rnums_head hqq10) (by rw [hqq10.1];exact c15)) ?_
    rintro _ W14 ⟨A16,c17,rfl,M_⟩
    rw [hqq10.1] at M_ ⊢
    replace M:=M.cg M_
    refine .gq 4 ?_
    obtain ⟨c20,h⟩:=ifd h
    refine .ca (Y9.rows (M.fm [0] [] [] rfl rfl rfl) (Each2.heads rnums_head hqq10) (by rw [hqq10.1];exact c20)) ?_
    rintro _ W19 ⟨rfl,M_⟩
    have hq21:=Each2.reverse hqq10
    replace M:=M_.u1
    refine .gq 4 ?_
    obtain ⟨Fq22,hfq22,M⟩:=M.fs 0
    obtain ⟨t24,ht24,h⟩:=bs h
    refine .ca (Vo.calls (hrx1_0.mono M.below) ⟨_,_,_,(by rw [List.length_reverse]),(hfq22.up (fun _ z=>z.1)),(Each2.up (up_nums .u8) hq21 (fun _ z=>z.2))⟩ (fun _ z=>(ai ((M.oks 0).kept z) (hZp0 _ (M.kept.trans z)))) ht24) ?_
    rintro _ W23 ⟨A25,c26,rfl,M_⟩
    replace M:=M.cg M_
    refine .gq 8 ?_
    have l1: ∀k_≤k,∀(A1_1:Option Addr) (c1_1:Nat) (x1_1:Li) (x19_1:Int) {W:World} (M:Mem w W (Gs [⟨.slice A1_1 x1_1.length c1_1,5,1,nums .u8 x1_1⟩] [Fq22])) (h:Vf.l1 k_ a0 a2 x1_1 x19_1=some r),RL 59 f59 (Vf.R r w) [1,1,0,1,0,0] [(0,.pt gp0),(1,.slice A1_1 x1_1.length c1_1),(2,.bool a2),(18,.i (a0.length:Int)),(19,.i x19_1)] W:=by
     refine loopI (by intros;rename_i h;simp [Vf.l1] at h) fun k hk ih1 A1_1 c1_1 x1_1 x19_1 W M h=> ?_
     simp only [Vf.l1] at h
     refine .gq 5 ?_
     rcases ift h with ⟨c29,h⟩ | ⟨c29,h⟩
     ·refine .kn 20 c29<| .gq 14<| .ld (hco1 _ (hZp0 _ M.kept) 0 _ rfl)<| .gq 1 ?_
      obtain ⟨c31,h⟩:=ifd h
      obtain ⟨c32,h⟩:=ifd h
      obtain ⟨uq30,huq30,hvq30⟩:=Each2.at hqo1_0 ([]:Lj) (i:=x19_1) c31 c32
      obtain ⟨Aq30,cq30,csq30,rfl,hrq30,hqq30⟩:=hvq30
      obtain ⟨pq30,Cq30⟩:=(hro1_0 _ (hZp0 _ M.kept)).cel c31 c32 huq30
      refine .ix Cq30<| .lc Cq30<| .gq 9 ?_
      rcases ift h with ⟨c33,h⟩ | ⟨c33,h⟩
      ·refine .kn 30 c33<| .gq 1<| .at (show RL 59 f59 (Vf.R r w) [1,1,0,1,0,0,1,1,0,0,1,1,0,1,0] [(0,.pt gp0),(1,.slice A1_1 x1_1.length c1_1),(2,.bool a2),(8,.i x19_1),(10,.bool a2),(18,.i (a0.length:Int)),(19,.i x19_1)] _ from .dr [] M fun W34 M=> ?_)
       refine .pz tr [0,1,2]<| .lz tr 3 (fun _ hs=>hco1 _ (hZp0 _ (M.ks hs)) 0 _ rfl)<| .pz tr [4,5,6]<| .lz tr 7 (fun _ hs=>hco1 _ (hZp0 _ (M.ks hs)) 0 _ rfl)<| .pz tr [8,9,10,11] ?_
       obtain ⟨c36,h⟩:=ifd h
       obtain ⟨c37,h⟩:=ifd h
       obtain ⟨uq35,huq35,hvq35⟩:=Each2.at hqo1_0 ([]:Lj) (i:=I64 ((I64 ((a0.length:Int)-1))-x19_1)) c36 c37
       obtain ⟨Aq35,cq35,csq35,rfl,hrq35,hqq35⟩:=hvq35
       obtain ⟨pq35,Cq35⟩:=(hro1_0 _ (hZp0 _ M.kept)).cel c36 c37 huq35
       refine .ix tr 12 Cq35<| .lu tr 13 Cq35 huq35 (fun _ hs=>hro1_0 _ (hZp0 _ (M.ks hs)))<| .pz tr [14]<| .dn tr<| .gq 8 ?_
       rcases ift h with ⟨c38,h⟩ | ⟨c38,h⟩
       ·refine .kn 48 c38<| .gq 4 ?_
        obtain ⟨c40,h⟩:=ifd h
        refine .ca (Y0.rows (hrq35 _ (hZp0 _ M.kept)) (Each2.heads rnums_head hqq35) (by rw [hqq35.1];exact c40)) ?_
        rintro _ W39 ⟨A41,c42,rfl,M_⟩
        rw [hqq35.1] at M_ ⊢
        replace M:=M.cg M_
        refine .gq 4 ?_
        obtain ⟨c45,h⟩:=ifd h
        refine .ca (Y9.rows (M.fm [0] [1] [0] rfl rfl rfl) (Each2.heads rnums_head hqq35) (by rw [hqq35.1];exact c45)) ?_
        rintro _ W44 ⟨rfl,M_⟩
        have hq46:=Each2.reverse hqq35
        replace M:=M_.u1
        refine .gq 4 ?_
        obtain ⟨Fq47,hfq47,M⟩:=M.fs 0
        obtain ⟨t49,ht49,h⟩:=bs h
        refine .ca (Vo.calls (M.or 0) ⟨_,_,_,(by rw [List.length_reverse]),(hfq47.up (fun _ z=>z.1)),(Each2.up (up_nums .u8) hq46 (fun _ z=>z.2))⟩ (fun _ z=>(ai ((M.oks 0).kept z) (hZp0 _ (M.kept.trans z)))) ht49) ?_
        rintro _ W48 ⟨A50,c51,rfl,M_⟩
        replace M:=M.cg M_
        exact .gq 8<| .at (ih1 k (by omega) A50 c51 t49 (I64 (x19_1+1)) (M.pm [0] [[1]]) h)
       refine .kn 48 c38<| .gq 5 ?_
       obtain ⟨t54,ht54,h⟩:=bs h
       refine .ca (Vo.calls (M.or 0) ⟨_,_,_,rfl,hrq35,hqq35⟩ (zp M hZp0) ht54) ?_
       rintro _ W53 ⟨A55,c56,rfl,M_⟩
       replace M:=M.cg M_
       exact .gq 8<| .at (ih1 k (by omega) A55 c56 t54 (I64 (x19_1+1)) (M.pm [0] [[0]]) h)
      refine .kn 30 c33<| .gq 10 ?_
      rcases ift h with ⟨c58,h⟩ | ⟨c58,h⟩
      ·refine .kn 48 c58<| .gq 4 ?_
       obtain ⟨c60,h⟩:=ifd h
       refine .ca (Y0.rows (hrq30 _ (hZp0 _ M.kept)) (Each2.heads rnums_head hqq30) (by rw [hqq30.1];exact c60)) ?_
       rintro _ W59 ⟨A61,c62,rfl,M_⟩
       rw [hqq30.1] at M_ ⊢
       replace M:=M.cg M_
       refine .gq 4 ?_
       obtain ⟨c65,h⟩:=ifd h
       refine .ca (Y9.rows (M.fm [0] [1] [0] rfl rfl rfl) (Each2.heads rnums_head hqq30) (by rw [hqq30.1];exact c65)) ?_
       rintro _ W64 ⟨rfl,M_⟩
       have hq66:=Each2.reverse hqq30
       replace M:=M_.u1
       refine .gq 4 ?_
       obtain ⟨Fq67,hfq67,M⟩:=M.fs 0
       obtain ⟨t69,ht69,h⟩:=bs h
       refine .ca (Vo.calls (M.or 0) ⟨_,_,_,(by rw [List.length_reverse]),(hfq67.up (fun _ z=>z.1)),(Each2.up (up_nums .u8) hq66 (fun _ z=>z.2))⟩ (fun _ z=>(ai ((M.oks 0).kept z) (hZp0 _ (M.kept.trans z)))) ht69) ?_
       rintro _ W68 ⟨A70,c71,rfl,M_⟩
       replace M:=M.cg M_
       exact .gq 8<| .at (ih1 k (by omega) A70 c71 t69 (I64 (x19_1+1)) (M.pm [0] [[1]]) h)
      refine .kn 48 c58<| .gq 5 ?_
      obtain ⟨t74,ht74,h⟩:=bs h
      refine .ca (Vo.calls (M.or 0) ⟨_,_,_,rfl,hrq30,hqq30⟩ (zp M hZp0) ht74) ?_
      rintro _ W73 ⟨A75,c76,rfl,M_⟩
      replace M:=M.cg M_
      exact .gq 8<| .at (ih1 k (by omega) A75 c76 t74 (I64 (x19_1+1)) (M.pm [0] [[0]]) h)
     refine .kn 20 c29<| .gq 8 ?_
     obtain rfl:=sj h
     exact .ret func59 ⟨A1_1,c1_1,rfl,(M.pm [0] [])⟩
    exact .at (l1 k k.le_refl A25 c26 t24 (I64 (x19_0+1)) (M.pm [0] [[0]]) h)
   refine .kn 48 c13<| .gq 5 ?_
   obtain ⟨t79,ht79,h⟩:=bs h
   refine .ca (Vo.calls (hrx1_0.mono M.below) ⟨_,_,_,rfl,hrq10,hqq10⟩ (zp M hZp0) ht79) ?_
   rintro _ W78 ⟨A80,c81,rfl,M_⟩
   replace M:=M.cg M_
   exact .gq 8<| .at (l2 k k.le_refl A80 c81 t79 (I64 (x19_0+1)) (M.pm [0] []) h)
  refine .kn 30 c8<| .gq 10 ?_
  rcases ift h with ⟨c133,h⟩ | ⟨c133,h⟩
  ·refine .kn 48 c133<| .gq 4 ?_
   obtain ⟨c135,h⟩:=ifd h
   refine .ca (Y0.rows (hrq5 _ (hZp0 _ M.kept)) (Each2.heads rnums_head hqq5) (by rw [hqq5.1];exact c135)) ?_
   rintro _ W134 ⟨A136,c137,rfl,M_⟩
   rw [hqq5.1] at M_ ⊢
   replace M:=M.cg M_
   refine .gq 4 ?_
   obtain ⟨c140,h⟩:=ifd h
   refine .ca (Y9.rows (M.fm [0] [] [] rfl rfl rfl) (Each2.heads rnums_head hqq5) (by rw [hqq5.1];exact c140)) ?_
   rintro _ W139 ⟨rfl,M_⟩
   have hq141:=Each2.reverse hqq5
   replace M:=M_.u1
   refine .gq 4 ?_
   obtain ⟨Fq142,hfq142,M⟩:=M.fs 0
   obtain ⟨t144,ht144,h⟩:=bs h
   refine .ca (Vo.calls (hrx1_0.mono M.below) ⟨_,_,_,(by rw [List.length_reverse]),(hfq142.up (fun _ z=>z.1)),(Each2.up (up_nums .u8) hq141 (fun _ z=>z.2))⟩ (fun _ z=>(ai ((M.oks 0).kept z) (hZp0 _ (M.kept.trans z)))) ht144) ?_
   rintro _ W143 ⟨A145,c146,rfl,M_⟩
   replace M:=M.cg M_
   refine .gq 8 ?_
   have l3: ∀k_≤k,∀(A1_3:Option Addr) (c1_3:Nat) (x1_3:Li) (x19_3:Int) {W:World} (M:Mem w W (Gs [⟨.slice A1_3 x1_3.length c1_3,5,1,nums .u8 x1_3⟩] [Fq142])) (h:Vf.l3 k_ a0 a2 x1_3 x19_3=some r),RL 59 f59 (Vf.R r w) [1,1,0,1,0,0] [(0,.pt gp0),(1,.slice A1_3 x1_3.length c1_3),(2,.bool a2),(18,.i (a0.length:Int)),(19,.i x19_3)] W:=by
    refine loopI (by intros;rename_i h;simp [Vf.l3] at h) fun k hk ih3 A1_3 c1_3 x1_3 x19_3 W M h=> ?_
    simp only [Vf.l3] at h
    refine .gq 5 ?_
    rcases ift h with ⟨c149,h⟩ | ⟨c149,h⟩
    ·refine .kn 20 c149<| .gq 14<| .ld (hco1 _ (hZp0 _ M.kept) 0 _ rfl)<| .gq 1 ?_
     obtain ⟨c151,h⟩:=ifd h
     obtain ⟨c152,h⟩:=ifd h
     obtain ⟨uq150,huq150,hvq150⟩:=Each2.at hqo1_0 ([]:Lj) (i:=x19_3) c151 c152
     obtain ⟨Aq150,cq150,csq150,rfl,hrq150,hqq150⟩:=hvq150
     obtain ⟨pq150,Cq150⟩:=(hro1_0 _ (hZp0 _ M.kept)).cel c151 c152 huq150
     refine .ix Cq150<| .lc Cq150<| .gq 9 ?_
     rcases ift h with ⟨c153,h⟩ | ⟨c153,h⟩
     ·refine .kn 30 c153<| .gq 1<| .at (show RL 59 f59 (Vf.R r w) [1,1,0,1,0,0,1,1,0,0,1,1,0,1,0] [(0,.pt gp0),(1,.slice A1_3 x1_3.length c1_3),(2,.bool a2),(8,.i x19_3),(10,.bool a2),(18,.i (a0.length:Int)),(19,.i x19_3)] _ from .dr [] M fun W154 M=> ?_)
      refine .pz tr [0,1,2]<| .lz tr 3 (fun _ hs=>hco1 _ (hZp0 _ (M.ks hs)) 0 _ rfl)<| .pz tr [4,5,6]<| .lz tr 7 (fun _ hs=>hco1 _ (hZp0 _ (M.ks hs)) 0 _ rfl)<| .pz tr [8,9,10,11] ?_
      obtain ⟨c156,h⟩:=ifd h
      obtain ⟨c157,h⟩:=ifd h
      obtain ⟨uq155,huq155,hvq155⟩:=Each2.at hqo1_0 ([]:Lj) (i:=I64 ((I64 ((a0.length:Int)-1))-x19_3)) c156 c157
      obtain ⟨Aq155,cq155,csq155,rfl,hrq155,hqq155⟩:=hvq155
      obtain ⟨pq155,Cq155⟩:=(hro1_0 _ (hZp0 _ M.kept)).cel c156 c157 huq155
      refine .ix tr 12 Cq155<| .lu tr 13 Cq155 huq155 (fun _ hs=>hro1_0 _ (hZp0 _ (M.ks hs)))<| .pz tr [14]<| .dn tr<| .gq 8 ?_
      rcases ift h with ⟨c158,h⟩ | ⟨c158,h⟩
      ·refine .kn 48 c158<| .gq 4 ?_
       obtain ⟨c160,h⟩:=ifd h
       refine .ca (Y0.rows (hrq155 _ (hZp0 _ M.kept)) (Each2.heads rnums_head hqq155) (by rw [hqq155.1];exact c160)) ?_
       rintro _ W159 ⟨A161,c162,rfl,M_⟩
       rw [hqq155.1] at M_ ⊢
       replace M:=M.cg M_
       refine .gq 4 ?_
       obtain ⟨c165,h⟩:=ifd h
       refine .ca (Y9.rows (M.fm [0] [1] [0] rfl rfl rfl) (Each2.heads rnums_head hqq155) (by rw [hqq155.1];exact c165)) ?_
       rintro _ W164 ⟨rfl,M_⟩
       have hq166:=Each2.reverse hqq155
       replace M:=M_.u1
       refine .gq 4 ?_
       obtain ⟨Fq167,hfq167,M⟩:=M.fs 0
       obtain ⟨t169,ht169,h⟩:=bs h
       refine .ca (Vo.calls (M.or 0) ⟨_,_,_,(by rw [List.length_reverse]),(hfq167.up (fun _ z=>z.1)),(Each2.up (up_nums .u8) hq166 (fun _ z=>z.2))⟩ (fun _ z=>(ai ((M.oks 0).kept z) (hZp0 _ (M.kept.trans z)))) ht169) ?_
       rintro _ W168 ⟨A170,c171,rfl,M_⟩
       replace M:=M.cg M_
       exact .gq 8<| .at (ih3 k (by omega) A170 c171 t169 (I64 (x19_3+1)) (M.pm [0] [[1]]) h)
      refine .kn 48 c158<| .gq 5 ?_
      obtain ⟨t174,ht174,h⟩:=bs h
      refine .ca (Vo.calls (M.or 0) ⟨_,_,_,rfl,hrq155,hqq155⟩ (zp M hZp0) ht174) ?_
      rintro _ W173 ⟨A175,c176,rfl,M_⟩
      replace M:=M.cg M_
      exact .gq 8<| .at (ih3 k (by omega) A175 c176 t174 (I64 (x19_3+1)) (M.pm [0] [[0]]) h)
     refine .kn 30 c153<| .gq 10 ?_
     rcases ift h with ⟨c178,h⟩ | ⟨c178,h⟩
     ·refine .kn 48 c178<| .gq 4 ?_
      obtain ⟨c180,h⟩:=ifd h
      refine .ca (Y0.rows (hrq150 _ (hZp0 _ M.kept)) (Each2.heads rnums_head hqq150) (by rw [hqq150.1];exact c180)) ?_
      rintro _ W179 ⟨A181,c182,rfl,M_⟩
      rw [hqq150.1] at M_ ⊢
      replace M:=M.cg M_
      refine .gq 4 ?_
      obtain ⟨c185,h⟩:=ifd h
      refine .ca (Y9.rows (M.fm [0] [1] [0] rfl rfl rfl) (Each2.heads rnums_head hqq150) (by rw [hqq150.1];exact c185)) ?_
      rintro _ W184 ⟨rfl,M_⟩
      have hq186:=Each2.reverse hqq150
      replace M:=M_.u1
      refine .gq 4 ?_
      obtain ⟨Fq187,hfq187,M⟩:=M.fs 0
      obtain ⟨t189,ht189,h⟩:=bs h
      refine .ca (Vo.calls (M.or 0) ⟨_,_,_,(by rw [List.length_reverse]),(hfq187.up (fun _ z=>z.1)),(Each2.up (up_nums .u8) hq186 (fun _ z=>z.2))⟩ (fun _ z=>(ai ((M.oks 0).kept z) (hZp0 _ (M.kept.trans z)))) ht189) ?_
      rintro _ W188 ⟨A190,c191,rfl,M_⟩
      replace M:=M.cg M_
      exact .gq 8<| .at (ih3 k (by omega) A190 c191 t189 (I64 (x19_3+1)) (M.pm [0] [[1]]) h)
     refine .kn 48 c178<| .gq 5 ?_
     obtain ⟨t194,ht194,h⟩:=bs h
     refine .ca (Vo.calls (M.or 0) ⟨_,_,_,rfl,hrq150,hqq150⟩ (zp M hZp0) ht194) ?_
     rintro _ W193 ⟨A195,c196,rfl,M_⟩
     replace M:=M.cg M_
     exact .gq 8<| .at (ih3 k (by omega) A195 c196 t194 (I64 (x19_3+1)) (M.pm [0] [[0]]) h)
    refine .kn 20 c149<| .gq 8 ?_
    obtain rfl:=sj h
    exact .ret func59 ⟨A1_3,c1_3,rfl,(M.pm [0] [])⟩
   exact .at (l3 k k.le_refl A145 c146 t144 (I64 (x19_0+1)) (M.pm [0] [[0]]) h)
  refine .kn 48 c133<| .gq 5 ?_
  obtain ⟨t199,ht199,h⟩:=bs h
  refine .ca (Vo.calls (hrx1_0.mono M.below) ⟨_,_,_,rfl,hrq5,hqq5⟩ (zp M hZp0) ht199) ?_
  rintro _ W198 ⟨A200,c201,rfl,M_⟩
  replace M:=M.cg M_
  exact .gq 8<| .at (l2 k k.le_refl A200 c201 t199 (I64 (x19_0+1)) (M.pm [0] []) h)
 exact .at (l0 k k.le_refl Ap1 cp1 a1 0 (M.pm [] []) hr1 h)
def Vy.f (k:Nat) (a0:Int) (a1:Int):Option (Int):=some (Int.tmod (I64 (a0+a1)) 65536)
theorem Vy.calls {a0:Int} {a1:Int} {r:Int} (h:Vy.f k a0 a1=some r):Calls prog 145 #[.i a0,.i a1] w (Ret fun v w'=>v= .i r∧Mem w w' (Gs [] [])):=by
 unfold Vy.f at h
 refine calls_S func145 ?_
 have M:=Mem.r0 w
 refine .gq 12 ?_
 obtain rfl:=sj h
 exact .ret func145 ⟨rfl,(M.pm [] [])⟩
def V1.l0:Nat→Li→Int→Int→Int→Int→Option Li
 | 0,_,_,_,_,_=>none
 | k+1,x1_0,x5_0,x6_0,x7_0,x8_0=>gd (0<(x1_0.length:Int)) (gd (1<(x1_0.length:Int)) (gd (2<(x1_0.length:Int)) (gd (3<(x1_0.length:Int)) ((Vw.f k x5_0 (rd x1_0 0)).bind fun t20=>((Vy.f k x6_0 (rd x1_0 1)).bind fun t22=>((Vy.f k x7_0 (rd x1_0 2)).bind fun t24=>((Vw.f k x8_0 (rd x1_0 3)).bind fun t26=>(if (decide ((x1_0.length:Int)>4))=true then (gd (4<(x1_0.length:Int)) ((Vw.f k (bxor .i64 t20 t24) (rd x1_0 4)).bind fun t31=>(gd (5<(x1_0.length:Int)) ((Vy.f k (bxor .i64 t22 t26) t31).bind fun t36=>((Vw.f k t36 (rd x1_0 5)).bind fun t38=>((Vy.f k t31 t38).bind fun t40=>(gd (6≤(x1_0.length:Int)) ((some (((((x1_0.take ((x1_0.length:Int):Int).toNat).drop (6:Int).toNat).length:Int)==4):Bool)).bind fun y45=>(if y45=true then (V1.l0 k ((x1_0.take ((x1_0.length:Int):Int).toNat).drop (6:Int).toNat) (bxor .i64 t20 t38) (bxor .i64 t22 t40) (bxor .i64 t24 t38) (bxor .i64 t26 t40)) else (V1.l0 k ((x1_0.take ((x1_0.length:Int):Int).toNat).drop (6:Int).toNat) (bxor .i64 t20 t38) (bxor .i64 t24 t38) (bxor .i64 t22 t40) (bxor .i64 t26 t40))))))))))) else (some ([t20,t22,t24,t26]:Li))))))))))
def V1.f (k:Nat) (a0:Li) (a1:Li):Option Li:=gd (0<(a0.length:Int)) (gd (1<(a0.length:Int)) (gd (2<(a0.length:Int)) (gd (3<(a0.length:Int)) (V1.l0 k a1 (rd a0 0) (rd a0 1) (rd a0 2) (rd a0 3)))))
abbrev V1.R (r:Li) (w:World):Value→World→Prop:=fun v w'=> ∃A0' c0',v= .slice A0' r.length c0'∧Mem w w' (Gs [⟨.slice A0' r.length c0',3,1,nums .i64 r⟩] [])
theorem V1.calls {a0:Li} {a1:Li} {r:Li} (hr0:Rd w (.slice Ap0 np0 cp0) (nums .i64 a0)) (hr1:Rd w (.slice Ap1 np1 cp1) (nums .i64 a1)) (h:V1.f k a0 a1=some r):Calls prog 96 #[(.slice Ap0 np0 cp0),(.slice Ap1 np1 cp1)] w (Ret (V1.R r w)):=by
 obtain rfl:=hr0.ln
 obtain rfl:=hr1.ln
 unfold V1.f at h
 refine calls_S func96 ?_
 have M:=Mem.r0 w
 refine .gq 6<| .at (show RL 96 f96 (V1.R r w) [1,0,0] [(0,.slice Ap0 a0.length cp0),(1,.slice Ap1 a1.length cp1)] _ from .dr [] M fun W1 M=> ?_)
 refine .pz tr [0] ?_
 obtain ⟨c3,h⟩:=ifd h
 obtain ⟨pq2,Cq2⟩:=(hr0.mono M.below).na (i:=0) (by omega) c3
 refine .ix tr 1 Cq2<| .ln tr 2 Cq2 (fun _ hs=>(Rd.kept hr0 (M.ks hs)))<| .pz tr [3] ?_
 obtain ⟨c5,h⟩:=ifd h
 obtain ⟨pq4,Cq4⟩:=(hr0.mono M.below).na (i:=1) (by omega) c5
 refine .ix tr 4 Cq4<| .ln tr 5 Cq4 (fun _ hs=>(Rd.kept hr0 (M.ks hs)))<| .pz tr [6] ?_
 obtain ⟨c7,h⟩:=ifd h
 obtain ⟨pq6,Cq6⟩:=(hr0.mono M.below).na (i:=2) (by omega) c7
 refine .ix tr 7 Cq6<| .ln tr 8 Cq6 (fun _ hs=>(Rd.kept hr0 (M.ks hs)))<| .pz tr [9] ?_
 obtain ⟨c9,h⟩:=ifd h
 obtain ⟨pq8,Cq8⟩:=(hr0.mono M.below).na (i:=3) (by omega) c9
 refine .ix tr 10 Cq8<| .ln tr 11 Cq8 (fun _ hs=>(Rd.kept hr0 (M.ks hs)))<| .pz tr [12,13,14,15]<| .dn tr<| .gq 2 ?_
 have l0: ∀k_≤k,∀(A1_0:Option Addr) (c1_0:Nat) (x1_0:Li) (x5_0:Int) (x6_0:Int) (x7_0:Int) (x8_0:Int) {W:World} (M:Mem w W (Gs [] [])) (hrx1_0:Rd w (.slice A1_0 x1_0.length c1_0) (nums .i64 x1_0)) (h:V1.l0 k_ x1_0 x5_0 x6_0 x7_0 x8_0=some r),RL 96 f96 (V1.R r w) [1,0,1,1] [(1,.slice A1_0 x1_0.length c1_0),(5,.i x5_0),(6,.i x6_0),(7,.i x7_0),(8,.i x8_0)] W:=by
  refine loopI (by intros;rename_i h;simp [V1.l0] at h) fun k hk ih0 A1_0 c1_0 x1_0 x5_0 x6_0 x7_0 x8_0 W M hrx1_0 h=> ?_
  simp only [V1.l0] at h
  refine .gq 1<| .at (show RL 96 f96 (V1.R r w) [1,0,1,1,0] [(1,.slice A1_0 x1_0.length c1_0),(5,.i x5_0),(6,.i x6_0),(7,.i x7_0),(8,.i x8_0)] _ from .dr [] M fun W10 M=> ?_)
  refine .pz tr [0,1] ?_
  obtain ⟨c12,h⟩:=ifd h
  obtain ⟨pq11,Cq11⟩:=(hrx1_0.mono M.below).na (i:=0) (by omega) c12
  refine .ix tr 2 Cq11<| .ln tr 3 Cq11 (fun _ hs=>(Rd.kept hrx1_0 (M.ks hs)))<| .pz tr [5,6] ?_
  obtain ⟨c14,h⟩:=ifd h
  obtain ⟨pq13,Cq13⟩:=(hrx1_0.mono M.below).na (i:=1) (by omega) c14
  refine .ix tr 7 Cq13<| .ln tr 8 Cq13 (fun _ hs=>(Rd.kept hrx1_0 (M.ks hs)))<| .pz tr [10,11] ?_
  obtain ⟨c16,h⟩:=ifd h
  obtain ⟨pq15,Cq15⟩:=(hrx1_0.mono M.below).na (i:=2) (by omega) c16
  refine .ix tr 12 Cq15<| .ln tr 13 Cq15 (fun _ hs=>(Rd.kept hrx1_0 (M.ks hs)))<| .pz tr [15,16] ?_
  obtain ⟨c18,h⟩:=ifd h
  obtain ⟨pq17,Cq17⟩:=(hrx1_0.mono M.below).na (i:=3) (by omega) c18
  refine .ix tr 17 Cq17<| .ln tr 18 Cq17 (fun _ hs=>(Rd.kept hrx1_0 (M.ks hs))) ?_
  obtain ⟨t20,ht20,h⟩:=bs h
  refine .a1 tr 4<| .ca (Vw.calls ht20) ?_
  rintro _ W19 ⟨rfl,M_⟩
  refine .ca M_ [] ?_
  replace M:=M.cg M_
  obtain ⟨t22,ht22,h⟩:=bs h
  refine .a1 tr 9<| .ca (Vy.calls ht22) ?_
  rintro _ W21 ⟨rfl,M_⟩
  refine .ca M_ [] ?_
  replace M:=M.cg M_
  obtain ⟨t24,ht24,h⟩:=bs h
  refine .a1 tr 14<| .ca (Vy.calls ht24) ?_
  rintro _ W23 ⟨rfl,M_⟩
  refine .ca M_ [] ?_
  replace M:=M.cg M_
  obtain ⟨t26,ht26,h⟩:=bs h
  refine .a1 tr 19<| .ca (Vw.calls ht26) ?_
  rintro _ W25 ⟨rfl,M_⟩
  refine .ca M_ [] ?_
  replace M:=M.cg M_
  refine .pz tr [20,21,22,23]<| .dn tr<| .gq 7 ?_
  rcases ift h with ⟨c27,h⟩ | ⟨c27,h⟩
  ·refine .kn 45 c27<| .gq 7 ?_
   obtain ⟨c29,h⟩:=ifd h
   obtain ⟨pq28,Cq28⟩:=(hrx1_0.mono M.below).na (i:=4) (by omega) c29
   refine .ix Cq28<| .lc Cq28 ?_
   obtain ⟨t31,ht31,h⟩:=bs h
   refine .ca (Vw.calls ht31) ?_
   rintro _ W30 ⟨rfl,M_⟩
   replace M:=M.cg M_
   refine .gq 3<| .at (show RL 96 f96 (V1.R r w) [1,0,1,1,1,0,1,0,1,0] [(1,.slice A1_0 x1_0.length c1_0),(5,.i t20),(6,.i t22),(7,.i t24),(8,.i t26),(9,.i t31)] _ from .dr [] M fun W32 M=> ?_)
   refine .pz tr [0,1,2,3,5] ?_
   obtain ⟨c34,h⟩:=ifd h
   obtain ⟨pq33,Cq33⟩:=(hrx1_0.mono M.below).na (i:=5) (by omega) c34
   refine .ix tr 6 Cq33<| .ln tr 7 Cq33 (fun _ hs=>(Rd.kept hrx1_0 (M.ks hs))) ?_
   obtain ⟨t36,ht36,h⟩:=bs h
   refine .a1 tr 4<| .ca (Vy.calls ht36) ?_
   rintro _ W35 ⟨rfl,M_⟩
   refine .ca M_ [] ?_
   replace M:=M.cg M_
   obtain ⟨t38,ht38,h⟩:=bs h
   refine .a1 tr 8<| .ca (Vw.calls ht38) ?_
   rintro _ W37 ⟨rfl,M_⟩
   refine .ca M_ [] ?_
   replace M:=M.cg M_
   refine .pz tr [9]<| .dn tr<| .gq 4 ?_
   obtain ⟨t40,ht40,h⟩:=bs h
   refine .ca (Vy.calls ht40) ?_
   rintro _ W39 ⟨rfl,M_⟩
   replace M:=M.cg M_
   refine .gq 25 ?_
   obtain ⟨c41,h⟩:=ifd h
   refine .ct 6 (x1_0.length:Int) (hrx1_0.mono M.below) fun A42 c43 hs44=> .gq 8 ?_
   let y45:Bool:=((((x1_0.take ((x1_0.length:Int):Int).toNat).drop (6:Int).toNat).length:Int)==4)
   replace h:=bz (y:=y45) h rfl
   rcases ift h with ⟨c46,h⟩ | ⟨c46,h⟩
   ·exact .kn 81 c46<| .gq 10<| .at (ih0 k (by omega) A42 c43 ((x1_0.take ((x1_0.length:Int):Int).toNat).drop (6:Int).toNat) (bxor .i64 t20 t38) (bxor .i64 t22 t40) (bxor .i64 t24 t38) (bxor .i64 t26 t40) (M.pm [] []) (hs44 _ hrx1_0) h)
   exact .kn 81 c46<| .gq 5<| .at (ih0 k (by omega) A42 c43 ((x1_0.take ((x1_0.length:Int):Int).toNat).drop (6:Int).toNat) (bxor .i64 t20 t38) (bxor .i64 t24 t38) (bxor .i64 t22 t40) (bxor .i64 t26 t40) (M.pm [] []) (hs44 _ hrx1_0) h)
  refine .kn 45 c27<| .gq 8<| .new 3 1 4 (nums .i64 [t20,t22,t24,t26]) M fun g47 W48 M=> .gq 2 ?_
  obtain rfl:=sj h
  exact .ret func96 ⟨(pa g47),4,rfl,(M.pm [0] [])⟩
 exact .at (l0 k k.le_refl Ap1 cp1 a1 (rd a0 0) (rd a0 1) (rd a0 2) (rd a0 3) (M.pm [] []) hr1 h)
mutual
def Vt.l0:Nat→Li→Li→Int→Option (Li×Int)
 | 0,_,_,_=>none
 | k+1,t15,x9_0,x30_0=>if (decide (x30_0<(t15.length:Int)))=true then (gd (0≤x30_0) (gd (x30_0<(t15.length:Int)) (gd (x9_0.length+([U8 (shr (rd t15 x30_0) 8),U8 (rd t15 x30_0)]:Li).length≤1000000000) (Vt.l0 k t15 (x9_0++([U8 (shr (rd t15 x30_0) 8),U8 (rd t15 x30_0)]:Li)) (I64 (x30_0+1)))))) else (some (x9_0,0))
def Vt.l1:Nat→Li→Li→Int→Option (Li×Int)
 | 0,_,_,_=>none
 | k+1,t42,x9_1,x30_1=>if (decide (x30_1<(t42.length:Int)))=true then (gd (0≤x30_1) (gd (x30_1<(t42.length:Int)) (gd (x9_1.length+([U8 (shr (rd t42 x30_1) 8),U8 (rd t42 x30_1)]:Li).length≤1000000000) (Vt.l1 k t42 (x9_1++([U8 (shr (rd t42 x30_1) 8),U8 (rd t42 x30_1)]:Li)) (I64 (x30_1+1)))))) else (some (x9_1,0))
end
def Vt.f (k:Nat) (a0:Lp) (a1:Li) (a2:Bool):Option (Li×Int):=if ((a1.length:Int) != 8)=true then (some (([]:Li),1)) else (if a2=true then (gd (0≤8) ((Vz.f k a1).bind fun t10=>((V1.f k t10 a0.2).bind fun t15=>(Vt.l0 k t15 (List.replicate 0 (0:Int)) 0)))) else (gd (0≤8) ((Vz.f k a1).bind fun t37=>((V1.f k t37 a0.1).bind fun t42=>(Vt.l1 k t42 (List.replicate 0 (0:Int)) 0)))))
abbrev Vt.R (r:Li×Int) (w:World):Value→World→Prop:=fun v w'=> ∃A0' c0',v= .tuple #[.slice A0' r.1.length c0',.i r.2]∧Mem w w' (Gs [⟨.slice A0' r.1.length c0',5,1,nums .u8 r.1⟩] [])
theorem Vt.calls {vp0:Value} {a0:Lp} {a1:Li} {a2:Bool} {r:Li×Int} (hr1:Rd w (.slice Ap1 np1 cp1) (nums .u8 a1)) (hp0:(rPtr Rs_idea_Idea) Zp0 vp0 a0) (hZp0: ∀W,Kept w W→Zp0 W) (h:Vt.f k a0 a1 a2=some r):Calls prog 61 #[vp0,(.slice Ap1 np1 cp1),.bool a2] w (Ret (Vt.R r w)):=by
 obtain rfl:=hr1.ln
 obtain ⟨gp0,_,rfl,hco1,_,_,rfl,⟨Ao1_0,co1_0,rfl,ho1_0⟩,⟨Ao1_1,co1_1,rfl,ho1_1⟩⟩:=id hp0
 unfold Vt.f at h
 refine calls_S func61 ?_
 have M:=Mem.r0 w
 refine .gq 12 ?_
 rcases ift h with ⟨c2,h⟩ | ⟨c2,h⟩
 ·refine .kn 14 c2<| .gq 6 ?_
  replace M:=M.n1 5
  obtain rfl:=sj h
  exact .ret func61 ⟨none,0,rfl,(M.pm [0] [])⟩
 refine .kn 14 c2<| .gq 7<| .ld (hco1 _ (hZp0 _ M.kept) 0 _ rfl)<| .gq 7 ?_
 rcases ift h with ⟨c4,h⟩ | ⟨c4,h⟩
 ·refine .kn 19 c4<| .gq 5<| .ld (hco1 _ (hZp0 _ M.kept) 1 _ rfl)<| .gq 4 ?_
  obtain ⟨c7,h⟩:=ifd h
  refine .mn 5 .u8 0 8 M fun g6 W5 M=> .gq 6 ?_
  obtain ⟨t10,ht10,h⟩:=bs h
  refine .ca (Vz.calls (hr1.mono M.below) ht10) ?_
  rintro _ W9 ⟨A11,c12,rfl,M_⟩
  replace M:=M.cg M_
  refine .gq 1 ?_
  obtain ⟨t15,ht15,h⟩:=bs h
  refine .ca (V1.calls (M.or 0) (ho1_1 _ (hZp0 _ M.kept)) ht15) ?_
  rintro _ W14 ⟨A16,c17,rfl,M_⟩
  replace M:=M.cg M_
  refine .gq 5 ?_
  have l0: ∀k_≤k,∀(A9_0:Option Addr) (c9_0:Nat) (x9_0:Li) (x30_0:Int) {W:World} (M:Mem w W (Gs [⟨.slice A9_0 x9_0.length c9_0,5,1,nums .u8 x9_0⟩,⟨.slice A16 t15.length c17,3,1,nums .i64 t15⟩] [])) (h:Vt.l0 k_ t15 x9_0 x30_0=some r),RL 61 f61 (Vt.R r w) [1,1,1,1,1,0,1,0,0] [(9,.slice A9_0 x9_0.length c9_0),(28,.slice A16 t15.length c17),(29,.i (t15.length:Int)),(30,.i x30_0)] W:=by
   refine loopI (by intros;rename_i h;simp [Vt.l0] at h) fun k hk ih0 A9_0 c9_0 x9_0 x30_0 W M h=> ?_
   simp only [Vt.l0] at h
   refine .gq 5 ?_
   rcases ift h with ⟨c20,h⟩ | ⟨c20,h⟩
   ·refine .kn 31 c20<| .gq 6 ?_
    obtain ⟨c22,h⟩:=ifd h
    obtain ⟨c23,h⟩:=ifd h
    obtain ⟨pq21,Cq21⟩:=M.na 1 rfl c22 c23
    refine .ix Cq21<| .lc Cq21<| .gq 9<| .new 5 1 2 (nums .u8 [U8 (shr (rd t15 x30_0) 8),U8 (rd t15 x30_0)]) M fun g24 W25 M=> ?_
    obtain ⟨c30,h⟩:=ifd h
    exact .an M 1 rfl (M.or 0) c30 fun A27 c28 W29 M=> .gq 8<| .at (ih0 k (by omega) A27 c28 (x9_0++([U8 (shr (rd t15 x30_0) 8),U8 (rd t15 x30_0)]:Li)) (I64 (x30_0+1)) (M.pm [1,2] []) h)
   refine .kn 31 c20<| .gq 8 ?_
   obtain rfl:=sj h
   exact .ret func61 ⟨A9_0,c9_0,rfl,(M.pm [0] [])⟩
  exact .at (l0 k k.le_refl (pa g6) 8 (List.replicate 0 (0:Int)) 0 (M.pm [2,0] []) h)
 refine .kn 19 c4<| .gq 4 ?_
 obtain ⟨c34,h⟩:=ifd h
 refine .mn 5 .u8 0 8 M fun g33 W32 M=> .gq 6 ?_
 obtain ⟨t37,ht37,h⟩:=bs h
 refine .ca (Vz.calls (hr1.mono M.below) ht37) ?_
 rintro _ W36 ⟨A38,c39,rfl,M_⟩
 replace M:=M.cg M_
 refine .gq 1 ?_
 obtain ⟨t42,ht42,h⟩:=bs h
 refine .ca (V1.calls (M.or 0) (ho1_0 _ (hZp0 _ M.kept)) ht42) ?_
 rintro _ W41 ⟨A43,c44,rfl,M_⟩
 replace M:=M.cg M_
 refine .gq 5 ?_
 have l1: ∀k_≤k,∀(A9_1:Option Addr) (c9_1:Nat) (x9_1:Li) (x30_1:Int) {W:World} (M:Mem w W (Gs [⟨.slice A9_1 x9_1.length c9_1,5,1,nums .u8 x9_1⟩,⟨.slice A43 t42.length c44,3,1,nums .i64 t42⟩] [])) (h:Vt.l1 k_ t42 x9_1 x30_1=some r),RL 61 f61 (Vt.R r w) [1,1,1,1,1,0,1,0,0] [(9,.slice A9_1 x9_1.length c9_1),(28,.slice A43 t42.length c44),(29,.i (t42.length:Int)),(30,.i x30_1)] W:=by
  refine loopI (by intros;rename_i h;simp [Vt.l1] at h) fun k hk ih1 A9_1 c9_1 x9_1 x30_1 W M h=> ?_
  simp only [Vt.l1] at h
  refine .gq 5 ?_
  rcases ift h with ⟨c47,h⟩ | ⟨c47,h⟩
  ·refine .kn 31 c47<| .gq 6 ?_
   obtain ⟨c49,h⟩:=ifd h
   obtain ⟨c50,h⟩:=ifd h
   obtain ⟨pq48,Cq48⟩:=M.na 1 rfl c49 c50
   refine .ix Cq48<| .lc Cq48<| .gq 9<| .new 5 1 2 (nums .u8 [U8 (shr (rd t42 x30_1) 8),U8 (rd t42 x30_1)]) M fun g51 W52 M=> ?_
   obtain ⟨c57,h⟩:=ifd h
   exact .an M 1 rfl (M.or 0) c57 fun A54 c55 W56 M=> .gq 8<| .at (ih1 k (by omega) A54 c55 (x9_1++([U8 (shr (rd t42 x30_1) 8),U8 (rd t42 x30_1)]:Li)) (I64 (x30_1+1)) (M.pm [1,2] []) h)
  refine .kn 31 c47<| .gq 8 ?_
  obtain rfl:=sj h
  exact .ret func61 ⟨A9_1,c9_1,rfl,(M.pm [0] [])⟩
 exact .at (l1 k k.le_refl (pa g33) 8 (List.replicate 0 (0:Int)) 0 (M.pm [2,0] []) h)
def Kz.l0:Nat→Lp→Int→Li→Int→Option Li
 | 0,_,_,_,_=>none
 | k+1,a0,a2,x4_0,x8_0=>if (decide (x8_0<4))=true then (gd (0≤x8_0) (gd (x8_0<(4:Int)) (gd (0≤(I64 (a2+x8_0))) (gd ((I64 (a2+x8_0))<(a0.1.length:Int)) (gd (0≤x8_0) (gd (x8_0<(4:Int)) (Kz.l0 k a0 a2 (x4_0.set (x8_0:Int).toNat (bxor .u32 (rd x4_0 x8_0) (rd a0.1 (I64 (a2+x8_0))))) (I64 (x8_0+1))))))))) else (some x4_0)
def Kz.f (k:Nat) (a0:Lp) (a1:Li) (a2:Int):Option Li:=Kz.l0 k a0 a2 a1 0
abbrev Kz.R (r:Li) (w:World):Value→World→Prop:=fun v w'=>v= .agg (nums .u32 r).toArray∧r.length=4∧Mem w w' (Gs [] [])
theorem Kz.calls {vp0:Value} {a0:Lp} {a1:Li} {a2:Int} {r:Li} (hl1:a1.length=4) (hp0:(rPtr Rs_twofish_Twofish) Zp0 vp0 a0) (hZp0: ∀W,Kept w W→Zp0 W) (h:Kz.f k a0 a1 a2=some r):Calls prog 100 #[vp0,.agg (nums .u32 a1).toArray,.i a2] w (Ret (Kz.R r w)):=by
 obtain ⟨gp0,_,rfl,hco1,_,_,rfl,⟨Ao1_0,co1_0,rfl,ho1_0⟩,⟨Ao1_1,co1_1,rfl,ho1_1⟩⟩:=id hp0
 unfold Kz.f at h
 refine calls_S func100 ?_
 have M:=Mem.r0 w
 refine .gq 2<| .nw 151 (nums .u32 a1) M fun g2 W3 M=> .nw 151 (nums .u32 (List.replicate 4 (0:Int))) M fun g5 W6 M=> .gq 8 ?_
 have l0: ∀k_≤k,∀(x4_0:Li) (x8_0:Int) {W:World} (M:Mem w W (Gs [⟨.pt g2,151,0,nums .u32 x4_0⟩,⟨.pt g5,151,0,nums .u32 (List.replicate 4 (0:Int))⟩] [])) (hlx4_0:x4_0.length=4) (h:Kz.l0 k_ a0 a2 x4_0 x8_0=some r),RL 100 f100 (Kz.R r w) [1,0,1,0,0] [(0,.pt gp0),(2,.i a2),(4,.pt g2),(6,.pt g5),(8,.i x8_0)] W:=by
  refine loopI (by intros;rename_i h;simp [Kz.l0] at h) fun k hk ih0 x4_0 x8_0 W M hlx4_0 h=> ?_
  simp only [Kz.l0] at h
  refine .gq 5 ?_
  rcases ift h with ⟨c8,h⟩ | ⟨c8,h⟩
  ·refine .kn 9 c8<| .gq 9<| .at (show RL 100 f100 (Kz.R r w) [1,0,1,0,0,1,1,0,0,1] [(0,.pt gp0),(2,.i a2),(4,.pt g2),(6,.pt g5),(7,.i x8_0),(8,.i x8_0)] _ from .dr [0] M fun W9 M=> ?_)
   refine .pz tr [0] ?_
   obtain ⟨c11,h⟩:=ifd h
   obtain ⟨c12,h⟩:=ifd h
   obtain ⟨pq10,Cq10⟩:=M.nv 0 rfl (N:=4) hlx4_0 c11 c12
   refine .ia tr 1 Cq10<| .pz tr [3,4,5]<| .lz tr 6 (fun _ hs=>hco1 _ (hZp0 _ (M.ks hs)) 0 _ rfl)<| .pz tr [7,8,9] ?_
   obtain ⟨c14,h⟩:=ifd h
   obtain ⟨c15,h⟩:=ifd h
   obtain ⟨pq13,Cq13⟩:=(ho1_0 _ (hZp0 _ M.kept)).na c14 c15
   refine .ix tr 10 Cq13<| .ln tr 11 Cq13 (fun _ hs=>(ho1_0 _ (hZp0 _ (M.ks hs))))<| .a1 tr 2<| .wn Cq10 M 0 rfl hlx4_0<| .pz tr [12] ?_
   obtain ⟨c17,h⟩:=ifd h
   obtain ⟨c18,h⟩:=ifd h
   obtain ⟨pq16,Cq16⟩:=M.nv 0 rfl (N:=4) hlx4_0 c17 c18
   exact .ia tr 13 Cq16<| .a1 tr 14<| .vn (bxor .u32 (rd x4_0 x8_0) (rd a0.1 (I64 (a2+x8_0)))) Cq16 M 0 rfl hlx4_0 fun W19 M=> .dn tr<| .gq 6<| .at (ih0 k (by omega) (x4_0.set (x8_0:Int).toNat (bxor .u32 (rd x4_0 x8_0) (rd a0.1 (I64 (a2+x8_0))))) (I64 (x8_0+1)) (M.pm [0,1] []) (List.length_set.trans hlx4_0) h)
  refine .kn 9 c8<| .gq 4<| .y (yl_ldv (all_nums' hlx4_0)) (M.block 0 rfl)<| .sw (new:=nums .u32 x4_0) M 1 rfl (all_nums' List.length_replicate) (all_nums' hlx4_0) (all_nums _ _) fun W20 M=> .gq 1 ?_
  obtain rfl:=sj h
  exact .rc 6 151 4 func100 M 1 rfl (all_nums' hlx4_0) ⟨rfl,hlx4_0,(M.pm [] [])⟩
 exact .at (l0 k k.le_refl a1 0 (M.pm [1,0] []) hl1 h)
def Ky.f (k:Nat) (a0:Lp) (a1:Int) (a2:Int) (a3:Int):Option (Int×Int):=(Kt.f k a1 a0.2).bind fun t4=>((Jb.f k a2 8).bind fun t6=>((Kt.f k t6 a0.2).bind fun t8=>(gd (0≤(I64 ((I64 (2*a3))+8))) (gd ((I64 ((I64 (2*a3))+8))<(a0.1.length:Int)) (gd (0≤(I64 ((I64 (2*a3))+9))) (gd ((I64 ((I64 (2*a3))+9))<(a0.1.length:Int)) (some (U32 ((U32 (t4+t8))+(rd a0.1 (I64 ((I64 (2*a3))+8)))),U32 ((U32 (t4+(U32 (2*t8))))+(rd a0.1 (I64 ((I64 (2*a3))+9))))))))))))
abbrev Ky.R (r:Int×Int) (w:World):Value→World→Prop:=fun v w'=>v= .tuple #[.u r.1,.u r.2]∧Mem w w' (Gs [] [])
theorem Ky.calls {vp0:Value} {a0:Lp} {a1:Int} {a2:Int} {a3:Int} {r:Int×Int} (hp0:(rPtr Rs_twofish_Twofish) Zp0 vp0 a0) (hZp0: ∀W,Kept w W→Zp0 W) (h:Ky.f k a0 a1 a2 a3=some r):Calls prog 101 #[vp0,.u a1,.u a2,.i a3] w (Ret (Ky.R r w)):=by
 obtain ⟨gp0,_,rfl,hco1,_,_,rfl,⟨Ao1_0,co1_0,rfl,ho1_0⟩,⟨Ao1_1,co1_1,rfl,ho1_1⟩⟩:=id hp0
 unfold Ky.f at h
 refine calls_S func101 ?_
 have M:=Mem.r0 w
 refine .gq 6<| .at (show RL 101 f101 (Ky.R r w) [1,0] [(0,.pt gp0),(1,.u a1),(2,.u a2),(3,.i a3)] _ from .dr [] M fun W2 M=> ?_)
 refine .pz tr [0,1,2,3]<| .lz tr 4 (fun _ hs=>hco1 _ (hZp0 _ (M.ks hs)) 1 _ rfl)<| .pz tr [6,8,9,10]<| .lz tr 11 (fun _ hs=>hco1 _ (hZp0 _ (M.ks hs)) 1 _ rfl) ?_
 obtain ⟨t4,ht4,h⟩:=bs h
 refine .a1 tr 5<| .ca (Kt.calls (ho1_1 _ (hZp0 _ M.kept)) ht4) ?_
 rintro _ W3 ⟨rfl,M_⟩
 refine .ca M_ [] ?_
 replace M:=M.cg M_
 obtain ⟨t6,ht6,h⟩:=bs h
 refine .a1 tr 7<| .ca (Jb.calls ht6) ?_
 rintro _ W5 ⟨rfl,M_⟩
 refine .ca M_ [] ?_
 replace M:=M.cg M_
 obtain ⟨t8,ht8,h⟩:=bs h
 refine .a1 tr 12<| .ca (Kt.calls (ho1_1 _ (hZp0 _ M.kept)) ht8) ?_
 rintro _ W7 ⟨rfl,M_⟩
 refine .ca M_ [] ?_
 replace M:=M.cg M_
 refine .pz tr [13,14]<| .dn tr<| .gq 1<| .at (show RL 101 f101 (Ky.R r w) [1,1,0] [(0,.pt gp0),(3,.i a3),(10,.u t4),(11,.u t8)] _ from .dr [] M fun W9 M=> ?_)
 refine .pz tr [0,1,2,3,4,5]<| .lz tr 6 (fun _ hs=>hco1 _ (hZp0 _ (M.ks hs)) 0 _ rfl)<| .pz tr [7,8,9] ?_
 obtain ⟨c11,h⟩:=ifd h
 obtain ⟨c12,h⟩:=ifd h
 obtain ⟨pq10,Cq10⟩:=(ho1_0 _ (hZp0 _ M.kept)).na c11 c12
 refine .ix tr 10 Cq10<| .ln tr 11 Cq10 (fun _ hs=>(ho1_0 _ (hZp0 _ (M.ks hs))))<| .pz tr [12,13,14,15,16,17,18,19]<| .lz tr 20 (fun _ hs=>hco1 _ (hZp0 _ (M.ks hs)) 0 _ rfl)<| .pz tr [21,22,23] ?_
 obtain ⟨c14,h⟩:=ifd h
 obtain ⟨c15,h⟩:=ifd h
 obtain ⟨pq13,Cq13⟩:=(ho1_0 _ (hZp0 _ M.kept)).na c14 c15
 refine .ix tr 24 Cq13<| .ln tr 25 Cq13 (fun _ hs=>(ho1_0 _ (hZp0 _ (M.ks hs))))<| .pz tr [26,27,28]<| .dn tr ?_
 obtain rfl:=sj h
 exact .ret func101 ⟨rfl,(M.pm [] [])⟩
mutual
def Kx.l0:Nat→Lp→Li→Bool→Li→Int→Option (Li×Int)
 | 0,_,_,_,_,_=>none
 | k+1,a0,a1,a2,x8_0,x22_0=>if (decide (x22_0<4))=true then (gd (0≤(I64 (4*x22_0))) (gd ((I64 (4*x22_0))≤(I64 (4*(I64 (x22_0+1))))) (gd ((I64 (4*(I64 (x22_0+1))))≤(a1.length:Int)) ((K7.f k ((a1.take (I64 (4*(I64 (x22_0+1))):Int).toNat).drop (I64 (4*x22_0):Int).toNat)).bind fun t15=>(gd (0≤x22_0) (gd (x22_0<(4:Int)) (Kx.l0 k a0 a1 a2 (x8_0.set (x22_0:Int).toNat t15.1) (I64 (x22_0+1))))))))) else (if a2=true then ((Kz.f k a0 x8_0 4).bind fun t22=>(Kx.l1 k a0 t22 15)) else ((Kz.f k a0 x8_0 0).bind fun t142=>(Kx.l3 k a0 t142 0)))
def Kx.l1:Nat→Lp→Li→Int→Option (Li×Int)
 | 0,_,_,_=>none
 | k+1,a0,x8_1,x10_1=>if (decide (x10_1≥0))=true then ((Ky.f k a0 (rd x8_1 0) (rd x8_1 1) x10_1).bind fun t28=>((Jb.f k (rd x8_1 2) 1).bind fun t34=>((Jb.f k (bxor .u32 (rd x8_1 3) t28.2) (-1)).bind fun t42=>(Kx.l1 k a0 ([bxor .u32 t34 t28.1,t42,rd x8_1 0,rd x8_1 1]:Li) (I64 (x10_1-1)))))) else ((Kz.f k a0 ([rd x8_1 2,rd x8_1 3,rd x8_1 0,rd x8_1 1]:Li) 0).bind fun t121=>(gd (0≤16) (Kx.l2 k t121 (List.replicate 0 (0:Int)) 0)))
def Kx.l2:Nat→Li→Li→Int→Option (Li×Int)
 | 0,_,_,_=>none
 | k+1,t121,x16_2,x129_2=>if (decide (x129_2<4))=true then (gd (0≤x129_2) (gd (x129_2<(4:Int)) ((Ja.f k (rd t121 x129_2)).bind fun t132=>(gd (x16_2.length+t132.length≤1000000000) (Kx.l2 k t121 (x16_2++t132) (I64 (x129_2+1))))))) else (some (x16_2,0))
def Kx.l3:Nat→Lp→Li→Int→Option (Li×Int)
 | 0,_,_,_=>none
 | k+1,a0,x8_3,x87_3=>if (decide (x87_3<16))=true then ((Ky.f k a0 (rd x8_3 0) (rd x8_3 1) x87_3).bind fun t148=>((Jb.f k (bxor .u32 (rd x8_3 2) t148.1) (-1)).bind fun t154=>((Jb.f k (rd x8_3 3) 1).bind fun t162=>(Kx.l3 k a0 ([t154,bxor .u32 t162 t148.2,rd x8_3 0,rd x8_3 1]:Li) (I64 (x87_3+1)))))) else ((Kz.f k a0 ([rd x8_3 2,rd x8_3 3,rd x8_3 0,rd x8_3 1]:Li) 4).bind fun t240=>(gd (0≤16) (Kx.l4 k t240 (List.replicate 0 (0:Int)) 0)))
def Kx.l4:Nat→Li→Li→Int→Option (Li×Int)
 | 0,_,_,_=>none
 | k+1,t240,x16_4,x129_4=>if (decide (x129_4<4))=true then (gd (0≤x129_4) (gd (x129_4<(4:Int)) ((Ja.f k (rd t240 x129_4)).bind fun t251=>(gd (x16_4.length+t251.length≤1000000000) (Kx.l4 k t240 (x16_4++t251) (I64 (x129_4+1))))))) else (some (x16_4,0))
end
def Kx.f (k:Nat) (a0:Lp) (a1:Li) (a2:Bool):Option (Li×Int):=if ((a1.length:Int) != 16)=true then (some (([]:Li),1)) else (Kx.l0 k a0 a1 a2 (List.replicate 4 (0:Int)) 0)
abbrev Kx.R (r:Li×Int) (w:World):Value→World→Prop:=fun v w'=> ∃A0' c0',v= .tuple #[.slice A0' r.1.length c0',.i r.2]∧Mem w w' (Gs [⟨.slice A0' r.1.length c0',5,1,nums .u8 r.1⟩] [])
theorem Kx.calls {vp0:Value} {a0:Lp} {a1:Li} {a2:Bool} {r:Li×Int} (hr1:Rd w (.slice Ap1 np1 cp1) (nums .u8 a1)) (hp0:(rPtr Rs_twofish_Twofish) Zp0 vp0 a0) (hZp0: ∀W,Kept w W→Zp0 W) (h:Kx.f k a0 a1 a2=some r):Calls prog 63 #[vp0,(.slice Ap1 np1 cp1),.bool a2] w (Ret (Kx.R r w)):=by
 obtain rfl:=hr1.ln
 obtain ⟨gp0,_,rfl,hco1,_,_,rfl,⟨Ao1_0,co1_0,rfl,ho1_0⟩,⟨Ao1_1,co1_1,rfl,ho1_1⟩⟩:=id hp0
 unfold Kx.f at h
 refine calls_S func63 ?_
 have M:=Mem.r0 w
 refine .gq 12 ?_
 rcases ift h with ⟨c2,h⟩ | ⟨c2,h⟩
 ·refine .kn 21 c2<| .gq 6 ?_
  replace M:=M.n1 5
  obtain rfl:=sj h
  exact .ret func63 ⟨none,0,rfl,(M.pm [0] [])⟩
 refine .kn 21 c2<| .gq 4<| .nw 151 (nums .u32 (List.replicate 4 (0:Int))) M fun g4 W5 M=> .gq 8 ?_
 have l0: ∀k_≤k,∀(x8_0:Li) (x22_0:Int) {W:World} (M:Mem w W (Gs [⟨.pt g4,151,0,nums .u32 x8_0⟩] [])) (hlx8_0:x8_0.length=4) (h:Kx.l0 k_ a0 a1 a2 x8_0 x22_0=some r),RL 63 f63 (Kx.R r w) [1,1,1,0,1,0,0] [(0,.pt gp0),(1,.slice Ap1 a1.length cp1),(2,.bool a2),(8,.pt g4),(22,.i x22_0)] W:=by
  refine loopI (by intros;rename_i h;simp [Kx.l0] at h) fun k hk ih0 x8_0 x22_0 W M hlx8_0 h=> ?_
  simp only [Kx.l0] at h
  refine .gq 5 ?_
  rcases ift h with ⟨c7,h⟩ | ⟨c7,h⟩
  ·refine .kn 23 c7<| .gq 17 ?_
   obtain ⟨c8,h⟩:=ifd h
   obtain ⟨c9,h⟩:=ifd h
   obtain ⟨c10,h⟩:=ifd h
   refine .ct (I64 (4*x22_0)) (I64 (4*(I64 (x22_0+1)))) (hr1.mono M.below) fun A11 c12 hs13=> ?_
   obtain ⟨t15,ht15,h⟩:=bs h
   refine .ca (K7.calls (hs13 _ (hr1.mono M.below)) ht15) ?_
   rintro _ W14 ⟨rfl,M_⟩
   replace M:=M.cg M_
   refine .gq 3 ?_
   obtain ⟨c17,h⟩:=ifd h
   obtain ⟨c18,h⟩:=ifd h
   obtain ⟨pq16,Cq16⟩:=M.nv 0 rfl (N:=4) hlx8_0 c17 c18
   exact .ia Cq16<| .vn t15.1 Cq16 M 0 rfl hlx8_0 fun W19 M=> .gq 7<| .at (ih0 k (by omega) (x8_0.set (x22_0:Int).toNat t15.1) (I64 (x22_0+1)) (M.pm [0] []) (List.length_set.trans hlx8_0) h)
  refine .kn 23 c7<| .gq 7 ?_
  rcases ift h with ⟨c20,h⟩ | ⟨c20,h⟩
  ·refine .kn 39 c20<| .gq 4<| .y (yl_ldv (all_nums' hlx8_0)) (M.block 0 rfl) ?_
   obtain ⟨t22,ht22,h⟩:=bs h
   refine .ca (Kz.calls hlx8_0 hp0 (zp M hZp0) ht22) ?_
   rintro _ W21 ⟨rfl,hNt22_0,M_⟩
   replace M:=M.cg M_
   refine .sw (new:=nums .u32 t22) M 0 rfl (all_nums' hlx8_0) (all_nums' hNt22_0) (all_nums _ _) fun W23 M=> .gq 8 ?_
   have l1: ∀k_≤k,∀(x8_1:Li) (x10_1:Int) {W:World} (M:Mem w W (Gs [⟨.pt g4,151,0,nums .u32 x8_1⟩] [])) (hlx8_1:x8_1.length=4) (h:Kx.l1 k_ a0 x8_1 x10_1=some r),RL 63 f63 (Kx.R r w) [1,1,1,1,0,1,0,1,0,1,0,0] [(0,.pt gp0),(8,.pt g4),(10,.i x10_1)] W:=by
    refine loopI (by intros;rename_i h;simp [Kx.l1] at h) fun k hk ih1 x8_1 x10_1 W M hlx8_1 h=> ?_
    simp only [Kx.l1] at h
    refine .gq 6 ?_
    rcases ift h with ⟨c24,h⟩ | ⟨c24,h⟩
    ·refine .kn 44 c24<| .gq 7 ?_
     obtain ⟨pq25,Cq25⟩:=M.nv 0 rfl (N:=4) (i:=0) hlx8_1 (by omega) (by decide)
     refine .ia Cq25<| .lc Cq25 ?_
     obtain ⟨pq26,Cq26⟩:=M.nv 0 rfl (N:=4) (i:=1) hlx8_1 (by omega) (by decide)
     refine .ia Cq26<| .lc Cq26<| .gq 1 ?_
     obtain ⟨t28,ht28,h⟩:=bs h
     refine .ca (Ky.calls hp0 (zp M hZp0) ht28) ?_
     rintro _ W27 ⟨rfl,M_⟩
     replace M:=M.cg M_
     refine .gq 6<| .at (show RL 63 f63 (Kx.R r w) [1,1,1,1,0,1,0,1,0,1,0,0,1,0,0,1] [(0,.pt gp0),(8,.pt g4),(10,.i x10_1),(11,.u t28.1),(12,.u t28.2)] _ from .dr [0] M fun W29 M=> ?_)
     obtain ⟨pq30,Cq30⟩:=M.nv 0 rfl (N:=4) (i:=2) hlx8_1 (by omega) (by decide)
     refine .ia tr 0 Cq30<| .pz tr [3] ?_
     obtain ⟨pq31,Cq31⟩:=M.nv 0 rfl (N:=4) (i:=3) hlx8_1 (by omega) (by decide)
     refine .ia tr 5 Cq31<| .pz tr [7] ?_
     obtain ⟨pq32,Cq32⟩:=M.nv 0 rfl (N:=4) (i:=0) hlx8_1 (by omega) (by decide)
     refine .ia tr 10 Cq32 ?_
     obtain ⟨pq33,Cq33⟩:=M.nv 0 rfl (N:=4) (i:=1) hlx8_1 (by omega) (by decide)
     refine .ia tr 12 Cq33 ?_
     obtain ⟨t34,ht34,h⟩:=bs h
     obtain ⟨t42,ht42,h⟩:=bs h
     have J48:RJ 63 f63 (Kx.R r w) [1,1,1,1,0,1,0,1,0,1,0,0,1,0,0,1] w [⟨.pt g4,151,0,nums .u32 x8_1⟩] [] [0] ([0,3,5,7,10,12,1,11,13,2,4,6,8,9,14],[(0,.pt gp0),(8,.pt g4),(10,.i x10_1),(11,.u t28.1),(12,.u t28.2),(57,.pointer (some pq30)),(58,.u (rd x8_1 2)),(59,.u t34),(60,.u t28.1),(61,.u (bxor .u32 t34 t28.1)),(62,.pointer (some pq31)),(63,.u (rd x8_1 3)),(64,.u t28.2),(65,.u (bxor .u32 (rd x8_1 3) t28.2)),(66,.u t42),(67,.pointer (some pq32)),(68,.u (rd x8_1 0)),(69,.pointer (some pq33)),(70,.u (rd x8_1 1)),(71,.agg (nums .u32 ([bxor .u32 t34 t28.1,t42,rd x8_1 0,rd x8_1 1]:Li)).toArray)]):=by
      intro W49 M
      exact .a1 tr 15<| .sw (new:=nums .u32 ([bxor .u32 t34 t28.1,t42,rd x8_1 0,rd x8_1 1]:Li)) M 0 rfl (all_nums' hlx8_1) (all_nums' rfl) (all_nums _ _) fun W50 M=> .dn tr<| .gq 7<| .at (ih1 k (by omega) ([bxor .u32 t34 t28.1,t42,rd x8_1 0,rd x8_1 1]:Li) (I64 (x10_1-1)) (M.pm [0] []) rfl h)
     have J51:RJ 63 f63 (Kx.R r w) [1,1,1,1,0,1,0,1,0,1,0,0,1,0,0,1] w [⟨.pt g4,151,0,nums .u32 x8_1⟩] [] [0] ([0,3,5,7,10,12,1,13,2,4,6,8,9],[(0,.pt gp0),(8,.pt g4),(10,.i x10_1),(11,.u t28.1),(12,.u t28.2),(57,.pointer (some pq30)),(58,.u (rd x8_1 2)),(59,.u t34),(60,.u t28.1),(61,.u (bxor .u32 t34 t28.1)),(62,.pointer (some pq31)),(63,.u (rd x8_1 3)),(64,.u t28.2),(65,.u (bxor .u32 (rd x8_1 3) t28.2)),(66,.u t42),(67,.pointer (some pq32)),(69,.pointer (some pq33)),(70,.u (rd x8_1 1))]):=by
      intro W52 M
      exact .a1 tr 11<| .wn Cq32 M 0 rfl hlx8_1<| .pz tr [14]<| .jn M [0] [] (J48) rfl rfl
     have J53:RJ 63 f63 (Kx.R r w) [1,1,1,1,0,1,0,1,0,1,0,0,1,0,0,1] w [⟨.pt g4,151,0,nums .u32 x8_1⟩] [] [0] ([0,3,5,7,10,12,1,11,2,4,6,8,9],[(0,.pt gp0),(8,.pt g4),(10,.i x10_1),(11,.u t28.1),(12,.u t28.2),(57,.pointer (some pq30)),(58,.u (rd x8_1 2)),(59,.u t34),(60,.u t28.1),(61,.u (bxor .u32 t34 t28.1)),(62,.pointer (some pq31)),(63,.u (rd x8_1 3)),(64,.u t28.2),(65,.u (bxor .u32 (rd x8_1 3) t28.2)),(66,.u t42),(67,.pointer (some pq32)),(68,.u (rd x8_1 0)),(69,.pointer (some pq33))]):=by
      intro W54 M
      exact .a1 tr 13<| .wn Cq33 M 0 rfl hlx8_1<| .pz tr [14]<| .jn M [0] [] (J48) rfl rfl
     have J55:RJ 63 f63 (Kx.R r w) [1,1,1,1,0,1,0,1,0,1,0,0,1,0,0,1] w [⟨.pt g4,151,0,nums .u32 x8_1⟩] [] [0] ([0,3,5,7,10,12,1,11,13,2,4,6,8],[(0,.pt gp0),(8,.pt g4),(10,.i x10_1),(11,.u t28.1),(12,.u t28.2),(57,.pointer (some pq30)),(58,.u (rd x8_1 2)),(59,.u t34),(60,.u t28.1),(61,.u (bxor .u32 t34 t28.1)),(62,.pointer (some pq31)),(63,.u (rd x8_1 3)),(64,.u t28.2),(65,.u (bxor .u32 (rd x8_1 3) t28.2)),(67,.pointer (some pq32)),(68,.u (rd x8_1 0)),(69,.pointer (some pq33)),(70,.u (rd x8_1 1))]):=by
      intro W56 M
      refine .a1 tr 9<| .ca (Jb.calls ht42) ?_
      rintro _ W57 ⟨rfl,M_⟩
      refine .ca M_ [0] ?_
      replace M:=M.cg M_
      exact .pz tr [14]<| .jn M [0] [] (J48) rfl rfl
     have J58:RJ 63 f63 (Kx.R r w) [1,1,1,1,0,1,0,1,0,1,0,0,1,0,0,1] w [⟨.pt g4,151,0,nums .u32 x8_1⟩] [] [0] ([0,3,5,7,10,12,1,2,4,6,8,9],[(0,.pt gp0),(8,.pt g4),(10,.i x10_1),(11,.u t28.1),(12,.u t28.2),(57,.pointer (some pq30)),(58,.u (rd x8_1 2)),(59,.u t34),(60,.u t28.1),(61,.u (bxor .u32 t34 t28.1)),(62,.pointer (some pq31)),(63,.u (rd x8_1 3)),(64,.u t28.2),(65,.u (bxor .u32 (rd x8_1 3) t28.2)),(66,.u t42),(67,.pointer (some pq32)),(69,.pointer (some pq33))]):=by
      intro W59 M
      refine .a2 tr 11 13 ?_ ?_
      ·exact .wn Cq32 M 0 rfl hlx8_1<| .jn M [0] [] (J53) rfl rfl
      ·exact .wn Cq33 M 0 rfl hlx8_1<| .jn M [0] [] (J51) rfl rfl
     have J60:RJ 63 f63 (Kx.R r w) [1,1,1,1,0,1,0,1,0,1,0,0,1,0,0,1] w [⟨.pt g4,151,0,nums .u32 x8_1⟩] [] [0] ([0,3,5,7,10,12,1,13,2,4,6,8],[(0,.pt gp0),(8,.pt g4),(10,.i x10_1),(11,.u t28.1),(12,.u t28.2),(57,.pointer (some pq30)),(58,.u (rd x8_1 2)),(59,.u t34),(60,.u t28.1),(61,.u (bxor .u32 t34 t28.1)),(62,.pointer (some pq31)),(63,.u (rd x8_1 3)),(64,.u t28.2),(65,.u (bxor .u32 (rd x8_1 3) t28.2)),(67,.pointer (some pq32)),(69,.pointer (some pq33)),(70,.u (rd x8_1 1))]):=by
      intro W61 M
      refine .a2 tr 9 11 ?_ ?_
      ·refine .ca (Jb.calls ht42) ?_
       rintro _ W62 ⟨rfl,M_⟩
       refine .ca M_ [0] ?_
       replace M:=M.cg M_
       exact .jn M [0] [] (J51) rfl rfl
      ·exact .wn Cq32 M 0 rfl hlx8_1<| .jn M [0] [] (J55) rfl rfl
     have J63:RJ 63 f63 (Kx.R r w) [1,1,1,1,0,1,0,1,0,1,0,0,1,0,0,1] w [⟨.pt g4,151,0,nums .u32 x8_1⟩] [] [0] ([0,3,5,7,10,12,1,11,2,4,6,8],[(0,.pt gp0),(8,.pt g4),(10,.i x10_1),(11,.u t28.1),(12,.u t28.2),(57,.pointer (some pq30)),(58,.u (rd x8_1 2)),(59,.u t34),(60,.u t28.1),(61,.u (bxor .u32 t34 t28.1)),(62,.pointer (some pq31)),(63,.u (rd x8_1 3)),(64,.u t28.2),(65,.u (bxor .u32 (rd x8_1 3) t28.2)),(67,.pointer (some pq32)),(68,.u (rd x8_1 0)),(69,.pointer (some pq33))]):=by
      intro W64 M
      refine .a2 tr 9 13 ?_ ?_
      ·refine .ca (Jb.calls ht42) ?_
       rintro _ W65 ⟨rfl,M_⟩
       refine .ca M_ [0] ?_
       replace M:=M.cg M_
       exact .jn M [0] [] (J53) rfl rfl
      ·exact .wn Cq33 M 0 rfl hlx8_1<| .jn M [0] [] (J55) rfl rfl
     have J66:RJ 63 f63 (Kx.R r w) [1,1,1,1,0,1,0,1,0,1,0,0,1,0,0,1] w [⟨.pt g4,151,0,nums .u32 x8_1⟩] [] [0] ([0,3,5,7,10,12,1,11,13,6,8],[(0,.pt gp0),(8,.pt g4),(10,.i x10_1),(11,.u t28.1),(12,.u t28.2),(57,.pointer (some pq30)),(58,.u (rd x8_1 2)),(60,.u t28.1),(62,.pointer (some pq31)),(63,.u (rd x8_1 3)),(64,.u t28.2),(65,.u (bxor .u32 (rd x8_1 3) t28.2)),(67,.pointer (some pq32)),(68,.u (rd x8_1 0)),(69,.pointer (some pq33)),(70,.u (rd x8_1 1))]):=by
      intro W67 M
      refine .a1 tr 2<| .ca (Jb.calls ht34) ?_
      rintro _ W68 ⟨rfl,M_⟩
      refine .ca M_ [0] ?_
      replace M:=M.cg M_
      exact .pz tr [4]<| .jn M [0] [] (J55) rfl rfl
     have J69:RJ 63 f63 (Kx.R r w) [1,1,1,1,0,1,0,1,0,1,0,0,1,0,0,1] w [⟨.pt g4,151,0,nums .u32 x8_1⟩] [] [0] ([0,3,5,7,10,12,1,11,13,2,4],[(0,.pt gp0),(8,.pt g4),(10,.i x10_1),(11,.u t28.1),(12,.u t28.2),(57,.pointer (some pq30)),(58,.u (rd x8_1 2)),(59,.u t34),(60,.u t28.1),(61,.u (bxor .u32 t34 t28.1)),(62,.pointer (some pq31)),(64,.u t28.2),(67,.pointer (some pq32)),(68,.u (rd x8_1 0)),(69,.pointer (some pq33)),(70,.u (rd x8_1 1))]):=by
      intro W70 M
      exact .a1 tr 6<| .wn Cq31 M 0 rfl hlx8_1<| .pz tr [8]<| .jn M [0] [] (J55) rfl rfl
     have J71:RJ 63 f63 (Kx.R r w) [1,1,1,1,0,1,0,1,0,1,0,0,1,0,0,1] w [⟨.pt g4,151,0,nums .u32 x8_1⟩] [] [0] ([0,3,5,7,10,12,1,2,4,6,8],[(0,.pt gp0),(8,.pt g4),(10,.i x10_1),(11,.u t28.1),(12,.u t28.2),(57,.pointer (some pq30)),(58,.u (rd x8_1 2)),(59,.u t34),(60,.u t28.1),(61,.u (bxor .u32 t34 t28.1)),(62,.pointer (some pq31)),(63,.u (rd x8_1 3)),(64,.u t28.2),(65,.u (bxor .u32 (rd x8_1 3) t28.2)),(67,.pointer (some pq32)),(69,.pointer (some pq33))]):=by
      intro W72 M
      refine .a3 tr 9 11 13 ?_ ?_ ?_
      ·refine .ca (Jb.calls ht42) ?_
       rintro _ W73 ⟨rfl,M_⟩
       refine .ca M_ [0] ?_
       replace M:=M.cg M_
       exact .jn M [0] [] (J58) rfl rfl
      ·exact .wn Cq32 M 0 rfl hlx8_1<| .jn M [0] [] (J63) rfl rfl
      ·exact .wn Cq33 M 0 rfl hlx8_1<| .jn M [0] [] (J60) rfl rfl
     have J74:RJ 63 f63 (Kx.R r w) [1,1,1,1,0,1,0,1,0,1,0,0,1,0,0,1] w [⟨.pt g4,151,0,nums .u32 x8_1⟩] [] [0] ([0,3,5,7,10,12,11,13,6,8],[(0,.pt gp0),(8,.pt g4),(10,.i x10_1),(11,.u t28.1),(12,.u t28.2),(57,.pointer (some pq30)),(60,.u t28.1),(62,.pointer (some pq31)),(63,.u (rd x8_1 3)),(64,.u t28.2),(65,.u (bxor .u32 (rd x8_1 3) t28.2)),(67,.pointer (some pq32)),(68,.u (rd x8_1 0)),(69,.pointer (some pq33)),(70,.u (rd x8_1 1))]):=by
      intro W75 M
      exact .a1 tr 1<| .wn Cq30 M 0 rfl hlx8_1<| .jn M [0] [] (J66) rfl rfl
     have J76:RJ 63 f63 (Kx.R r w) [1,1,1,1,0,1,0,1,0,1,0,0,1,0,0,1] w [⟨.pt g4,151,0,nums .u32 x8_1⟩] [] [0] ([0,3,5,7,10,12,1,13,6,8],[(0,.pt gp0),(8,.pt g4),(10,.i x10_1),(11,.u t28.1),(12,.u t28.2),(57,.pointer (some pq30)),(58,.u (rd x8_1 2)),(60,.u t28.1),(62,.pointer (some pq31)),(63,.u (rd x8_1 3)),(64,.u t28.2),(65,.u (bxor .u32 (rd x8_1 3) t28.2)),(67,.pointer (some pq32)),(69,.pointer (some pq33)),(70,.u (rd x8_1 1))]):=by
      intro W77 M
      refine .a2 tr 2 11 ?_ ?_
      ·refine .ca (Jb.calls ht34) ?_
       rintro _ W78 ⟨rfl,M_⟩
       refine .ca M_ [0] ?_
       replace M:=M.cg M_
       exact .pz tr [4]<| .jn M [0] [] (J60) rfl rfl
      ·exact .wn Cq32 M 0 rfl hlx8_1<| .jn M [0] [] (J66) rfl rfl
     have J79:RJ 63 f63 (Kx.R r w) [1,1,1,1,0,1,0,1,0,1,0,0,1,0,0,1] w [⟨.pt g4,151,0,nums .u32 x8_1⟩] [] [0] ([0,3,5,7,10,12,1,13,2,4],[(0,.pt gp0),(8,.pt g4),(10,.i x10_1),(11,.u t28.1),(12,.u t28.2),(57,.pointer (some pq30)),(58,.u (rd x8_1 2)),(59,.u t34),(60,.u t28.1),(61,.u (bxor .u32 t34 t28.1)),(62,.pointer (some pq31)),(64,.u t28.2),(67,.pointer (some pq32)),(69,.pointer (some pq33)),(70,.u (rd x8_1 1))]):=by
      intro W80 M
      refine .a2 tr 6 11 ?_ ?_
      ·exact .wn Cq31 M 0 rfl hlx8_1<| .pz tr [8]<| .jn M [0] [] (J60) rfl rfl
      ·exact .wn Cq32 M 0 rfl hlx8_1<| .jn M [0] [] (J69) rfl rfl
     have J81:RJ 63 f63 (Kx.R r w) [1,1,1,1,0,1,0,1,0,1,0,0,1,0,0,1] w [⟨.pt g4,151,0,nums .u32 x8_1⟩] [] [0] ([0,3,5,7,10,12,1,11,6,8],[(0,.pt gp0),(8,.pt g4),(10,.i x10_1),(11,.u t28.1),(12,.u t28.2),(57,.pointer (some pq30)),(58,.u (rd x8_1 2)),(60,.u t28.1),(62,.pointer (some pq31)),(63,.u (rd x8_1 3)),(64,.u t28.2),(65,.u (bxor .u32 (rd x8_1 3) t28.2)),(67,.pointer (some pq32)),(68,.u (rd x8_1 0)),(69,.pointer (some pq33))]):=by
      intro W82 M
      refine .a2 tr 2 13 ?_ ?_
      ·refine .ca (Jb.calls ht34) ?_
       rintro _ W83 ⟨rfl,M_⟩
       refine .ca M_ [0] ?_
       replace M:=M.cg M_
       exact .pz tr [4]<| .jn M [0] [] (J63) rfl rfl
      ·exact .wn Cq33 M 0 rfl hlx8_1<| .jn M [0] [] (J66) rfl rfl
     have J84:RJ 63 f63 (Kx.R r w) [1,1,1,1,0,1,0,1,0,1,0,0,1,0,0,1] w [⟨.pt g4,151,0,nums .u32 x8_1⟩] [] [0] ([0,3,5,7,10,12,1,11,2,4],[(0,.pt gp0),(8,.pt g4),(10,.i x10_1),(11,.u t28.1),(12,.u t28.2),(57,.pointer (some pq30)),(58,.u (rd x8_1 2)),(59,.u t34),(60,.u t28.1),(61,.u (bxor .u32 t34 t28.1)),(62,.pointer (some pq31)),(64,.u t28.2),(67,.pointer (some pq32)),(68,.u (rd x8_1 0)),(69,.pointer (some pq33))]):=by
      intro W85 M
      refine .a2 tr 6 13 ?_ ?_
      ·exact .wn Cq31 M 0 rfl hlx8_1<| .pz tr [8]<| .jn M [0] [] (J63) rfl rfl
      ·exact .wn Cq33 M 0 rfl hlx8_1<| .jn M [0] [] (J69) rfl rfl
     have J86:RJ 63 f63 (Kx.R r w) [1,1,1,1,0,1,0,1,0,1,0,0,1,0,0,1] w [⟨.pt g4,151,0,nums .u32 x8_1⟩] [] [0] ([0,3,5,7,10,12,1,11,13],[(0,.pt gp0),(8,.pt g4),(10,.i x10_1),(11,.u t28.1),(12,.u t28.2),(57,.pointer (some pq30)),(58,.u (rd x8_1 2)),(60,.u t28.1),(62,.pointer (some pq31)),(64,.u t28.2),(67,.pointer (some pq32)),(68,.u (rd x8_1 0)),(69,.pointer (some pq33)),(70,.u (rd x8_1 1))]):=by
      intro W87 M
      refine .a2 tr 2 6 ?_ ?_
      ·refine .ca (Jb.calls ht34) ?_
       rintro _ W88 ⟨rfl,M_⟩
       refine .ca M_ [0] ?_
       replace M:=M.cg M_
       exact .pz tr [4]<| .jn M [0] [] (J69) rfl rfl
      ·exact .wn Cq31 M 0 rfl hlx8_1<| .pz tr [8]<| .jn M [0] [] (J66) rfl rfl
     have J89:RJ 63 f63 (Kx.R r w) [1,1,1,1,0,1,0,1,0,1,0,0,1,0,0,1] w [⟨.pt g4,151,0,nums .u32 x8_1⟩] [] [0] ([0,3,5,7,10,12,13,6,8],[(0,.pt gp0),(8,.pt g4),(10,.i x10_1),(11,.u t28.1),(12,.u t28.2),(57,.pointer (some pq30)),(60,.u t28.1),(62,.pointer (some pq31)),(63,.u (rd x8_1 3)),(64,.u t28.2),(65,.u (bxor .u32 (rd x8_1 3) t28.2)),(67,.pointer (some pq32)),(69,.pointer (some pq33)),(70,.u (rd x8_1 1))]):=by
      intro W90 M
      refine .a2 tr 1 11 ?_ ?_
      ·exact .wn Cq30 M 0 rfl hlx8_1<| .jn M [0] [] (J76) rfl rfl
      ·exact .wn Cq32 M 0 rfl hlx8_1<| .jn M [0] [] (J74) rfl rfl
     have J91:RJ 63 f63 (Kx.R r w) [1,1,1,1,0,1,0,1,0,1,0,0,1,0,0,1] w [⟨.pt g4,151,0,nums .u32 x8_1⟩] [] [0] ([0,3,5,7,10,12,11,6,8],[(0,.pt gp0),(8,.pt g4),(10,.i x10_1),(11,.u t28.1),(12,.u t28.2),(57,.pointer (some pq30)),(60,.u t28.1),(62,.pointer (some pq31)),(63,.u (rd x8_1 3)),(64,.u t28.2),(65,.u (bxor .u32 (rd x8_1 3) t28.2)),(67,.pointer (some pq32)),(68,.u (rd x8_1 0)),(69,.pointer (some pq33))]):=by
      intro W92 M
      refine .a2 tr 1 13 ?_ ?_
      ·exact .wn Cq30 M 0 rfl hlx8_1<| .jn M [0] [] (J81) rfl rfl
      ·exact .wn Cq33 M 0 rfl hlx8_1<| .jn M [0] [] (J74) rfl rfl
     have J93:RJ 63 f63 (Kx.R r w) [1,1,1,1,0,1,0,1,0,1,0,0,1,0,0,1] w [⟨.pt g4,151,0,nums .u32 x8_1⟩] [] [0] ([0,3,5,7,10,12,1,6,8],[(0,.pt gp0),(8,.pt g4),(10,.i x10_1),(11,.u t28.1),(12,.u t28.2),(57,.pointer (some pq30)),(58,.u (rd x8_1 2)),(60,.u t28.1),(62,.pointer (some pq31)),(63,.u (rd x8_1 3)),(64,.u t28.2),(65,.u (bxor .u32 (rd x8_1 3) t28.2)),(67,.pointer (some pq32)),(69,.pointer (some pq33))]):=by
      intro W94 M
      refine .a3 tr 2 11 13 ?_ ?_ ?_
      ·refine .ca (Jb.calls ht34) ?_
       rintro _ W95 ⟨rfl,M_⟩
       refine .ca M_ [0] ?_
       replace M:=M.cg M_
       exact .pz tr [4]<| .jn M [0] [] (J71) rfl rfl
      ·exact .wn Cq32 M 0 rfl hlx8_1<| .jn M [0] [] (J81) rfl rfl
      ·exact .wn Cq33 M 0 rfl hlx8_1<| .jn M [0] [] (J76) rfl rfl
     have J96:RJ 63 f63 (Kx.R r w) [1,1,1,1,0,1,0,1,0,1,0,0,1,0,0,1] w [⟨.pt g4,151,0,nums .u32 x8_1⟩] [] [0] ([0,3,5,7,10,12,1,2,4],[(0,.pt gp0),(8,.pt g4),(10,.i x10_1),(11,.u t28.1),(12,.u t28.2),(57,.pointer (some pq30)),(58,.u (rd x8_1 2)),(59,.u t34),(60,.u t28.1),(61,.u (bxor .u32 t34 t28.1)),(62,.pointer (some pq31)),(64,.u t28.2),(67,.pointer (some pq32)),(69,.pointer (some pq33))]):=by
      intro W97 M
      refine .a3 tr 6 11 13 ?_ ?_ ?_
      ·exact .wn Cq31 M 0 rfl hlx8_1<| .pz tr [8]<| .jn M [0] [] (J71) rfl rfl
      ·exact .wn Cq32 M 0 rfl hlx8_1<| .jn M [0] [] (J84) rfl rfl
      ·exact .wn Cq33 M 0 rfl hlx8_1<| .jn M [0] [] (J79) rfl rfl
     have J98:RJ 63 f63 (Kx.R r w) [1,1,1,1,0,1,0,1,0,1,0,0,1,0,0,1] w [⟨.pt g4,151,0,nums .u32 x8_1⟩] [] [0] ([0,3,5,7,10,12,11,13],[(0,.pt gp0),(8,.pt g4),(10,.i x10_1),(11,.u t28.1),(12,.u t28.2),(57,.pointer (some pq30)),(60,.u t28.1),(62,.pointer (some pq31)),(64,.u t28.2),(67,.pointer (some pq32)),(68,.u (rd x8_1 0)),(69,.pointer (some pq33)),(70,.u (rd x8_1 1))]):=by
      intro W99 M
      refine .a2 tr 1 6 ?_ ?_
      ·exact .wn Cq30 M 0 rfl hlx8_1<| .jn M [0] [] (J86) rfl rfl
      ·exact .wn Cq31 M 0 rfl hlx8_1<| .pz tr [8]<| .jn M [0] [] (J74) rfl rfl
     have J100:RJ 63 f63 (Kx.R r w) [1,1,1,1,0,1,0,1,0,1,0,0,1,0,0,1] w [⟨.pt g4,151,0,nums .u32 x8_1⟩] [] [0] ([0,3,5,7,10,12,1,13],[(0,.pt gp0),(8,.pt g4),(10,.i x10_1),(11,.u t28.1),(12,.u t28.2),(57,.pointer (some pq30)),(58,.u (rd x8_1 2)),(60,.u t28.1),(62,.pointer (some pq31)),(64,.u t28.2),(67,.pointer (some pq32)),(69,.pointer (some pq33)),(70,.u (rd x8_1 1))]):=by
      intro W101 M
      refine .a3 tr 2 6 11 ?_ ?_ ?_
      ·refine .ca (Jb.calls ht34) ?_
       rintro _ W102 ⟨rfl,M_⟩
       refine .ca M_ [0] ?_
       replace M:=M.cg M_
       exact .pz tr [4]<| .jn M [0] [] (J79) rfl rfl
      ·exact .wn Cq31 M 0 rfl hlx8_1<| .pz tr [8]<| .jn M [0] [] (J76) rfl rfl
      ·exact .wn Cq32 M 0 rfl hlx8_1<| .jn M [0] [] (J86) rfl rfl
     have J103:RJ 63 f63 (Kx.R r w) [1,1,1,1,0,1,0,1,0,1,0,0,1,0,0,1] w [⟨.pt g4,151,0,nums .u32 x8_1⟩] [] [0] ([0,3,5,7,10,12,1,11],[(0,.pt gp0),(8,.pt g4),(10,.i x10_1),(11,.u t28.1),(12,.u t28.2),(57,.pointer (some pq30)),(58,.u (rd x8_1 2)),(60,.u t28.1),(62,.pointer (some pq31)),(64,.u t28.2),(67,.pointer (some pq32)),(68,.u (rd x8_1 0)),(69,.pointer (some pq33))]):=by
      intro W104 M
      refine .a3 tr 2 6 13 ?_ ?_ ?_
      ·refine .ca (Jb.calls ht34) ?_
       rintro _ W105 ⟨rfl,M_⟩
       refine .ca M_ [0] ?_
       replace M:=M.cg M_
       exact .pz tr [4]<| .jn M [0] [] (J84) rfl rfl
      ·exact .wn Cq31 M 0 rfl hlx8_1<| .pz tr [8]<| .jn M [0] [] (J81) rfl rfl
      ·exact .wn Cq33 M 0 rfl hlx8_1<| .jn M [0] [] (J86) rfl rfl
     have J106:RJ 63 f63 (Kx.R r w) [1,1,1,1,0,1,0,1,0,1,0,0,1,0,0,1] w [⟨.pt g4,151,0,nums .u32 x8_1⟩] [] [0] ([0,3,5,7,10,12,6,8],[(0,.pt gp0),(8,.pt g4),(10,.i x10_1),(11,.u t28.1),(12,.u t28.2),(57,.pointer (some pq30)),(60,.u t28.1),(62,.pointer (some pq31)),(63,.u (rd x8_1 3)),(64,.u t28.2),(65,.u (bxor .u32 (rd x8_1 3) t28.2)),(67,.pointer (some pq32)),(69,.pointer (some pq33))]):=by
      intro W107 M
      refine .a3 tr 1 11 13 ?_ ?_ ?_
      ·exact .wn Cq30 M 0 rfl hlx8_1<| .jn M [0] [] (J93) rfl rfl
      ·exact .wn Cq32 M 0 rfl hlx8_1<| .jn M [0] [] (J91) rfl rfl
      ·exact .wn Cq33 M 0 rfl hlx8_1<| .jn M [0] [] (J89) rfl rfl
     have J108:RJ 63 f63 (Kx.R r w) [1,1,1,1,0,1,0,1,0,1,0,0,1,0,0,1] w [⟨.pt g4,151,0,nums .u32 x8_1⟩] [] [0] ([0,3,5,7,10,12,13],[(0,.pt gp0),(8,.pt g4),(10,.i x10_1),(11,.u t28.1),(12,.u t28.2),(57,.pointer (some pq30)),(60,.u t28.1),(62,.pointer (some pq31)),(64,.u t28.2),(67,.pointer (some pq32)),(69,.pointer (some pq33)),(70,.u (rd x8_1 1))]):=by
      intro W109 M
      refine .a3 tr 1 6 11 ?_ ?_ ?_
      ·exact .wn Cq30 M 0 rfl hlx8_1<| .jn M [0] [] (J100) rfl rfl
      ·exact .wn Cq31 M 0 rfl hlx8_1<| .pz tr [8]<| .jn M [0] [] (J89) rfl rfl
      ·exact .wn Cq32 M 0 rfl hlx8_1<| .jn M [0] [] (J98) rfl rfl
     have J110:RJ 63 f63 (Kx.R r w) [1,1,1,1,0,1,0,1,0,1,0,0,1,0,0,1] w [⟨.pt g4,151,0,nums .u32 x8_1⟩] [] [0] ([0,3,5,7,10,12,11],[(0,.pt gp0),(8,.pt g4),(10,.i x10_1),(11,.u t28.1),(12,.u t28.2),(57,.pointer (some pq30)),(60,.u t28.1),(62,.pointer (some pq31)),(64,.u t28.2),(67,.pointer (some pq32)),(68,.u (rd x8_1 0)),(69,.pointer (some pq33))]):=by
      intro W111 M
      refine .a3 tr 1 6 13 ?_ ?_ ?_
      ·exact .wn Cq30 M 0 rfl hlx8_1<| .jn M [0] [] (J103) rfl rfl
      ·exact .wn Cq31 M 0 rfl hlx8_1<| .pz tr [8]<| .jn M [0] [] (J91) rfl rfl
      ·exact .wn Cq33 M 0 rfl hlx8_1<| .jn M [0] [] (J98) rfl rfl
     have J112:RJ 63 f63 (Kx.R r w) [1,1,1,1,0,1,0,1,0,1,0,0,1,0,0,1] w [⟨.pt g4,151,0,nums .u32 x8_1⟩] [] [0] ([0,3,5,7,10,12,1],[(0,.pt gp0),(8,.pt g4),(10,.i x10_1),(11,.u t28.1),(12,.u t28.2),(57,.pointer (some pq30)),(58,.u (rd x8_1 2)),(60,.u t28.1),(62,.pointer (some pq31)),(64,.u t28.2),(67,.pointer (some pq32)),(69,.pointer (some pq33))]):=by
      intro W113 M
      refine .a4 tr 2 6 11 13 ?_ ?_ ?_ ?_
      ·refine .ca (Jb.calls ht34) ?_
       rintro _ W114 ⟨rfl,M_⟩
       refine .ca M_ [0] ?_
       replace M:=M.cg M_
       exact .pz tr [4]<| .jn M [0] [] (J96) rfl rfl
      ·exact .wn Cq31 M 0 rfl hlx8_1<| .pz tr [8]<| .jn M [0] [] (J93) rfl rfl
      ·exact .wn Cq32 M 0 rfl hlx8_1<| .jn M [0] [] (J103) rfl rfl
      ·exact .wn Cq33 M 0 rfl hlx8_1<| .jn M [0] [] (J100) rfl rfl
     refine .a4 tr 1 6 11 13 ?_ ?_ ?_ ?_
     ·exact .wn Cq30 M 0 rfl hlx8_1<| .jn M [0] [] (J112) rfl rfl
     ·exact .wn Cq31 M 0 rfl hlx8_1<| .pz tr [8]<| .jn M [0] [] (J106) rfl rfl
     ·exact .wn Cq32 M 0 rfl hlx8_1<| .jn M [0] [] (J110) rfl rfl
     ·exact .wn Cq33 M 0 rfl hlx8_1<| .jn M [0] [] (J108) rfl rfl
    refine .kn 44 c24<| .gq 4 ?_
    obtain ⟨pq115,Cq115⟩:=M.nv 0 rfl (N:=4) (i:=2) hlx8_1 (by omega) (by decide)
    refine .ia Cq115<| .lc Cq115 ?_
    obtain ⟨pq116,Cq116⟩:=M.nv 0 rfl (N:=4) (i:=3) hlx8_1 (by omega) (by decide)
    refine .ia Cq116<| .lc Cq116 ?_
    obtain ⟨pq117,Cq117⟩:=M.nv 0 rfl (N:=4) (i:=0) hlx8_1 (by omega) (by decide)
    refine .ia Cq117<| .lc Cq117 ?_
    obtain ⟨pq118,Cq118⟩:=M.nv 0 rfl (N:=4) (i:=1) hlx8_1 (by omega) (by decide)
    refine .ia Cq118<| .lc Cq118<| .gq 1<| .sw (new:=nums .u32 ([rd x8_1 2,rd x8_1 3,rd x8_1 0,rd x8_1 1]:Li)) M 0 rfl (all_nums' hlx8_1) (all_nums' rfl) (all_nums _ _) fun W119 M=> .gq 3<| .y (yl_ldv (all_nums' rfl)) (M.block 0 rfl) ?_
    obtain ⟨t121,ht121,h⟩:=bs h
    refine .ca (Kz.calls rfl hp0 (zp M hZp0) ht121) ?_
    rintro _ W120 ⟨rfl,hNt121_0,M_⟩
    replace M:=M.cg M_
    refine .sw (new:=nums .u32 t121) M 0 rfl (all_nums' rfl) (all_nums' hNt121_0) (all_nums _ _) fun W122 M=> .gq 3 ?_
    obtain ⟨c125,h⟩:=ifd h
    refine .mn 5 .u8 0 16 M fun g124 W123 M=> .gq 5<| .y (yl_ldv (all_nums' hNt121_0)) (M.block 1 rfl)<| .gq 4 ?_
    have l2: ∀k_≤k,∀(A16_2:Option Addr) (c16_2:Nat) (x16_2:Li) (x129_2:Int) {W:World} (M:Mem w W (Gs [⟨.slice A16_2 x16_2.length c16_2,5,1,nums .u8 x16_2⟩] [])) (h:Kx.l2 k_ t121 x16_2 x129_2=some r),RL 63 f63 (Kx.R r w) [1,1,1,1,1,1,0,1,0,0] [(16,.slice A16_2 x16_2.length c16_2),(128,.agg (nums .u32 t121).toArray),(129,.i x129_2)] W:=by
     refine loopI (by intros;rename_i h;simp [Kx.l2] at h) fun k hk ih2 A16_2 c16_2 x16_2 x129_2 W M h=> ?_
     simp only [Kx.l2] at h
     refine .gq 5 ?_
     rcases ift h with ⟨c128,h⟩ | ⟨c128,h⟩
     ·refine .kn 130 c128<| .gq 6 ?_
      obtain ⟨c129,h⟩:=ifd h
      obtain ⟨c130,h⟩:=ifd h
      refine .yt (yl_ixv (kd:= .u32) (N:=4) hNt121_0 c129 c130)<| .gq 5 ?_
      obtain ⟨t132,ht132,h⟩:=bs h
      refine .ca (Ja.calls ht132) ?_
      rintro _ W131 ⟨A133,c134,rfl,M_⟩
      replace M:=M.cg M_
      obtain ⟨c139,h⟩:=ifd h
      exact .an M 1 rfl (M.or 0) c139 fun A136 c137 W138 M=> .gq 8<| .at (ih2 k (by omega) A136 c137 (x16_2++t132) (I64 (x129_2+1)) (M.pm [1] []) h)
     refine .kn 130 c128<| .gq 8 ?_
     obtain rfl:=sj h
     exact .ret func63 ⟨A16_2,c16_2,rfl,(M.pm [0] [])⟩
    exact .at (l2 k k.le_refl (pa g124) 16 (List.replicate 0 (0:Int)) 0 (M.pm [0] []) h)
   exact .at (l1 k k.le_refl t22 15 (M.pm [0] []) hNt22_0 h)
  refine .kn 39 c20<| .gq 4<| .y (yl_ldv (all_nums' hlx8_0)) (M.block 0 rfl) ?_
  obtain ⟨t142,ht142,h⟩:=bs h
  refine .ca (Kz.calls hlx8_0 hp0 (zp M hZp0) ht142) ?_
  rintro _ W141 ⟨rfl,hNt142_0,M_⟩
  replace M:=M.cg M_
  refine .sw (new:=nums .u32 t142) M 0 rfl (all_nums' hlx8_0) (all_nums' hNt142_0) (all_nums _ _) fun W143 M=> .gq 8 ?_
  have l3: ∀k_≤k,∀(x8_3:Li) (x87_3:Int) {W:World} (M:Mem w W (Gs [⟨.pt g4,151,0,nums .u32 x8_3⟩] [])) (hlx8_3:x8_3.length=4) (h:Kx.l3 k_ a0 x8_3 x87_3=some r),RL 63 f63 (Kx.R r w) [1,1,1,1,0,1,1,1,0,1,0,0] [(0,.pt gp0),(8,.pt g4),(87,.i x87_3)] W:=by
   refine loopI (by intros;rename_i h;simp [Kx.l3] at h) fun k hk ih3 x8_3 x87_3 W M hlx8_3 h=> ?_
   simp only [Kx.l3] at h
   refine .gq 5 ?_
   rcases ift h with ⟨c144,h⟩ | ⟨c144,h⟩
   ·refine .kn 88 c144<| .gq 12 ?_
    obtain ⟨pq145,Cq145⟩:=M.nv 0 rfl (N:=4) (i:=0) hlx8_3 (by omega) (by decide)
    refine .ia Cq145<| .lc Cq145 ?_
    obtain ⟨pq146,Cq146⟩:=M.nv 0 rfl (N:=4) (i:=1) hlx8_3 (by omega) (by decide)
    refine .ia Cq146<| .lc Cq146<| .gq 1 ?_
    obtain ⟨t148,ht148,h⟩:=bs h
    refine .ca (Ky.calls hp0 (zp M hZp0) ht148) ?_
    rintro _ W147 ⟨rfl,M_⟩
    replace M:=M.cg M_
    refine .gq 6<| .at (show RL 63 f63 (Kx.R r w) [1,1,1,1,0,1,1,1,0,1,0,0,1,1,0,0,1,1] [(0,.pt gp0),(8,.pt g4),(14,.u t148.1),(15,.u t148.2),(87,.i x87_3)] _ from .dr [0] M fun W149 M=> ?_)
    obtain ⟨pq150,Cq150⟩:=M.nv 0 rfl (N:=4) (i:=2) hlx8_3 (by omega) (by decide)
    refine .ia tr 0 Cq150<| .pz tr [2] ?_
    obtain ⟨pq151,Cq151⟩:=M.nv 0 rfl (N:=4) (i:=3) hlx8_3 (by omega) (by decide)
    refine .ia tr 5 Cq151<| .pz tr [8] ?_
    obtain ⟨pq152,Cq152⟩:=M.nv 0 rfl (N:=4) (i:=0) hlx8_3 (by omega) (by decide)
    refine .ia tr 10 Cq152 ?_
    obtain ⟨pq153,Cq153⟩:=M.nv 0 rfl (N:=4) (i:=1) hlx8_3 (by omega) (by decide)
    refine .ia tr 12 Cq153 ?_
    obtain ⟨t154,ht154,h⟩:=bs h
    obtain ⟨t162,ht162,h⟩:=bs h
    have J168:RJ 63 f63 (Kx.R r w) [1,1,1,1,0,1,1,1,0,1,0,0,1,1,0,0,1,1] w [⟨.pt g4,151,0,nums .u32 x8_3⟩] [] [0] ([0,2,5,8,10,12,6,11,13,1,3,4,7,9,14],[(0,.pt gp0),(8,.pt g4),(14,.u t148.1),(15,.u t148.2),(87,.i x87_3),(100,.pointer (some pq150)),(101,.u (rd x8_3 2)),(102,.u t148.1),(103,.u (bxor .u32 (rd x8_3 2) t148.1)),(104,.u t154),(105,.pointer (some pq151)),(106,.u (rd x8_3 3)),(107,.u t162),(108,.u t148.2),(109,.u (bxor .u32 t162 t148.2)),(110,.pointer (some pq152)),(111,.u (rd x8_3 0)),(112,.pointer (some pq153)),(113,.u (rd x8_3 1)),(114,.agg (nums .u32 ([t154,bxor .u32 t162 t148.2,rd x8_3 0,rd x8_3 1]:Li)).toArray)]):=by
     intro W169 M
     exact .a1 tr 15<| .sw (new:=nums .u32 ([t154,bxor .u32 t162 t148.2,rd x8_3 0,rd x8_3 1]:Li)) M 0 rfl (all_nums' hlx8_3) (all_nums' rfl) (all_nums _ _) fun W170 M=> .dn tr<| .gq 6<| .at (ih3 k (by omega) ([t154,bxor .u32 t162 t148.2,rd x8_3 0,rd x8_3 1]:Li) (I64 (x87_3+1)) (M.pm [0] []) rfl h)
    have J171:RJ 63 f63 (Kx.R r w) [1,1,1,1,0,1,1,1,0,1,0,0,1,1,0,0,1,1] w [⟨.pt g4,151,0,nums .u32 x8_3⟩] [] [0] ([0,2,5,8,10,12,6,13,1,3,4,7,9],[(0,.pt gp0),(8,.pt g4),(14,.u t148.1),(15,.u t148.2),(87,.i x87_3),(100,.pointer (some pq150)),(101,.u (rd x8_3 2)),(102,.u t148.1),(103,.u (bxor .u32 (rd x8_3 2) t148.1)),(104,.u t154),(105,.pointer (some pq151)),(106,.u (rd x8_3 3)),(107,.u t162),(108,.u t148.2),(109,.u (bxor .u32 t162 t148.2)),(110,.pointer (some pq152)),(112,.pointer (some pq153)),(113,.u (rd x8_3 1))]):=by
     intro W172 M
     exact .a1 tr 11<| .wn Cq152 M 0 rfl hlx8_3<| .pz tr [14]<| .jn M [0] [] (J168) rfl rfl
    have J173:RJ 63 f63 (Kx.R r w) [1,1,1,1,0,1,1,1,0,1,0,0,1,1,0,0,1,1] w [⟨.pt g4,151,0,nums .u32 x8_3⟩] [] [0] ([0,2,5,8,10,12,6,11,1,3,4,7,9],[(0,.pt gp0),(8,.pt g4),(14,.u t148.1),(15,.u t148.2),(87,.i x87_3),(100,.pointer (some pq150)),(101,.u (rd x8_3 2)),(102,.u t148.1),(103,.u (bxor .u32 (rd x8_3 2) t148.1)),(104,.u t154),(105,.pointer (some pq151)),(106,.u (rd x8_3 3)),(107,.u t162),(108,.u t148.2),(109,.u (bxor .u32 t162 t148.2)),(110,.pointer (some pq152)),(111,.u (rd x8_3 0)),(112,.pointer (some pq153))]):=by
     intro W174 M
     exact .a1 tr 13<| .wn Cq153 M 0 rfl hlx8_3<| .pz tr [14]<| .jn M [0] [] (J168) rfl rfl
    have J175:RJ 63 f63 (Kx.R r w) [1,1,1,1,0,1,1,1,0,1,0,0,1,1,0,0,1,1] w [⟨.pt g4,151,0,nums .u32 x8_3⟩] [] [0] ([0,2,5,8,10,12,6,11,13,1,3,4],[(0,.pt gp0),(8,.pt g4),(14,.u t148.1),(15,.u t148.2),(87,.i x87_3),(100,.pointer (some pq150)),(101,.u (rd x8_3 2)),(102,.u t148.1),(103,.u (bxor .u32 (rd x8_3 2) t148.1)),(104,.u t154),(105,.pointer (some pq151)),(106,.u (rd x8_3 3)),(108,.u t148.2),(110,.pointer (some pq152)),(111,.u (rd x8_3 0)),(112,.pointer (some pq153)),(113,.u (rd x8_3 1))]):=by
     intro W176 M
     refine .a1 tr 7<| .ca (Jb.calls ht162) ?_
     rintro _ W177 ⟨rfl,M_⟩
     refine .ca M_ [0] ?_
     replace M:=M.cg M_
     exact .pz tr [9,14]<| .jn M [0] [] (J168) rfl rfl
    have J178:RJ 63 f63 (Kx.R r w) [1,1,1,1,0,1,1,1,0,1,0,0,1,1,0,0,1,1] w [⟨.pt g4,151,0,nums .u32 x8_3⟩] [] [0] ([0,2,5,8,10,12,6,1,3,4,7,9],[(0,.pt gp0),(8,.pt g4),(14,.u t148.1),(15,.u t148.2),(87,.i x87_3),(100,.pointer (some pq150)),(101,.u (rd x8_3 2)),(102,.u t148.1),(103,.u (bxor .u32 (rd x8_3 2) t148.1)),(104,.u t154),(105,.pointer (some pq151)),(106,.u (rd x8_3 3)),(107,.u t162),(108,.u t148.2),(109,.u (bxor .u32 t162 t148.2)),(110,.pointer (some pq152)),(112,.pointer (some pq153))]):=by
     intro W179 M
     refine .a2 tr 11 13 ?_ ?_
     ·exact .wn Cq152 M 0 rfl hlx8_3<| .jn M [0] [] (J173) rfl rfl
     ·exact .wn Cq153 M 0 rfl hlx8_3<| .jn M [0] [] (J171) rfl rfl
    have J180:RJ 63 f63 (Kx.R r w) [1,1,1,1,0,1,1,1,0,1,0,0,1,1,0,0,1,1] w [⟨.pt g4,151,0,nums .u32 x8_3⟩] [] [0] ([0,2,5,8,10,12,11,13,1,3,4],[(0,.pt gp0),(8,.pt g4),(14,.u t148.1),(15,.u t148.2),(87,.i x87_3),(100,.pointer (some pq150)),(101,.u (rd x8_3 2)),(102,.u t148.1),(103,.u (bxor .u32 (rd x8_3 2) t148.1)),(104,.u t154),(105,.pointer (some pq151)),(108,.u t148.2),(110,.pointer (some pq152)),(111,.u (rd x8_3 0)),(112,.pointer (some pq153)),(113,.u (rd x8_3 1))]):=by
     intro W181 M
     exact .a1 tr 6<| .wn Cq151 M 0 rfl hlx8_3<| .jn M [0] [] (J175) rfl rfl
    have J182:RJ 63 f63 (Kx.R r w) [1,1,1,1,0,1,1,1,0,1,0,0,1,1,0,0,1,1] w [⟨.pt g4,151,0,nums .u32 x8_3⟩] [] [0] ([0,2,5,8,10,12,6,13,1,3,4],[(0,.pt gp0),(8,.pt g4),(14,.u t148.1),(15,.u t148.2),(87,.i x87_3),(100,.pointer (some pq150)),(101,.u (rd x8_3 2)),(102,.u t148.1),(103,.u (bxor .u32 (rd x8_3 2) t148.1)),(104,.u t154),(105,.pointer (some pq151)),(106,.u (rd x8_3 3)),(108,.u t148.2),(110,.pointer (some pq152)),(112,.pointer (some pq153)),(113,.u (rd x8_3 1))]):=by
     intro W183 M
     refine .a2 tr 7 11 ?_ ?_
     ·refine .ca (Jb.calls ht162) ?_
      rintro _ W184 ⟨rfl,M_⟩
      refine .ca M_ [0] ?_
      replace M:=M.cg M_
      exact .pz tr [9]<| .jn M [0] [] (J171) rfl rfl
     ·exact .wn Cq152 M 0 rfl hlx8_3<| .jn M [0] [] (J175) rfl rfl
    have J185:RJ 63 f63 (Kx.R r w) [1,1,1,1,0,1,1,1,0,1,0,0,1,1,0,0,1,1] w [⟨.pt g4,151,0,nums .u32 x8_3⟩] [] [0] ([0,2,5,8,10,12,6,11,1,3,4],[(0,.pt gp0),(8,.pt g4),(14,.u t148.1),(15,.u t148.2),(87,.i x87_3),(100,.pointer (some pq150)),(101,.u (rd x8_3 2)),(102,.u t148.1),(103,.u (bxor .u32 (rd x8_3 2) t148.1)),(104,.u t154),(105,.pointer (some pq151)),(106,.u (rd x8_3 3)),(108,.u t148.2),(110,.pointer (some pq152)),(111,.u (rd x8_3 0)),(112,.pointer (some pq153))]):=by
     intro W186 M
     refine .a2 tr 7 13 ?_ ?_
     ·refine .ca (Jb.calls ht162) ?_
      rintro _ W187 ⟨rfl,M_⟩
      refine .ca M_ [0] ?_
      replace M:=M.cg M_
      exact .pz tr [9]<| .jn M [0] [] (J173) rfl rfl
     ·exact .wn Cq153 M 0 rfl hlx8_3<| .jn M [0] [] (J175) rfl rfl
    have J188:RJ 63 f63 (Kx.R r w) [1,1,1,1,0,1,1,1,0,1,0,0,1,1,0,0,1,1] w [⟨.pt g4,151,0,nums .u32 x8_3⟩] [] [0] ([0,2,5,8,10,12,6,11,13,1,3],[(0,.pt gp0),(8,.pt g4),(14,.u t148.1),(15,.u t148.2),(87,.i x87_3),(100,.pointer (some pq150)),(101,.u (rd x8_3 2)),(102,.u t148.1),(103,.u (bxor .u32 (rd x8_3 2) t148.1)),(105,.pointer (some pq151)),(106,.u (rd x8_3 3)),(108,.u t148.2),(110,.pointer (some pq152)),(111,.u (rd x8_3 0)),(112,.pointer (some pq153)),(113,.u (rd x8_3 1))]):=by
     intro W189 M
     refine .a1 tr 4<| .ca (Jb.calls ht154) ?_
     rintro _ W190 ⟨rfl,M_⟩
     refine .ca M_ [0] ?_
     replace M:=M.cg M_
     exact .jn M [0] [] (J175) rfl rfl
    have J191:RJ 63 f63 (Kx.R r w) [1,1,1,1,0,1,1,1,0,1,0,0,1,1,0,0,1,1] w [⟨.pt g4,151,0,nums .u32 x8_3⟩] [] [0] ([0,2,5,8,10,12,13,1,3,4],[(0,.pt gp0),(8,.pt g4),(14,.u t148.1),(15,.u t148.2),(87,.i x87_3),(100,.pointer (some pq150)),(101,.u (rd x8_3 2)),(102,.u t148.1),(103,.u (bxor .u32 (rd x8_3 2) t148.1)),(104,.u t154),(105,.pointer (some pq151)),(108,.u t148.2),(110,.pointer (some pq152)),(112,.pointer (some pq153)),(113,.u (rd x8_3 1))]):=by
     intro W192 M
     refine .a2 tr 6 11 ?_ ?_
     ·exact .wn Cq151 M 0 rfl hlx8_3<| .jn M [0] [] (J182) rfl rfl
     ·exact .wn Cq152 M 0 rfl hlx8_3<| .jn M [0] [] (J180) rfl rfl
    have J193:RJ 63 f63 (Kx.R r w) [1,1,1,1,0,1,1,1,0,1,0,0,1,1,0,0,1,1] w [⟨.pt g4,151,0,nums .u32 x8_3⟩] [] [0] ([0,2,5,8,10,12,11,1,3,4],[(0,.pt gp0),(8,.pt g4),(14,.u t148.1),(15,.u t148.2),(87,.i x87_3),(100,.pointer (some pq150)),(101,.u (rd x8_3 2)),(102,.u t148.1),(103,.u (bxor .u32 (rd x8_3 2) t148.1)),(104,.u t154),(105,.pointer (some pq151)),(108,.u t148.2),(110,.pointer (some pq152)),(111,.u (rd x8_3 0)),(112,.pointer (some pq153))]):=by
     intro W194 M
     refine .a2 tr 6 13 ?_ ?_
     ·exact .wn Cq151 M 0 rfl hlx8_3<| .jn M [0] [] (J185) rfl rfl
     ·exact .wn Cq153 M 0 rfl hlx8_3<| .jn M [0] [] (J180) rfl rfl
    have J195:RJ 63 f63 (Kx.R r w) [1,1,1,1,0,1,1,1,0,1,0,0,1,1,0,0,1,1] w [⟨.pt g4,151,0,nums .u32 x8_3⟩] [] [0] ([0,2,5,8,10,12,6,1,3,4],[(0,.pt gp0),(8,.pt g4),(14,.u t148.1),(15,.u t148.2),(87,.i x87_3),(100,.pointer (some pq150)),(101,.u (rd x8_3 2)),(102,.u t148.1),(103,.u (bxor .u32 (rd x8_3 2) t148.1)),(104,.u t154),(105,.pointer (some pq151)),(106,.u (rd x8_3 3)),(108,.u t148.2),(110,.pointer (some pq152)),(112,.pointer (some pq153))]):=by
     intro W196 M
     refine .a3 tr 7 11 13 ?_ ?_ ?_
     ·refine .ca (Jb.calls ht162) ?_
      rintro _ W197 ⟨rfl,M_⟩
      refine .ca M_ [0] ?_
      replace M:=M.cg M_
      exact .pz tr [9]<| .jn M [0] [] (J178) rfl rfl
     ·exact .wn Cq152 M 0 rfl hlx8_3<| .jn M [0] [] (J185) rfl rfl
     ·exact .wn Cq153 M 0 rfl hlx8_3<| .jn M [0] [] (J182) rfl rfl
    have J198:RJ 63 f63 (Kx.R r w) [1,1,1,1,0,1,1,1,0,1,0,0,1,1,0,0,1,1] w [⟨.pt g4,151,0,nums .u32 x8_3⟩] [] [0] ([0,2,5,8,10,12,11,13,1,3],[(0,.pt gp0),(8,.pt g4),(14,.u t148.1),(15,.u t148.2),(87,.i x87_3),(100,.pointer (some pq150)),(101,.u (rd x8_3 2)),(102,.u t148.1),(103,.u (bxor .u32 (rd x8_3 2) t148.1)),(105,.pointer (some pq151)),(108,.u t148.2),(110,.pointer (some pq152)),(111,.u (rd x8_3 0)),(112,.pointer (some pq153)),(113,.u (rd x8_3 1))]):=by
     intro W199 M
     refine .a2 tr 4 6 ?_ ?_
     ·refine .ca (Jb.calls ht154) ?_
      rintro _ W200 ⟨rfl,M_⟩
      refine .ca M_ [0] ?_
      replace M:=M.cg M_
      exact .jn M [0] [] (J180) rfl rfl
     ·exact .wn Cq151 M 0 rfl hlx8_3<| .jn M [0] [] (J188) rfl rfl
    have J201:RJ 63 f63 (Kx.R r w) [1,1,1,1,0,1,1,1,0,1,0,0,1,1,0,0,1,1] w [⟨.pt g4,151,0,nums .u32 x8_3⟩] [] [0] ([0,2,5,8,10,12,6,13,1,3],[(0,.pt gp0),(8,.pt g4),(14,.u t148.1),(15,.u t148.2),(87,.i x87_3),(100,.pointer (some pq150)),(101,.u (rd x8_3 2)),(102,.u t148.1),(103,.u (bxor .u32 (rd x8_3 2) t148.1)),(105,.pointer (some pq151)),(106,.u (rd x8_3 3)),(108,.u t148.2),(110,.pointer (some pq152)),(112,.pointer (some pq153)),(113,.u (rd x8_3 1))]):=by
     intro W202 M
     refine .a2 tr 4 11 ?_ ?_
     ·refine .ca (Jb.calls ht154) ?_
      rintro _ W203 ⟨rfl,M_⟩
      refine .ca M_ [0] ?_
      replace M:=M.cg M_
      exact .jn M [0] [] (J182) rfl rfl
     ·exact .wn Cq152 M 0 rfl hlx8_3<| .jn M [0] [] (J188) rfl rfl
    have J204:RJ 63 f63 (Kx.R r w) [1,1,1,1,0,1,1,1,0,1,0,0,1,1,0,0,1,1] w [⟨.pt g4,151,0,nums .u32 x8_3⟩] [] [0] ([0,2,5,8,10,12,6,11,1,3],[(0,.pt gp0),(8,.pt g4),(14,.u t148.1),(15,.u t148.2),(87,.i x87_3),(100,.pointer (some pq150)),(101,.u (rd x8_3 2)),(102,.u t148.1),(103,.u (bxor .u32 (rd x8_3 2) t148.1)),(105,.pointer (some pq151)),(106,.u (rd x8_3 3)),(108,.u t148.2),(110,.pointer (some pq152)),(111,.u (rd x8_3 0)),(112,.pointer (some pq153))]):=by
     intro W205 M
     refine .a2 tr 4 13 ?_ ?_
     ·refine .ca (Jb.calls ht154) ?_
      rintro _ W206 ⟨rfl,M_⟩
      refine .ca M_ [0] ?_
      replace M:=M.cg M_
      exact .jn M [0] [] (J185) rfl rfl
     ·exact .wn Cq153 M 0 rfl hlx8_3<| .jn M [0] [] (J188) rfl rfl
    have J207:RJ 63 f63 (Kx.R r w) [1,1,1,1,0,1,1,1,0,1,0,0,1,1,0,0,1,1] w [⟨.pt g4,151,0,nums .u32 x8_3⟩] [] [0] ([0,2,5,8,10,12,6,11,13],[(0,.pt gp0),(8,.pt g4),(14,.u t148.1),(15,.u t148.2),(87,.i x87_3),(100,.pointer (some pq150)),(102,.u t148.1),(105,.pointer (some pq151)),(106,.u (rd x8_3 3)),(108,.u t148.2),(110,.pointer (some pq152)),(111,.u (rd x8_3 0)),(112,.pointer (some pq153)),(113,.u (rd x8_3 1))]):=by
     intro W208 M
     exact .a1 tr 1<| .wn Cq150 M 0 rfl hlx8_3<| .pz tr [3]<| .jn M [0] [] (J188) rfl rfl
    have J209:RJ 63 f63 (Kx.R r w) [1,1,1,1,0,1,1,1,0,1,0,0,1,1,0,0,1,1] w [⟨.pt g4,151,0,nums .u32 x8_3⟩] [] [0] ([0,2,5,8,10,12,1,3,4],[(0,.pt gp0),(8,.pt g4),(14,.u t148.1),(15,.u t148.2),(87,.i x87_3),(100,.pointer (some pq150)),(101,.u (rd x8_3 2)),(102,.u t148.1),(103,.u (bxor .u32 (rd x8_3 2) t148.1)),(104,.u t154),(105,.pointer (some pq151)),(108,.u t148.2),(110,.pointer (some pq152)),(112,.pointer (some pq153))]):=by
     intro W210 M
     refine .a3 tr 6 11 13 ?_ ?_ ?_
     ·exact .wn Cq151 M 0 rfl hlx8_3<| .jn M [0] [] (J195) rfl rfl
     ·exact .wn Cq152 M 0 rfl hlx8_3<| .jn M [0] [] (J193) rfl rfl
     ·exact .wn Cq153 M 0 rfl hlx8_3<| .jn M [0] [] (J191) rfl rfl
    have J211:RJ 63 f63 (Kx.R r w) [1,1,1,1,0,1,1,1,0,1,0,0,1,1,0,0,1,1] w [⟨.pt g4,151,0,nums .u32 x8_3⟩] [] [0] ([0,2,5,8,10,12,13,1,3],[(0,.pt gp0),(8,.pt g4),(14,.u t148.1),(15,.u t148.2),(87,.i x87_3),(100,.pointer (some pq150)),(101,.u (rd x8_3 2)),(102,.u t148.1),(103,.u (bxor .u32 (rd x8_3 2) t148.1)),(105,.pointer (some pq151)),(108,.u t148.2),(110,.pointer (some pq152)),(112,.pointer (some pq153)),(113,.u (rd x8_3 1))]):=by
     intro W212 M
     refine .a3 tr 4 6 11 ?_ ?_ ?_
     ·refine .ca (Jb.calls ht154) ?_
      rintro _ W213 ⟨rfl,M_⟩
      refine .ca M_ [0] ?_
      replace M:=M.cg M_
      exact .jn M [0] [] (J191) rfl rfl
     ·exact .wn Cq151 M 0 rfl hlx8_3<| .jn M [0] [] (J201) rfl rfl
     ·exact .wn Cq152 M 0 rfl hlx8_3<| .jn M [0] [] (J198) rfl rfl
    have J214:RJ 63 f63 (Kx.R r w) [1,1,1,1,0,1,1,1,0,1,0,0,1,1,0,0,1,1] w [⟨.pt g4,151,0,nums .u32 x8_3⟩] [] [0] ([0,2,5,8,10,12,11,1,3],[(0,.pt gp0),(8,.pt g4),(14,.u t148.1),(15,.u t148.2),(87,.i x87_3),(100,.pointer (some pq150)),(101,.u (rd x8_3 2)),(102,.u t148.1),(103,.u (bxor .u32 (rd x8_3 2) t148.1)),(105,.pointer (some pq151)),(108,.u t148.2),(110,.pointer (some pq152)),(111,.u (rd x8_3 0)),(112,.pointer (some pq153))]):=by
     intro W215 M
     refine .a3 tr 4 6 13 ?_ ?_ ?_
     ·refine .ca (Jb.calls ht154) ?_
      rintro _ W216 ⟨rfl,M_⟩
      refine .ca M_ [0] ?_
      replace M:=M.cg M_
      exact .jn M [0] [] (J193) rfl rfl
     ·exact .wn Cq151 M 0 rfl hlx8_3<| .jn M [0] [] (J204) rfl rfl
     ·exact .wn Cq153 M 0 rfl hlx8_3<| .jn M [0] [] (J198) rfl rfl
    have J217:RJ 63 f63 (Kx.R r w) [1,1,1,1,0,1,1,1,0,1,0,0,1,1,0,0,1,1] w [⟨.pt g4,151,0,nums .u32 x8_3⟩] [] [0] ([0,2,5,8,10,12,6,1,3],[(0,.pt gp0),(8,.pt g4),(14,.u t148.1),(15,.u t148.2),(87,.i x87_3),(100,.pointer (some pq150)),(101,.u (rd x8_3 2)),(102,.u t148.1),(103,.u (bxor .u32 (rd x8_3 2) t148.1)),(105,.pointer (some pq151)),(106,.u (rd x8_3 3)),(108,.u t148.2),(110,.pointer (some pq152)),(112,.pointer (some pq153))]):=by
     intro W218 M
     refine .a3 tr 4 11 13 ?_ ?_ ?_
     ·refine .ca (Jb.calls ht154) ?_
      rintro _ W219 ⟨rfl,M_⟩
      refine .ca M_ [0] ?_
      replace M:=M.cg M_
      exact .jn M [0] [] (J195) rfl rfl
     ·exact .wn Cq152 M 0 rfl hlx8_3<| .jn M [0] [] (J204) rfl rfl
     ·exact .wn Cq153 M 0 rfl hlx8_3<| .jn M [0] [] (J201) rfl rfl
    have J220:RJ 63 f63 (Kx.R r w) [1,1,1,1,0,1,1,1,0,1,0,0,1,1,0,0,1,1] w [⟨.pt g4,151,0,nums .u32 x8_3⟩] [] [0] ([0,2,5,8,10,12,11,13],[(0,.pt gp0),(8,.pt g4),(14,.u t148.1),(15,.u t148.2),(87,.i x87_3),(100,.pointer (some pq150)),(102,.u t148.1),(105,.pointer (some pq151)),(108,.u t148.2),(110,.pointer (some pq152)),(111,.u (rd x8_3 0)),(112,.pointer (some pq153)),(113,.u (rd x8_3 1))]):=by
     intro W221 M
     refine .a2 tr 1 6 ?_ ?_
     ·exact .wn Cq150 M 0 rfl hlx8_3<| .pz tr [3]<| .jn M [0] [] (J198) rfl rfl
     ·exact .wn Cq151 M 0 rfl hlx8_3<| .jn M [0] [] (J207) rfl rfl
    have J222:RJ 63 f63 (Kx.R r w) [1,1,1,1,0,1,1,1,0,1,0,0,1,1,0,0,1,1] w [⟨.pt g4,151,0,nums .u32 x8_3⟩] [] [0] ([0,2,5,8,10,12,6,13],[(0,.pt gp0),(8,.pt g4),(14,.u t148.1),(15,.u t148.2),(87,.i x87_3),(100,.pointer (some pq150)),(102,.u t148.1),(105,.pointer (some pq151)),(106,.u (rd x8_3 3)),(108,.u t148.2),(110,.pointer (some pq152)),(112,.pointer (some pq153)),(113,.u (rd x8_3 1))]):=by
     intro W223 M
     refine .a2 tr 1 11 ?_ ?_
     ·exact .wn Cq150 M 0 rfl hlx8_3<| .pz tr [3]<| .jn M [0] [] (J201) rfl rfl
     ·exact .wn Cq152 M 0 rfl hlx8_3<| .jn M [0] [] (J207) rfl rfl
    have J224:RJ 63 f63 (Kx.R r w) [1,1,1,1,0,1,1,1,0,1,0,0,1,1,0,0,1,1] w [⟨.pt g4,151,0,nums .u32 x8_3⟩] [] [0] ([0,2,5,8,10,12,6,11],[(0,.pt gp0),(8,.pt g4),(14,.u t148.1),(15,.u t148.2),(87,.i x87_3),(100,.pointer (some pq150)),(102,.u t148.1),(105,.pointer (some pq151)),(106,.u (rd x8_3 3)),(108,.u t148.2),(110,.pointer (some pq152)),(111,.u (rd x8_3 0)),(112,.pointer (some pq153))]):=by
     intro W225 M
     refine .a2 tr 1 13 ?_ ?_
     ·exact .wn Cq150 M 0 rfl hlx8_3<| .pz tr [3]<| .jn M [0] [] (J204) rfl rfl
     ·exact .wn Cq153 M 0 rfl hlx8_3<| .jn M [0] [] (J207) rfl rfl
    have J226:RJ 63 f63 (Kx.R r w) [1,1,1,1,0,1,1,1,0,1,0,0,1,1,0,0,1,1] w [⟨.pt g4,151,0,nums .u32 x8_3⟩] [] [0] ([0,2,5,8,10,12,1,3],[(0,.pt gp0),(8,.pt g4),(14,.u t148.1),(15,.u t148.2),(87,.i x87_3),(100,.pointer (some pq150)),(101,.u (rd x8_3 2)),(102,.u t148.1),(103,.u (bxor .u32 (rd x8_3 2) t148.1)),(105,.pointer (some pq151)),(108,.u t148.2),(110,.pointer (some pq152)),(112,.pointer (some pq153))]):=by
     intro W227 M
     refine .a4 tr 4 6 11 13 ?_ ?_ ?_ ?_
     ·refine .ca (Jb.calls ht154) ?_
      rintro _ W228 ⟨rfl,M_⟩
      refine .ca M_ [0] ?_
      replace M:=M.cg M_
      exact .jn M [0] [] (J209) rfl rfl
     ·exact .wn Cq151 M 0 rfl hlx8_3<| .jn M [0] [] (J217) rfl rfl
     ·exact .wn Cq152 M 0 rfl hlx8_3<| .jn M [0] [] (J214) rfl rfl
     ·exact .wn Cq153 M 0 rfl hlx8_3<| .jn M [0] [] (J211) rfl rfl
    have J229:RJ 63 f63 (Kx.R r w) [1,1,1,1,0,1,1,1,0,1,0,0,1,1,0,0,1,1] w [⟨.pt g4,151,0,nums .u32 x8_3⟩] [] [0] ([0,2,5,8,10,12,13],[(0,.pt gp0),(8,.pt g4),(14,.u t148.1),(15,.u t148.2),(87,.i x87_3),(100,.pointer (some pq150)),(102,.u t148.1),(105,.pointer (some pq151)),(108,.u t148.2),(110,.pointer (some pq152)),(112,.pointer (some pq153)),(113,.u (rd x8_3 1))]):=by
     intro W230 M
     refine .a3 tr 1 6 11 ?_ ?_ ?_
     ·exact .wn Cq150 M 0 rfl hlx8_3<| .pz tr [3]<| .jn M [0] [] (J211) rfl rfl
     ·exact .wn Cq151 M 0 rfl hlx8_3<| .jn M [0] [] (J222) rfl rfl
     ·exact .wn Cq152 M 0 rfl hlx8_3<| .jn M [0] [] (J220) rfl rfl
    have J231:RJ 63 f63 (Kx.R r w) [1,1,1,1,0,1,1,1,0,1,0,0,1,1,0,0,1,1] w [⟨.pt g4,151,0,nums .u32 x8_3⟩] [] [0] ([0,2,5,8,10,12,11],[(0,.pt gp0),(8,.pt g4),(14,.u t148.1),(15,.u t148.2),(87,.i x87_3),(100,.pointer (some pq150)),(102,.u t148.1),(105,.pointer (some pq151)),(108,.u t148.2),(110,.pointer (some pq152)),(111,.u (rd x8_3 0)),(112,.pointer (some pq153))]):=by
     intro W232 M
     refine .a3 tr 1 6 13 ?_ ?_ ?_
     ·exact .wn Cq150 M 0 rfl hlx8_3<| .pz tr [3]<| .jn M [0] [] (J214) rfl rfl
     ·exact .wn Cq151 M 0 rfl hlx8_3<| .jn M [0] [] (J224) rfl rfl
     ·exact .wn Cq153 M 0 rfl hlx8_3<| .jn M [0] [] (J220) rfl rfl
    have J233:RJ 63 f63 (Kx.R r w) [1,1,1,1,0,1,1,1,0,1,0,0,1,1,0,0,1,1] w [⟨.pt g4,151,0,nums .u32 x8_3⟩] [] [0] ([0,2,5,8,10,12,6],[(0,.pt gp0),(8,.pt g4),(14,.u t148.1),(15,.u t148.2),(87,.i x87_3),(100,.pointer (some pq150)),(102,.u t148.1),(105,.pointer (some pq151)),(106,.u (rd x8_3 3)),(108,.u t148.2),(110,.pointer (some pq152)),(112,.pointer (some pq153))]):=by
     intro W234 M
     refine .a3 tr 1 11 13 ?_ ?_ ?_
     ·exact .wn Cq150 M 0 rfl hlx8_3<| .pz tr [3]<| .jn M [0] [] (J217) rfl rfl
     ·exact .wn Cq152 M 0 rfl hlx8_3<| .jn M [0] [] (J224) rfl rfl
     ·exact .wn Cq153 M 0 rfl hlx8_3<| .jn M [0] [] (J222) rfl rfl
    refine .a4 tr 1 6 11 13 ?_ ?_ ?_ ?_
    ·exact .wn Cq150 M 0 rfl hlx8_3<| .pz tr [3]<| .jn M [0] [] (J226) rfl rfl
    ·exact .wn Cq151 M 0 rfl hlx8_3<| .jn M [0] [] (J233) rfl rfl
    ·exact .wn Cq152 M 0 rfl hlx8_3<| .jn M [0] [] (J231) rfl rfl
    ·exact .wn Cq153 M 0 rfl hlx8_3<| .jn M [0] [] (J229) rfl rfl
   refine .kn 88 c144<| .gq 4 ?_
   obtain ⟨pq235,Cq235⟩:=M.nv 0 rfl (N:=4) (i:=2) hlx8_3 (by omega) (by decide)
   refine .ia Cq235<| .lc Cq235 ?_
   obtain ⟨pq236,Cq236⟩:=M.nv 0 rfl (N:=4) (i:=3) hlx8_3 (by omega) (by decide)
   refine .ia Cq236<| .lc Cq236 ?_
   obtain ⟨pq237,Cq237⟩:=M.nv 0 rfl (N:=4) (i:=0) hlx8_3 (by omega) (by decide)
   refine .ia Cq237<| .lc Cq237 ?_
   obtain ⟨pq238,Cq238⟩:=M.nv 0 rfl (N:=4) (i:=1) hlx8_3 (by omega) (by decide)
   refine .ia Cq238<| .lc Cq238<| .gq 1 ?_
   obtain ⟨t240,ht240,h⟩:=bs h
   refine .ca (Kz.calls rfl hp0 (zp M hZp0) ht240) ?_
   rintro _ W239 ⟨rfl,hNt240_0,M_⟩
   replace M:=M.cg M_
   refine .sw (new:=nums .u32 t240) M 0 rfl (all_nums' hlx8_3) (all_nums' hNt240_0) (all_nums _ _) fun W241 M=> .gq 3 ?_
   obtain ⟨c244,h⟩:=ifd h
   refine .mn 5 .u8 0 16 M fun g243 W242 M=> .gq 5<| .y (yl_ldv (all_nums' hNt240_0)) (M.block 1 rfl)<| .gq 4 ?_
   have l4: ∀k_≤k,∀(A16_4:Option Addr) (c16_4:Nat) (x16_4:Li) (x129_4:Int) {W:World} (M:Mem w W (Gs [⟨.slice A16_4 x16_4.length c16_4,5,1,nums .u8 x16_4⟩] [])) (h:Kx.l4 k_ t240 x16_4 x129_4=some r),RL 63 f63 (Kx.R r w) [1,1,1,1,1,1,0,1,0,0] [(16,.slice A16_4 x16_4.length c16_4),(128,.agg (nums .u32 t240).toArray),(129,.i x129_4)] W:=by
    refine loopI (by intros;rename_i h;simp [Kx.l4] at h) fun k hk ih4 A16_4 c16_4 x16_4 x129_4 W M h=> ?_
    simp only [Kx.l4] at h
    refine .gq 5 ?_
    rcases ift h with ⟨c247,h⟩ | ⟨c247,h⟩
    ·refine .kn 130 c247<| .gq 6 ?_
     obtain ⟨c248,h⟩:=ifd h
     obtain ⟨c249,h⟩:=ifd h
     refine .yt (yl_ixv (kd:= .u32) (N:=4) hNt240_0 c248 c249)<| .gq 5 ?_
     obtain ⟨t251,ht251,h⟩:=bs h
     refine .ca (Ja.calls ht251) ?_
     rintro _ W250 ⟨A252,c253,rfl,M_⟩
     replace M:=M.cg M_
     obtain ⟨c258,h⟩:=ifd h
     exact .an M 1 rfl (M.or 0) c258 fun A255 c256 W257 M=> .gq 8<| .at (ih4 k (by omega) A255 c256 (x16_4++t251) (I64 (x129_4+1)) (M.pm [1] []) h)
    refine .kn 130 c247<| .gq 8 ?_
    obtain rfl:=sj h
    exact .ret func63 ⟨A16_4,c16_4,rfl,(M.pm [0] [])⟩
   exact .at (l4 k k.le_refl (pa g243) 16 (List.replicate 0 (0:Int)) 0 (M.pm [0] []) h)
  exact .at (l3 k k.le_refl t142 0 (M.pm [0] []) hNt142_0 h)
 exact .at (l0 k k.le_refl (List.replicate 4 (0:Int)) 0 (M.pm [0] []) List.length_replicate h)
mutual
def Qa.l0:Nat→(Lj×Lj)→Li→Option (Li×Int)
 | 0,_,_=>none
 | k+1,a0,x1_0=>gd (0≤(I64 ((a0.2.length:Int)-1))) (gd ((I64 ((a0.2.length:Int)-1))<(a0.2.length:Int)) ((Jd.f k x1_0 (rdr ([]:Li) a0.2 (I64 ((a0.2.length:Int)-1)))).bind fun t9=>(gd (0≤(I64 ((I64 ((a0.2.length:Int)-1))-1))) (gd ((I64 ((I64 ((a0.2.length:Int)-1))-1))<(a0.2.length:Int)) ((Qe.f k a0.1 1 t9.1).bind fun t18=>((Jd.f k t18 (rdr ([]:Li) a0.2 (I64 ((I64 ((a0.2.length:Int)-1))-1)))).bind fun t23=>(Qa.l1 k a0 t23.1 (I64 ((I64 ((a0.2.length:Int)-1))-2)))))))))
def Qa.l1:Nat→(Lj×Lj)→Li→Int→Option (Li×Int)
 | 0,_,_,_=>none
 | k+1,a0,x1_1,x9_1=>if (decide (x9_1≥0))=true then ((Qb.f k x1_1).bind fun t30=>(gd (0≤x9_1) (gd (x9_1<(a0.2.length:Int)) ((Qe.f k a0.1 (I64 (2-(Int.tmod x9_1 2))) t30.1).bind fun t39=>((Jd.f k t39 (rdr ([]:Li) a0.2 x9_1)).bind fun t44=>(Qa.l1 k a0 t44.1 (I64 (x9_1-1)))))))) else (some (x1_1,0))
def Qa.l2:Nat→(Lj×Lj)→Li→Int→Option (Li×Int)
 | 0,_,_,_=>none
 | k+1,a0,x1_2,x9_2=>(some (decide (x9_2<(I64 ((I64 ((a0.2.length:Int)-1))-1))):Bool)).bind fun y48=>(if y48=true then (gd (0≤x9_2) (gd (x9_2<(a0.2.length:Int)) ((Qf.f k a0.1 (I64 (1+(Int.tmod x9_2 2))) x1_2 (rdr ([]:Li) a0.2 x9_2)).bind fun t55=>(Qa.l3 k a0 t55 (I64 (x9_2+1)))))) else (gd (0≤x9_2) (gd (x9_2<(a0.2.length:Int)) ((Jd.f k x1_2 (rdr ([]:Li) a0.2 x9_2)).bind fun t97=>(gd (0≤(I64 ((a0.2.length:Int)-1))) (gd ((I64 ((a0.2.length:Int)-1))<(a0.2.length:Int)) ((Qe.f k a0.1 2 t97.1).bind fun t106=>((Jd.f k t106 (rdr ([]:Li) a0.2 (I64 ((a0.2.length:Int)-1)))).bind fun t111=>(some (t111.1,0))))))))))
def Qa.l3:Nat→(Lj×Lj)→Li→Int→Option (Li×Int)
 | 0,_,_,_=>none
 | k+1,a0,x1_3,x9_3=>(some (decide (x9_3<(I64 ((I64 ((a0.2.length:Int)-1))-1))):Bool)).bind fun y60=>(if y60=true then (gd (0≤x9_3) (gd (x9_3<(a0.2.length:Int)) ((Qf.f k a0.1 (I64 (1+(Int.tmod x9_3 2))) x1_3 (rdr ([]:Li) a0.2 x9_3)).bind fun t67=>(Qa.l3 k a0 t67 (I64 (x9_3+1)))))) else (gd (0≤x9_3) (gd (x9_3<(a0.2.length:Int)) ((Jd.f k x1_3 (rdr ([]:Li) a0.2 x9_3)).bind fun t75=>(gd (0≤(I64 ((a0.2.length:Int)-1))) (gd ((I64 ((a0.2.length:Int)-1))<(a0.2.length:Int)) ((Qe.f k a0.1 2 t75.1).bind fun t84=>((Jd.f k t84 (rdr ([]:Li) a0.2 (I64 ((a0.2.length:Int)-1)))).bind fun t89=>(some (t89.1,0))))))))))
end
def Qa.f (k:Nat) (a0:(Lj×Lj)) (a1:Li) (a2:Bool):Option (Li×Int):=if ((a1.length:Int) != 16)=true then (some (([]:Li),1)) else (if a2=true then (Qa.l0 k a0 a1) else (Qa.l2 k a0 a1 0))
abbrev Qa.R (r:Li×Int) (w:World):Value→World→Prop:=fun v w'=> ∃A0' c0',v= .tuple #[.slice A0' r.1.length c0',.i r.2]∧Mem w w' (Gs [⟨.slice A0' r.1.length c0',5,1,nums .u8 r.1⟩] [])
theorem Qa.calls {vp0:Value} {a0:(Lj×Lj)} {a1:Li} {a2:Bool} {r:Li×Int} (hr1:Rd w (.slice Ap1 np1 cp1) (nums .u8 a1)) (hp0:(rPtr Rs_aria_Aria) Zp0 vp0 a0) (hZp0: ∀W,Kept w W→Zp0 W) (h:Qa.f k a0 a1 a2=some r):Calls prog 65 #[vp0,(.slice Ap1 np1 cp1),.bool a2] w (Ret (Qa.R r w)):=by
 obtain rfl:=hr1.ln
 obtain ⟨gp0,_,rfl,hco1,co1_0,_,rfl,hlo1_0,hqo1_0,⟨Ao1_1,co1_1,cso1_1,rfl,hro1_1,hqo1_1⟩⟩:=id hp0
 unfold Qa.f at h
 refine calls_S func65 ?_
 have M:=Mem.r0 w
 refine .gq 13 ?_
 rcases ift h with ⟨c2,h⟩ | ⟨c2,h⟩
 ·refine .kn 12 c2<| .gq 6 ?_
  replace M:=M.n1 5
  obtain rfl:=sj h
  exact .ret func65 ⟨none,0,rfl,(M.pm [0] [])⟩
 refine .kn 12 c2<| .gq 7<| .ld (hco1 _ (hZp0 _ M.kept) 4 (.slice Ao1_1 a0.2.length co1_1) (by simp [hqo1_0.1.trans hlo1_0]))<| .gq 13 ?_
 rcases ift h with ⟨c4,h⟩ | ⟨c4,h⟩
 ·refine .kn 19 c4<| .gq 4 ?_
  have l0: ∀k_≤k,∀(A1_0:Option Addr) (c1_0:Nat) (x1_0:Li) {W:World} (M:Mem w W (Gs [] [])) (hrx1_0:Rd w (.slice A1_0 x1_0.length c1_0) (nums .u8 x1_0)) (h:Qa.l0 k_ a0 x1_0=some r),RL 65 f65 (Qa.R r w) [1,0,1,1,1,1,1,1,1,1,1] [(0,.pt gp0),(1,.slice A1_0 x1_0.length c1_0),(8,.i (I64 ((a0.2.length:Int)-1)))] W:=by
   refine loopI (by intros;rename_i h;simp [Qa.l0] at h) fun k hk ih0 A1_0 c1_0 x1_0 W M hrx1_0 h=> ?_
   simp only [Qa.l0] at h
   refine .gq 6<| .ld (hco1 _ (hZp0 _ M.kept) 4 (.slice Ao1_1 a0.2.length co1_1) (by simp [hqo1_0.1.trans hlo1_0]))<| .gq 1 ?_
   obtain ⟨c6,h⟩:=ifd h
   obtain ⟨c7,h⟩:=ifd h
   obtain ⟨uq5,huq5,hvq5⟩:=Each2.at hqo1_1 ([]:Li) (i:=I64 ((a0.2.length:Int)-1)) c6 c7
   obtain ⟨Aq5,cq5,rfl,hq5⟩:=hvq5
   obtain ⟨pq5,Cq5⟩:=(hro1_1 _ (hZp0 _ M.kept)).cel c6 c7 huq5
   refine .ix Cq5<| .lc Cq5 ?_
   obtain ⟨t9,ht9,h⟩:=bs h
   refine .ca (Jd.calls (hrx1_0.mono M.below) (hq5 _ (hZp0 _ M.kept)) ht9) ?_
   rintro _ W8 ⟨A10,c11,rfl,M_⟩
   replace M:=M.cg M_
   refine .gq 6<| .at (show RL 65 f65 (Qa.R r w) [1,0,1,1,1,1,1,1,1,1,1,1,0] [(0,.pt gp0),(1,.slice A10 t9.1.length c11),(8,.i (I64 ((a0.2.length:Int)-1)))] _ from .dr [] M fun W13 M=> ?_)
   refine .pz tr [0,1,2]<| .y tr 3 (yl_ldp (g:=gp0) (off:=0) 4 (co1_0) (hqo1_0.1.trans hlo1_0)) (fun _ hs=>(fun i_ u_ hu_=>by rw [Nat.zero_add];exact hco1 _ (hZp0 _ (M.ks hs)) i_ u_ (by first | exact hu_ | (rw [List.getElem?_append_left (List.getElem?_eq_some_iff.1 hu_).1];exact hu_)))) ?_
   refine .pz tr [4,6,7,8]<| .lz tr 9 (fun _ hs=>hco1 _ (hZp0 _ (M.ks hs)) 4 (.slice Ao1_1 a0.2.length co1_1) (by simp [hqo1_0.1.trans hlo1_0]))<| .pz tr [10,11] ?_
   obtain ⟨c15,h⟩:=ifd h
   obtain ⟨c16,h⟩:=ifd h
   obtain ⟨uq14,huq14,hvq14⟩:=Each2.at hqo1_1 ([]:Li) (i:=I64 ((I64 ((a0.2.length:Int)-1))-1)) c15 c16
   obtain ⟨Aq14,cq14,rfl,hq14⟩:=hvq14
   obtain ⟨pq14,Cq14⟩:=(hro1_1 _ (hZp0 _ M.kept)).cel c15 c16 huq14
   refine .ix tr 12 Cq14<| .lu tr 13 Cq14 huq14 (fun _ hs=>hro1_1 _ (hZp0 _ (M.ks hs))) ?_
   obtain ⟨t18,ht18,h⟩:=bs h
   refine .a1 tr 5<| .ca (Qe.calls (M.or 0) ⟨_,rfl,hlo1_0,hqo1_0⟩ (zp M hZp0) ht18) ?_
   rintro _ W17 ⟨A19,c20,rfl,M_⟩
   refine .ca M_ [] ?_
   replace M:=M.cg M_
   obtain ⟨t23,ht23,h⟩:=bs h
   refine .a1 tr 14<| .ca (Jd.calls (M.or 0) (hq14 _ (hZp0 _ M.kept)) ht23) ?_
   rintro _ W22 ⟨A24,c25,rfl,M_⟩
   refine .ca M_ [] ?_
   replace M:=M.cg M_
   refine .pz tr [15,16,17,18]<| .dn tr<| .gq 9 ?_
   have l1: ∀k_≤k,∀(A1_1:Option Addr) (c1_1:Nat) (x1_1:Li) (x9_1:Int) {W:World} (M:Mem w W (Gs [⟨.slice A1_1 x1_1.length c1_1,5,1,nums .u8 x1_1⟩] [])) (h:Qa.l1 k_ a0 x1_1 x9_1=some r),RL 65 f65 (Qa.R r w) [1,0,1,1,1,1,1,1,1,1,1,1,1,0,1,0,0] [(0,.pt gp0),(1,.slice A1_1 x1_1.length c1_1),(9,.i x9_1)] W:=by
    refine loopI (by intros;rename_i h;simp [Qa.l1] at h) fun k hk ih1 A1_1 c1_1 x1_1 x9_1 W M h=> ?_
    simp only [Qa.l1] at h
    refine .gq 6 ?_
    rcases ift h with ⟨c28,h⟩ | ⟨c28,h⟩
    ·refine .kn 105 c28<| .gq 7 ?_
     obtain ⟨t30,ht30,h⟩:=bs h
     refine .ca (Qb.calls (M.or 0) ht30) ?_
     rintro _ W29 ⟨A31,c32,rfl,M_⟩
     replace M:=M.cg M_
     refine .gq 5<| .at (show RL 65 f65 (Qa.R r w) [1,0,1,1,1,1,1,1,1,1,1,1,1,0,1,0,0,1,0,0,1] [(0,.pt gp0),(1,.slice A31 t30.1.length c32),(9,.i x9_1)] _ from .dr [] M fun W34 M=> ?_)
     refine .pz tr [0,1,2]<| .y tr 3 (yl_ldp (g:=gp0) (off:=0) 4 (co1_0) (hqo1_0.1.trans hlo1_0)) (fun _ hs=>(fun i_ u_ hu_=>by rw [Nat.zero_add];exact hco1 _ (hZp0 _ (M.ks hs)) i_ u_ (by first | exact hu_ | (rw [List.getElem?_append_left (List.getElem?_eq_some_iff.1 hu_).1];exact hu_)))) ?_
     refine .pz tr [4,5,6,7,9,10,11]<| .lz tr 12 (fun _ hs=>hco1 _ (hZp0 _ (M.ks hs)) 4 (.slice Ao1_1 a0.2.length co1_1) (by simp [hqo1_0.1.trans hlo1_0]))<| .pz tr [13] ?_
     obtain ⟨c36,h⟩:=ifd h
     obtain ⟨c37,h⟩:=ifd h
     obtain ⟨uq35,huq35,hvq35⟩:=Each2.at hqo1_1 ([]:Li) (i:=x9_1) c36 c37
     obtain ⟨Aq35,cq35,rfl,hq35⟩:=hvq35
     obtain ⟨pq35,Cq35⟩:=(hro1_1 _ (hZp0 _ M.kept)).cel c36 c37 huq35
     refine .ix tr 14 Cq35<| .lu tr 15 Cq35 huq35 (fun _ hs=>hro1_1 _ (hZp0 _ (M.ks hs))) ?_
     obtain ⟨t39,ht39,h⟩:=bs h
     refine .a1 tr 8<| .ca (Qe.calls (M.or 0) ⟨_,rfl,hlo1_0,hqo1_0⟩ (zp M hZp0) ht39) ?_
     rintro _ W38 ⟨A40,c41,rfl,M_⟩
     refine .ca M_ [] ?_
     replace M:=M.cg M_
     obtain ⟨t44,ht44,h⟩:=bs h
     refine .a1 tr 16<| .ca (Jd.calls (M.or 0) (hq35 _ (hZp0 _ M.kept)) ht44) ?_
     rintro _ W43 ⟨A45,c46,rfl,M_⟩
     refine .ca M_ [] ?_
     replace M:=M.cg M_
     exact .pz tr [17,18,19,20]<| .dn tr<| .gq 7<| .at (ih1 k (by omega) A45 c46 t44.1 (I64 (x9_1-1)) (M.pm [0] []) h)
    refine .kn 105 c28<| .gq 8 ?_
    obtain rfl:=sj h
    exact .ret func65 ⟨A1_1,c1_1,rfl,(M.pm [0] [])⟩
   exact .at (l1 k k.le_refl A24 c25 t23.1 (I64 ((I64 ((a0.2.length:Int)-1))-2)) (M.pm [0] []) h)
  exact .at (l0 k k.le_refl Ap1 cp1 a1 (M.pm [] []) hr1 h)
 refine .kn 19 c4<| .gq 5 ?_
 have l2: ∀k_≤k,∀(A1_2:Option Addr) (c1_2:Nat) (x1_2:Li) (x9_2:Int) {W:World} (M:Mem w W (Gs [] [])) (hrx1_2:Rd w (.slice A1_2 x1_2.length c1_2) (nums .u8 x1_2)) (h:Qa.l2 k_ a0 x1_2 x9_2=some r),RL 65 f65 (Qa.R r w) [1,0,1,1,1,1,0,0,0] [(0,.pt gp0),(1,.slice A1_2 x1_2.length c1_2),(8,.i (I64 ((a0.2.length:Int)-1))),(9,.i x9_2)] W:=by
  refine loopI (by intros;rename_i h;simp [Qa.l2] at h) fun k hk ih2 A1_2 c1_2 x1_2 x9_2 W M hrx1_2 h=> ?_
  simp only [Qa.l2] at h
  refine .gq 8 ?_
  let y48:Bool:=decide (x9_2<(I64 ((I64 ((a0.2.length:Int)-1))-1)))
  replace h:=bz (y:=y48) h rfl
  rcases ift h with ⟨c49,h⟩ | ⟨c49,h⟩
  ·refine .kn 23 c49<| .gq 4<| .at (show RL 65 f65 (Qa.R r w) [1,0,1,1,1,1,0,0,0,1,0,0] [(0,.pt gp0),(1,.slice A1_2 x1_2.length c1_2),(8,.i (I64 ((a0.2.length:Int)-1))),(9,.i x9_2)] _ from .dr [] M fun W50 M=> ?_)
   refine .pz tr [0,1,2]<| .y tr 3 (yl_ldp (g:=gp0) (off:=0) 4 (co1_0) (hqo1_0.1.trans hlo1_0)) (fun _ hs=>(fun i_ u_ hu_=>by rw [Nat.zero_add];exact hco1 _ (hZp0 _ (M.ks hs)) i_ u_ (by first | exact hu_ | (rw [List.getElem?_append_left (List.getElem?_eq_some_iff.1 hu_).1];exact hu_)))) ?_
   refine .pz tr [4,5,6,7,8,9,10]<| .lz tr 11 (fun _ hs=>hco1 _ (hZp0 _ (M.ks hs)) 4 (.slice Ao1_1 a0.2.length co1_1) (by simp [hqo1_0.1.trans hlo1_0]))<| .pz tr [12] ?_
   obtain ⟨c52,h⟩:=ifd h
   obtain ⟨c53,h⟩:=ifd h
   obtain ⟨uq51,huq51,hvq51⟩:=Each2.at hqo1_1 ([]:Li) (i:=x9_2) c52 c53
   obtain ⟨Aq51,cq51,rfl,hq51⟩:=hvq51
   obtain ⟨pq51,Cq51⟩:=(hro1_1 _ (hZp0 _ M.kept)).cel c52 c53 huq51
   refine .ix tr 13 Cq51<| .lu tr 14 Cq51 huq51 (fun _ hs=>hro1_1 _ (hZp0 _ (M.ks hs))) ?_
   obtain ⟨t55,ht55,h⟩:=bs h
   refine .a1 tr 15<| .ca (Qf.calls (hrx1_2.mono M.below) (hq51 _ (hZp0 _ M.kept)) ⟨_,rfl,hlo1_0,hqo1_0⟩ (zp M hZp0) ht55) ?_
   rintro _ W54 ⟨A56,c57,rfl,M_⟩
   refine .ca M_ [] ?_
   replace M:=M.cg M_
   refine .pz tr [16]<| .dn tr<| .gq 7 ?_
   have l3: ∀k_≤k,∀(A1_3:Option Addr) (c1_3:Nat) (x1_3:Li) (x9_3:Int) {W:World} (M:Mem w W (Gs [⟨.slice A1_3 x1_3.length c1_3,5,1,nums .u8 x1_3⟩] [])) (h:Qa.l3 k_ a0 x1_3 x9_3=some r),RL 65 f65 (Qa.R r w) [1,0,1,1,1,1,0,0,0] [(0,.pt gp0),(1,.slice A1_3 x1_3.length c1_3),(8,.i (I64 ((a0.2.length:Int)-1))),(9,.i x9_3)] W:=by
    refine loopI (by intros;rename_i h;simp [Qa.l3] at h) fun k hk ih3 A1_3 c1_3 x1_3 x9_3 W M h=> ?_
    simp only [Qa.l3] at h
    refine .gq 8 ?_
    let y60:Bool:=decide (x9_3<(I64 ((I64 ((a0.2.length:Int)-1))-1)))
    replace h:=bz (y:=y60) h rfl
    rcases ift h with ⟨c61,h⟩ | ⟨c61,h⟩
    ·refine .kn 23 c61<| .gq 4<| .at (show RL 65 f65 (Qa.R r w) [1,0,1,1,1,1,0,0,0,1,0,0] [(0,.pt gp0),(1,.slice A1_3 x1_3.length c1_3),(8,.i (I64 ((a0.2.length:Int)-1))),(9,.i x9_3)] _ from .dr [] M fun W62 M=> ?_)
     refine .pz tr [0,1,2]<| .y tr 3 (yl_ldp (g:=gp0) (off:=0) 4 (co1_0) (hqo1_0.1.trans hlo1_0)) (fun _ hs=>(fun i_ u_ hu_=>by rw [Nat.zero_add];exact hco1 _ (hZp0 _ (M.ks hs)) i_ u_ (by first | exact hu_ | (rw [List.getElem?_append_left (List.getElem?_eq_some_iff.1 hu_).1];exact hu_)))) ?_
     refine .pz tr [4,5,6,7,8,9,10]<| .lz tr 11 (fun _ hs=>hco1 _ (hZp0 _ (M.ks hs)) 4 (.slice Ao1_1 a0.2.length co1_1) (by simp [hqo1_0.1.trans hlo1_0]))<| .pz tr [12] ?_
     obtain ⟨c64,h⟩:=ifd h
     obtain ⟨c65,h⟩:=ifd h
     obtain ⟨uq63,huq63,hvq63⟩:=Each2.at hqo1_1 ([]:Li) (i:=x9_3) c64 c65
     obtain ⟨Aq63,cq63,rfl,hq63⟩:=hvq63
     obtain ⟨pq63,Cq63⟩:=(hro1_1 _ (hZp0 _ M.kept)).cel c64 c65 huq63
     refine .ix tr 13 Cq63<| .lu tr 14 Cq63 huq63 (fun _ hs=>hro1_1 _ (hZp0 _ (M.ks hs))) ?_
     obtain ⟨t67,ht67,h⟩:=bs h
     refine .a1 tr 15<| .ca (Qf.calls (M.or 0) (hq63 _ (hZp0 _ M.kept)) ⟨_,rfl,hlo1_0,hqo1_0⟩ (zp M hZp0) ht67) ?_
     rintro _ W66 ⟨A68,c69,rfl,M_⟩
     refine .ca M_ [] ?_
     replace M:=M.cg M_
     exact .pz tr [16]<| .dn tr<| .gq 7<| .at (ih3 k (by omega) A68 c69 t67 (I64 (x9_3+1)) (M.pm [0] []) h)
    refine .kn 23 c61<| .gq 8<| .ld (hco1 _ (hZp0 _ M.kept) 4 (.slice Ao1_1 a0.2.length co1_1) (by simp [hqo1_0.1.trans hlo1_0]))<| .gq 1 ?_
    obtain ⟨c72,h⟩:=ifd h
    obtain ⟨c73,h⟩:=ifd h
    obtain ⟨uq71,huq71,hvq71⟩:=Each2.at hqo1_1 ([]:Li) (i:=x9_3) c72 c73
    obtain ⟨Aq71,cq71,rfl,hq71⟩:=hvq71
    obtain ⟨pq71,Cq71⟩:=(hro1_1 _ (hZp0 _ M.kept)).cel c72 c73 huq71
    refine .ix Cq71<| .lc Cq71 ?_
    obtain ⟨t75,ht75,h⟩:=bs h
    refine .ca (Jd.calls (M.or 0) (hq71 _ (hZp0 _ M.kept)) ht75) ?_
    rintro _ W74 ⟨A76,c77,rfl,M_⟩
    replace M:=M.cg M_
    refine .gq 6<| .at (show RL 65 f65 (Qa.R r w) [1,0,1,1,1,1,1,1,0] [(0,.pt gp0),(1,.slice A76 t75.1.length c77),(8,.i (I64 ((a0.2.length:Int)-1)))] _ from .dr [] M fun W79 M=> ?_)
    refine .pz tr [0,1,2]<| .y tr 3 (yl_ldp (g:=gp0) (off:=0) 4 (co1_0) (hqo1_0.1.trans hlo1_0)) (fun _ hs=>(fun i_ u_ hu_=>by rw [Nat.zero_add];exact hco1 _ (hZp0 _ (M.ks hs)) i_ u_ (by first | exact hu_ | (rw [List.getElem?_append_left (List.getElem?_eq_some_iff.1 hu_).1];exact hu_)))) ?_
    refine .pz tr [4,6,7,8]<| .lz tr 9 (fun _ hs=>hco1 _ (hZp0 _ (M.ks hs)) 4 (.slice Ao1_1 a0.2.length co1_1) (by simp [hqo1_0.1.trans hlo1_0]))<| .pz tr [10] ?_
    obtain ⟨c81,h⟩:=ifd h
    obtain ⟨c82,h⟩:=ifd h
    obtain ⟨uq80,huq80,hvq80⟩:=Each2.at hqo1_1 ([]:Li) (i:=I64 ((a0.2.length:Int)-1)) c81 c82
    obtain ⟨Aq80,cq80,rfl,hq80⟩:=hvq80
    obtain ⟨pq80,Cq80⟩:=(hro1_1 _ (hZp0 _ M.kept)).cel c81 c82 huq80
    refine .ix tr 11 Cq80<| .lu tr 12 Cq80 huq80 (fun _ hs=>hro1_1 _ (hZp0 _ (M.ks hs))) ?_
    obtain ⟨t84,ht84,h⟩:=bs h
    refine .a1 tr 5<| .ca (Qe.calls (M.or 0) ⟨_,rfl,hlo1_0,hqo1_0⟩ (zp M hZp0) ht84) ?_
    rintro _ W83 ⟨A85,c86,rfl,M_⟩
    refine .ca M_ [] ?_
    replace M:=M.cg M_
    obtain ⟨t89,ht89,h⟩:=bs h
    refine .a1 tr 13<| .ca (Jd.calls (M.or 0) (hq80 _ (hZp0 _ M.kept)) ht89) ?_
    rintro _ W88 ⟨A90,c91,rfl,M_⟩
    refine .ca M_ [] ?_
    replace M:=M.cg M_
    refine .pz tr [14,15,16,17]<| .dn tr<| .gq 7 ?_
    obtain rfl:=sj h
    exact .ret func65 ⟨A90,c91,rfl,(M.pm [0] [])⟩
   exact .at (l3 k k.le_refl A56 c57 t55 (I64 (x9_2+1)) (M.pm [0] []) h)
  refine .kn 23 c49<| .gq 8<| .ld (hco1 _ (hZp0 _ M.kept) 4 (.slice Ao1_1 a0.2.length co1_1) (by simp [hqo1_0.1.trans hlo1_0]))<| .gq 1 ?_
  obtain ⟨c94,h⟩:=ifd h
  obtain ⟨c95,h⟩:=ifd h
  obtain ⟨uq93,huq93,hvq93⟩:=Each2.at hqo1_1 ([]:Li) (i:=x9_2) c94 c95
  obtain ⟨Aq93,cq93,rfl,hq93⟩:=hvq93
  obtain ⟨pq93,Cq93⟩:=(hro1_1 _ (hZp0 _ M.kept)).cel c94 c95 huq93
  refine .ix Cq93<| .lc Cq93 ?_
  obtain ⟨t97,ht97,h⟩:=bs h
  refine .ca (Jd.calls (hrx1_2.mono M.below) (hq93 _ (hZp0 _ M.kept)) ht97) ?_
  rintro _ W96 ⟨A98,c99,rfl,M_⟩
  replace M:=M.cg M_
  refine .gq 6<| .at (show RL 65 f65 (Qa.R r w) [1,0,1,1,1,1,1,1,0] [(0,.pt gp0),(1,.slice A98 t97.1.length c99),(8,.i (I64 ((a0.2.length:Int)-1)))] _ from .dr [] M fun W101 M=> ?_)
  refine .pz tr [0,1,2]<| .y tr 3 (yl_ldp (g:=gp0) (off:=0) 4 (co1_0) (hqo1_0.1.trans hlo1_0)) (fun _ hs=>(fun i_ u_ hu_=>by rw [Nat.zero_add];exact hco1 _ (hZp0 _ (M.ks hs)) i_ u_ (by first | exact hu_ | (rw [List.getElem?_append_left (List.getElem?_eq_some_iff.1 hu_).1];exact hu_)))) ?_
  refine .pz tr [4,6,7,8]<| .lz tr 9 (fun _ hs=>hco1 _ (hZp0 _ (M.ks hs)) 4 (.slice Ao1_1 a0.2.length co1_1) (by simp [hqo1_0.1.trans hlo1_0]))<| .pz tr [10] ?_
  obtain ⟨c103,h⟩:=ifd h
  obtain ⟨c104,h⟩:=ifd h
  obtain ⟨uq102,huq102,hvq102⟩:=Each2.at hqo1_1 ([]:Li) (i:=I64 ((a0.2.length:Int)-1)) c103 c104
  obtain ⟨Aq102,cq102,rfl,hq102⟩:=hvq102
  obtain ⟨pq102,Cq102⟩:=(hro1_1 _ (hZp0 _ M.kept)).cel c103 c104 huq102
  refine .ix tr 11 Cq102<| .lu tr 12 Cq102 huq102 (fun _ hs=>hro1_1 _ (hZp0 _ (M.ks hs))) ?_
  obtain ⟨t106,ht106,h⟩:=bs h
  refine .a1 tr 5<| .ca (Qe.calls (M.or 0) ⟨_,rfl,hlo1_0,hqo1_0⟩ (zp M hZp0) ht106) ?_
  rintro _ W105 ⟨A107,c108,rfl,M_⟩
  refine .ca M_ [] ?_
  replace M:=M.cg M_
  obtain ⟨t111,ht111,h⟩:=bs h
  refine .a1 tr 13<| .ca (Jd.calls (M.or 0) (hq102 _ (hZp0 _ M.kept)) ht111) ?_
  rintro _ W110 ⟨A112,c113,rfl,M_⟩
  refine .ca M_ [] ?_
  replace M:=M.cg M_
  refine .pz tr [14,15,16,17]<| .dn tr<| .gq 7 ?_
  obtain rfl:=sj h
  exact .ret func65 ⟨A112,c113,rfl,(M.pm [0] [])⟩
 exact .at (l2 k k.le_refl Ap1 cp1 a1 0 (M.pm [] []) hr1 h)
def Km.f (k:Nat) (a0:Int) (a1:Int):Option (Int):=some (bxor .u32 (U32 ((bxor .u32 (shl .u32 a0 4) (shr a0 5))+a0)) a1)
theorem Km.calls {a0:Int} {a1:Int} {r:Int} (h:Km.f k a0 a1=some r):Calls prog 158 #[.u a0,.u a1] w (Ret fun v w'=>v= .u r∧Mem w w' (Gs [] [])):=by
 unfold Km.f at h
 refine calls_S func158 ?_
 have M:=Mem.r0 w
 refine .gq 17 ?_
 obtain rfl:=sj h
 exact .ret func158 ⟨rfl,(M.pm [] [])⟩
def Kh.l0:Nat→(Li×Int)→Bool→Int→Int→Int→Int→Option (Int×Int)
 | 0,_,_,_,_,_,_=>none
 | k+1,a0,a3,x1_0,x2_0,x10_0,x11_0=>if (x11_0==32)=true then (some (x1_0,x2_0)) else (if a3=true then (gd (0≤(band .u32 (shr x10_0 11) 3)) (gd ((band .u32 (shr x10_0 11) 3)<(a0.1.length:Int)) ((some (U32 (x10_0+(rd a0.1 (band .u32 (shr x10_0 11) 3))):Int)).bind fun y8=>((Km.f k x1_0 y8).bind fun t10=>(gd (0≤(band .u32 (U32 (x10_0-2654435769)) 3)) (gd ((band .u32 (U32 (x10_0-2654435769)) 3)<(a0.1.length:Int)) ((some (U32 ((U32 (x10_0-2654435769))+(rd a0.1 (band .u32 (U32 (x10_0-2654435769)) 3))):Int)).bind fun y14=>((Km.f k (U32 (x2_0-t10)) y14).bind fun t16=>(Kh.l0 k a0 a3 (U32 (x1_0-t16)) (U32 (x2_0-t10)) (U32 (x10_0-2654435769)) (I64 (x11_0+1))))))))))) else (gd (0≤(band .u32 x10_0 3)) (gd ((band .u32 x10_0 3)<(a0.1.length:Int)) ((Km.f k x2_0 (U32 (x10_0+(rd a0.1 (band .u32 x10_0 3))))).bind fun t21=>((some (band .u32 (shr (U32 (x10_0+2654435769)) 11) 3:Int)).bind fun y22=>(gd (0≤y22) (gd (y22<(a0.1.length:Int)) ((some (U32 ((U32 (x10_0+2654435769))+(rd a0.1 y22)):Int)).bind fun y26=>((Km.f k (U32 (x1_0+t21)) y26).bind fun t28=>(Kh.l0 k a0 a3 (U32 (x1_0+t21)) (U32 (x2_0+t28)) (U32 (x10_0+2654435769)) (I64 (x11_0+1))))))))))))
def Kh.f (k:Nat) (a0:(Li×Int)) (a1:Int) (a2:Int) (a3:Bool):Option (Int×Int):=if a3=true then (Kh.l0 k a0 a3 a1 a2 3337565984 0) else (Kh.l0 k a0 a3 a1 a2 0 0)
abbrev Kh.R (r:Int×Int) (w:World):Value→World→Prop:=fun v w'=>v= .tuple #[.u r.1,.u r.2]∧Mem w w' (Gs [] [])
theorem Kh.calls {vp0:Value} {a0:(Li×Int)} {a1:Int} {a2:Int} {a3:Bool} {r:Int×Int} (hp0:(rPtr Rs_small_Small) Zp0 vp0 a0) (hZp0: ∀W,Kept w W→Zp0 W) (h:Kh.f k a0 a1 a2 a3=some r):Calls prog 113 #[vp0,.u a1,.u a2,.bool a3] w (Ret (Kh.R r w)):=by
 obtain ⟨gp0,_,rfl,hco1,_,_,rfl,⟨Ao1_0,co1_0,rfl,ho1_0⟩,rfl⟩:=id hp0
 unfold Kh.f at h
 refine calls_S func113 ?_
 have M:=Mem.r0 w
 refine .gq 16 ?_
 have l0: ∀k_≤k,∀(x1_0:Int) (x2_0:Int) (x10_0:Int) (x11_0:Int) {W:World} (M:Mem w W (Gs [] [])) (h:Kh.l0 k_ a0 a3 x1_0 x2_0 x10_0 x11_0=some r),RL 113 f113 (Kh.R r w) [1,0,1,1,1] [(0,.pt gp0),(1,.u x1_0),(2,.u x2_0),(3,.bool a3),(10,.u x10_0),(11,.i x11_0)] W:=by
  refine loopI (by intros;rename_i h;simp [Kh.l0] at h) fun k hk ih0 x1_0 x2_0 x10_0 x11_0 W M h=> ?_
  simp only [Kh.l0] at h
  refine .gq 6 ?_
  rcases ift h with ⟨c3,h⟩ | ⟨c3,h⟩
  ·refine .kn 14 c3<| .gq 8 ?_
   obtain rfl:=sj h
   exact .ret func113 ⟨rfl,(M.pm [] [])⟩
  refine .kn 14 c3<| .gq 13 ?_
  rcases ift h with ⟨c4,h⟩ | ⟨c4,h⟩
  ·refine .kn 19 c4<| .gq 9<| .ld (hco1 _ (hZp0 _ M.kept) 0 _ rfl)<| .gq 3 ?_
   obtain ⟨c6,h⟩:=ifd h
   obtain ⟨c7,h⟩:=ifd h
   obtain ⟨pq5,Cq5⟩:=(ho1_0 _ (hZp0 _ M.kept)).na c6 c7
   refine .ix Cq5<| .lc Cq5<| .gq 1 ?_
   let y8:Int:=U32 (x10_0+(rd a0.1 (band .u32 (shr x10_0 11) 3)))
   replace h:=bz (y:=y8) h rfl
   obtain ⟨t10,ht10,h⟩:=bs h
   refine .ca (Km.calls ht10) ?_
   rintro _ W9 ⟨rfl,M_⟩
   replace M:=M.cg M_
   refine .gq 16<| .ld (hco1 _ (hZp0 _ M.kept) 0 _ rfl)<| .gq 2 ?_
   obtain ⟨c12,h⟩:=ifd h
   obtain ⟨c13,h⟩:=ifd h
   obtain ⟨pq11,Cq11⟩:=(ho1_0 _ (hZp0 _ M.kept)).na c12 c13
   refine .ix Cq11<| .lc Cq11<| .gq 1 ?_
   let y14:Int:=U32 ((U32 (x10_0-2654435769))+(rd a0.1 (band .u32 (U32 (x10_0-2654435769)) 3)))
   replace h:=bz (y:=y14) h rfl
   obtain ⟨t16,ht16,h⟩:=bs h
   refine .ca (Km.calls ht16) ?_
   rintro _ W15 ⟨rfl,M_⟩
   replace M:=M.cg M_
   exact .gq 6<| .at (ih0 k (by omega) (U32 (x1_0-t16)) (U32 (x2_0-t10)) (U32 (x10_0-2654435769)) (I64 (x11_0+1)) (M.pm [] []) h)
  refine .kn 19 c4<| .gq 9<| .ld (hco1 _ (hZp0 _ M.kept) 0 _ rfl)<| .gq 2 ?_
  obtain ⟨c18,h⟩:=ifd h
  obtain ⟨c19,h⟩:=ifd h
  obtain ⟨pq17,Cq17⟩:=(ho1_0 _ (hZp0 _ M.kept)).na c18 c19
  refine .ix Cq17<| .lc Cq17<| .gq 1 ?_
  obtain ⟨t21,ht21,h⟩:=bs h
  refine .ca (Km.calls ht21) ?_
  rintro _ W20 ⟨rfl,M_⟩
  replace M:=M.cg M_
  refine .gq 16<| .ld (hco1 _ (hZp0 _ M.kept) 0 _ rfl)<| .gq 3 ?_
  let y22:Int:=band .u32 (shr (U32 (x10_0+2654435769)) 11) 3
  replace h:=bz (y:=y22) h rfl
  obtain ⟨c24,h⟩:=ifd h
  obtain ⟨c25,h⟩:=ifd h
  obtain ⟨pq23,Cq23⟩:=(ho1_0 _ (hZp0 _ M.kept)).na c24 c25
  refine .ix Cq23<| .lc Cq23<| .gq 1 ?_
  let y26:Int:=U32 ((U32 (x10_0+2654435769))+(rd a0.1 y22))
  replace h:=bz (y:=y26) h rfl
  obtain ⟨t28,ht28,h⟩:=bs h
  refine .ca (Km.calls ht28) ?_
  rintro _ W27 ⟨rfl,M_⟩
  replace M:=M.cg M_
  exact .gq 6<| .at (ih0 k (by omega) (U32 (x1_0+t21)) (U32 (x2_0+t28)) (U32 (x10_0+2654435769)) (I64 (x11_0+1)) (M.pm [] []) h)
 rcases ift h with ⟨c2,h⟩ | ⟨c2,h⟩
 ·exact .kn 12 c2<| .gq 6<| .at (l0 k k.le_refl a1 a2 3337565984 0 (M.pm [] []) h)
 exact .kn 12 c2<| .gq 4<| .at (l0 k k.le_refl a1 a2 0 0 (M.pm [] []) h)
def Y7.f (k:Nat) (a1:Int):Option Li:=if (decide (a1<0))=true then (none) else (if (decide ((I64 (a1-(I64 (0-0))))>0))=true then (gd (0<(I64 (a1-(I64 (0-0))))) (gd ((I64 (a1-(I64 (0-0))))≤1000000000) (some ((List.replicate (I64 (a1-(I64 (0-0))):Int).toNat (0:Int)).take (0))))) else (some ([]:Li)))
theorem Y7.calls {a1:Int} {r:Li} (h:Y7.f k a1=some r):Calls prog 195 #[.slice none 0 0,.i a1] w (Ret fun v w'=> ∃A0' c0',v= .slice A0' r.length c0'∧Mem w w' (Gs [⟨.slice A0' r.length c0',150,1,nums .u32 r⟩] [])):=by
 unfold Y7.f at h
 refine calls_S func195 ?_
 have M:=Mem.r0 w
 refine .gq 10 ?_
 obtain ⟨c1,h⟩:=ifz h
 refine .kn 6 c1<| .gq 19 ?_
 rcases ift h with ⟨c2,h⟩ | ⟨c2,h⟩
 ·refine .kn 16 c2<| .gq 5<| .yt (yl_res (A:=none) (m:=0) (c:=0) 0 (by decide) (by decide) (by decide))<| .gq 1 ?_
  obtain ⟨c6,h⟩:=ifd h
  obtain ⟨c7,h⟩:=ifd h
  refine .az 150 .u32 c6 c7 M fun g3 c4 W5 M=> .gq 2<| .rsn 0 M 0 rfl fun M=> .gq 7 ?_
  obtain rfl:=sj h
  exact .ret func195 ⟨(pa g3),c4,rfl,(M.pm [0] [])⟩
 refine .kn 16 c2<| .gq 7 ?_
 replace M:=M.n1 150
 obtain rfl:=sj h
 exact .ret func195 ⟨none,0,rfl,(M.pm [0] [])⟩
mutual
def Y4.l0:Nat→Lj→Int→Int→Option Li
 | 0,_,_,_=>none
 | k+1,a0,x3_0,x11_0=>if (decide (x11_0<(a0.length:Int)))=true then (gd (0≤x11_0) (gd (x11_0<(a0.length:Int)) ((some (I64 (x3_0+((rdr ([]:Li) a0 x11_0).length:Int)):Int)).bind fun y5=>(if (decide (y5<0))=true then (none) else (Y4.l0 k a0 y5 (I64 (x11_0+1))))))) else ((Y7.f k x3_0).bind fun t8=>(Y4.l1 k a0 t8 0))
def Y4.l1:Nat→Lj→Li→Int→Option Li
 | 0,_,_,_=>none
 | k+1,a0,x6_1,x27_1=>if (decide (x27_1<(a0.length:Int)))=true then (gd (0≤x27_1) (gd (x27_1<(a0.length:Int)) (gd (x6_1.length+(rdr ([]:Li) a0 x27_1).length≤1000000000) (Y4.l1 k a0 (x6_1++(rdr ([]:Li) a0 x27_1)) (I64 (x27_1+1)))))) else (some x6_1)
end
def Y4.f (k:Nat) (a0:Lj):Option Li:=Y4.l0 k a0 0 0
abbrev Y4.R (r:Li) (w:World):Value→World→Prop:=fun v w'=> ∃A0' c0',v= .slice A0' r.length c0'∧Mem w w' (Gs [⟨.slice A0' r.length c0',150,1,nums .u32 r⟩] [])
theorem Y4.calls {vp0:Value} {a0:Lj} {r:Li} (hp0:(rRows (rNums .u32)) Zp0 vp0 a0) (hZp0: ∀W,Kept w W→Zp0 W) (h:Y4.f k a0=some r):Calls prog 159 #[vp0] w (Ret (Y4.R r w)):=by
 obtain ⟨Ap0,cp0,cs0,rfl,hr0,hq0⟩:=hp0
 unfold Y4.f at h
 refine calls_S func159 ?_
 have M:=Mem.r0 w
 refine .gq 17 ?_
 have l0: ∀k_≤k,∀(x3_0:Int) (x11_0:Int) {W:World} (M:Mem w W (Gs [] [])) (h:Y4.l0 k_ a0 x3_0 x11_0=some r),RL 159 f159 (Y4.R r w) [1,1,0,1,0,0] [(0,.slice Ap0 a0.length cp0),(3,.i x3_0),(9,.slice Ap0 a0.length cp0),(10,.i (a0.length:Int)),(11,.i x11_0)] W:=by
  refine loopI (by intros;rename_i h;simp [Y4.l0] at h) fun k hk ih0 x3_0 x11_0 W M h=> ?_
  simp only [Y4.l0] at h
  refine .gq 5 ?_
  rcases ift h with ⟨c1,h⟩ | ⟨c1,h⟩
  ·refine .kn 12 c1<| .gq 6 ?_
   obtain ⟨c3,h⟩:=ifd h
   obtain ⟨c4,h⟩:=ifd h
   obtain ⟨uq2,huq2,hvq2⟩:=Each2.at hq0 ([]:Li) (i:=x11_0) c3 c4
   obtain ⟨Aq2,cq2,rfl,hq2⟩:=hvq2
   obtain ⟨pq2,Cq2⟩:=(hr0 _ (hZp0 _ M.kept)).cel c3 c4 huq2
   refine .ix Cq2<| .lc Cq2<| .gq 15 ?_
   let y5:Int:=I64 (x3_0+((rdr ([]:Li) a0 x11_0).length:Int))
   replace h:=bz (y:=y5) h rfl
   obtain ⟨c6,h⟩:=ifz h
   exact .kn 20 c6<| .gq 8<| .at (ih0 k (by omega) y5 (I64 (x11_0+1)) (M.pm [] []) h)
  refine .kn 12 c1<| .gq 5 ?_
  obtain ⟨t8,ht8,h⟩:=bs h
  refine .ca (Y7.calls ht8) ?_
  rintro _ W7 ⟨A9,c10,rfl,M_⟩
  replace M:=M.cg M_
  refine .gq 11 ?_
  have l1: ∀k_≤k,∀(A6_1:Option Addr) (c6_1:Nat) (x6_1:Li) (x27_1:Int) {W:World} (M:Mem w W (Gs [⟨.slice A6_1 x6_1.length c6_1,150,1,nums .u32 x6_1⟩] [])) (h:Y4.l1 k_ a0 x6_1 x27_1=some r),RL 159 f159 (Y4.R r w) [1,1,1,1,0,1,0,0] [(6,.slice A6_1 x6_1.length c6_1),(25,.slice Ap0 a0.length cp0),(26,.i (a0.length:Int)),(27,.i x27_1)] W:=by
   refine loopI (by intros;rename_i h;simp [Y4.l1] at h) fun k hk ih1 A6_1 c6_1 x6_1 x27_1 W M h=> ?_
   simp only [Y4.l1] at h
   refine .gq 5 ?_
   rcases ift h with ⟨c13,h⟩ | ⟨c13,h⟩
   ·refine .kn 28 c13<| .gq 6 ?_
    obtain ⟨c15,h⟩:=ifd h
    obtain ⟨c16,h⟩:=ifd h
    obtain ⟨uq14,huq14,hvq14⟩:=Each2.at hq0 ([]:Li) (i:=x27_1) c15 c16
    obtain ⟨Aq14,cq14,rfl,hq14⟩:=hvq14
    obtain ⟨pq14,Cq14⟩:=(hr0 _ (hZp0 _ M.kept)).cel c15 c16 huq14
    refine .ix Cq14<| .lc Cq14<| .gq 5 ?_
    obtain ⟨c20,h⟩:=ifd h
    exact .an M 0 rfl (hq14 _ (hZp0 _ M.kept)) c20 fun A17 c18 W19 M=> .gq 8<| .at (ih1 k (by omega) A17 c18 (x6_1++(rdr ([]:Li) a0 x27_1)) (I64 (x27_1+1)) (M.pm [0] []) h)
   refine .kn 28 c13<| .gq 7 ?_
   obtain rfl:=sj h
   exact .ret func159 ⟨A6_1,c6_1,rfl,(M.pm [0] [])⟩
  exact .at (l1 k k.le_refl A9 c10 t8 0 (M.pm [0] []) h)
 exact .at (l0 k k.le_refl 0 0 (M.pm [] []) h)
def Kk.f (k:Nat):Option (List ByteArray):=some ([(⟨#[67,52,54,50,65,53,66,57,69,56,68,55,48,51,70,49]⟩:ByteArray),(⟨#[54,56,50,51,57,65,53,67,49,69,52,55,66,68,48,70]⟩:ByteArray),(⟨#[66,51,53,56,50,70,65,68,69,49,55,52,67,57,54,48]⟩:ByteArray),(⟨#[67,56,50,49,68,52,70,54,55,48,65,53,51,69,57,66]⟩:ByteArray),(⟨#[55,70,53,65,56,49,54,68,48,57,51,69,66,52,50,67]⟩:ByteArray),(⟨#[53,68,70,54,57,50,67,65,66,55,56,49,52,51,69,48]⟩:ByteArray),(⟨#[56,69,50,53,54,57,49,67,70,52,66,48,68,65,51,55]⟩:ByteArray),(⟨#[49,55,69,68,48,53,56,51,52,70,65,54,57,67,66,50]⟩:ByteArray)]:List ByteArray)
theorem Kk.calls {r:List ByteArray} (h:Kk.f k=some r):Calls prog 196 #[] w (Ret fun v w'=>v= .agg (strs r).toArray∧r.length=8∧Mem w w' (Gs [] [])):=by
 unfold Kk.f at h
 refine calls_S func196 ?_
 have M:=Mem.r0 w
 refine .gq 2<| .nw 246 (strs (List.replicate 8 ByteArray.empty)) M fun g1 W2 M=> .gq 4<| .sw (new:=strs ([(⟨#[67,52,54,50,65,53,66,57,69,56,68,55,48,51,70,49]⟩:ByteArray),(⟨#[54,56,50,51,57,65,53,67,49,69,52,55,66,68,48,70]⟩:ByteArray),(⟨#[66,51,53,56,50,70,65,68,69,49,55,52,67,57,54,48]⟩:ByteArray),(⟨#[67,56,50,49,68,52,70,54,55,48,65,53,51,69,57,66]⟩:ByteArray),(⟨#[55,70,53,65,56,49,54,68,48,57,51,69,66,52,50,67]⟩:ByteArray),(⟨#[53,68,70,54,57,50,67,65,66,55,56,49,52,51,69,48]⟩:ByteArray),(⟨#[56,69,50,53,54,57,49,67,70,52,66,48,68,65,51,55]⟩:ByteArray),(⟨#[49,55,69,68,48,53,56,51,52,70,65,54,57,67,66,50]⟩:ByteArray)]:List ByteArray)) M 0 rfl (all_strs' List.length_replicate) (all_strs' rfl) (all_strs _) fun W4 M=> .gq 1 ?_
 obtain rfl:=sj h
 exact .rc 0 246 8 func196 M 0 rfl (all_strs' rfl) ⟨rfl,rfl,(M.pm [] [])⟩
def Kl.f (k:Nat) (a0:Int):Option (Int):=if (decide (a0≥65))=true then (some (U32 ((U32 (U8 (a0-65)))+10))) else (some (U32 (U8 (a0-48))))
theorem Kl.calls {a0:Int} {r:Int} (h:Kl.f k a0=some r):Calls prog 197 #[.y a0] w (Ret fun v w'=>v= .u r∧Mem w w' (Gs [] [])):=by
 unfold Kl.f at h
 refine calls_S func197 ?_
 have M:=Mem.r0 w
 refine .gq 10 ?_
 rcases ift h with ⟨c1,h⟩ | ⟨c1,h⟩
 ·refine .kn 4 c1<| .gq 9 ?_
  obtain rfl:=sj h
  exact .ret func197 ⟨rfl,(M.pm [] [])⟩
 refine .kn 4 c1<| .gq 9 ?_
 obtain rfl:=sj h
 exact .ret func197 ⟨rfl,(M.pm [] [])⟩
def Kb.l0:Nat→Int→Int→(List ByteArray)→Int→Int→Option (Int)
 | 0,_,_,_,_,_=>none
 | k+1,a0,a1,t2,x5_0,x12_0=>if (decide (x12_0<8))=true then (gd (0≤x12_0) (gd (x12_0<(8:Int)) (gd (0≤(I64 (4*x12_0))) ((some (band .u32 (shrv .u32 (U32 (a0+a1)) (I64 (4*x12_0))) 15:Int)).bind fun y7=>(gd (0≤y7) (gd (y7<((rds t2 x12_0).size:Int)) ((Kl.f k (sb (rds t2 x12_0) y7)).bind fun t11=>(gd (0≤(I64 (4*x12_0))) ((some (bor .u32 x5_0 (shlv .u32 t11 (I64 (4*x12_0))):Int)).bind fun y13=>(Kb.l0 k a0 a1 t2 y13 (I64 (x12_0+1)))))))))))) else ((Jb.f k x5_0 11).bind fun t15=>(some t15))
def Kb.f (k:Nat) (a0:Int) (a1:Int):Option (Int):=(Kk.f k).bind fun t2=>(Kb.l0 k a0 a1 t2 0 0)
abbrev Kb.R (r:Int) (w:World):Value→World→Prop:=fun v w'=>v= .u r∧Mem w w' (Gs [] [])
theorem Kb.calls {a0:Int} {a1:Int} {r:Int} (h:Kb.f k a0 a1=some r):Calls prog 160 #[.u a0,.u a1] w (Ret (Kb.R r w)):=by
 unfold Kb.f at h
 refine calls_S func160 ?_
 have M:=Mem.r0 w
 refine .gq 18 ?_
 obtain ⟨t2,ht2,h⟩:=bs h
 refine .ca (Kk.calls ht2) ?_
 rintro _ W1 ⟨rfl,hNt2_0,M_⟩
 replace M:=M.cg M_
 refine .gq 4 ?_
 have l0: ∀k_≤k,∀(x5_0:Int) (x12_0:Int) {W:World} (M:Mem w W (Gs [] [])) (h:Kb.l0 k_ a0 a1 t2 x5_0 x12_0=some r),RL 160 f160 (Kb.R r w) [1,1,1,0,1,0,0] [(0,.u (U32 (a0+a1))),(5,.u x5_0),(11,.agg (strs t2).toArray),(12,.i x12_0)] W:=by
  refine loopI (by intros;rename_i h;simp [Kb.l0] at h) fun k hk ih0 x5_0 x12_0 W M h=> ?_
  simp only [Kb.l0] at h
  refine .gq 5 ?_
  rcases ift h with ⟨c3,h⟩ | ⟨c3,h⟩
  ·refine .kn 13 c3<| .gq 7 ?_
   obtain ⟨c4,h⟩:=ifd h
   obtain ⟨c5,h⟩:=ifd h
   refine .yt (yl_ixt (N:=8) hNt2_0 c4 c5)<| .gq 9 ?_
   obtain ⟨c6,h⟩:=ifd h
   refine .yt (yl_shr (kd:= .u32) (U32 (a0+a1)) c6)<| .gq 1 ?_
   let y7:Int:=band .u32 (shrv .u32 (U32 (a0+a1)) (I64 (4*x12_0))) 15
   replace h:=bz (y:=y7) h rfl
   obtain ⟨c8,h⟩:=ifd h
   obtain ⟨c9,h⟩:=ifd h
   refine .yt (yl_ixs (rds t2 x12_0) c8 c9) ?_
   obtain ⟨t11,ht11,h⟩:=bs h
   refine .ca (Kl.calls ht11) ?_
   rintro _ W10 ⟨rfl,M_⟩
   replace M:=M.cg M_
   refine .gq 2 ?_
   obtain ⟨c12,h⟩:=ifd h
   refine .yt (yl_shl (kd:= .u32) t11 c12)<| .gq 9 ?_
   let y13:Int:=bor .u32 x5_0 (shlv .u32 t11 (I64 (4*x12_0)))
   replace h:=bz (y:=y13) h rfl
   exact .at (ih0 k (by omega) y13 (I64 (x12_0+1)) (M.pm [] []) h)
  refine .kn 13 c3<| .gq 5 ?_
  obtain ⟨t15,ht15,h⟩:=bs h
  refine .ca (Jb.calls ht15) ?_
  rintro _ W14 ⟨rfl,M_⟩
  replace M:=M.cg M_
  refine .gq 2 ?_
  obtain rfl:=sj h
  exact .ret func160 ⟨rfl,(M.pm [] [])⟩
 exact .at (l0 k k.le_refl 0 0 (M.pm [] []) h)
mutual
def Kf.l0:Nat→Li→Int→Int→Int→Option (Int×Int)
 | 0,_,_,_,_=>none
 | k+1,t23,x1_0,x2_0,x41_0=>if (decide (x41_0<(t23.length:Int)))=true then (gd (0≤x41_0) (gd (x41_0<(t23.length:Int)) ((Kb.f k x2_0 (rd t23 x41_0)).bind fun t29=>(Kf.l0 k t23 x2_0 (bxor .u32 x1_0 t29) (I64 (x41_0+1)))))) else (some (x2_0,x1_0))
def Kf.l1:Nat→Li→Int→Int→Int→Option (Int×Int)
 | 0,_,_,_,_=>none
 | k+1,t17,x1_1,x2_1,x41_1=>if (decide (x41_1<(t17.length:Int)))=true then (gd (0≤x41_1) (gd (x41_1<(t17.length:Int)) ((Kb.f k x2_1 (rd t17 x41_1)).bind fun t35=>(Kf.l1 k t17 x2_1 (bxor .u32 x1_1 t35) (I64 (x41_1+1)))))) else (some (x2_1,x1_1))
end
def Kf.f (k:Nat) (a0:(Li×Int)) (a1:Int) (a2:Int) (a3:Bool):Option (Int×Int):=(Y2.f k a0.1).bind fun t3=>((Ka.f k t3).bind fun t8=>((Y4.f k ([a0.1,a0.1,a0.1,t8]:Lj)).bind fun t17=>(if a3=true then ((Ka.f k t17).bind fun t23=>(Kf.l0 k t23 a1 a2 0)) else (Kf.l1 k t17 a1 a2 0))))
abbrev Kf.R (r:Int×Int) (w:World):Value→World→Prop:=fun v w'=>v= .tuple #[.u r.1,.u r.2]∧Mem w w' (Gs [] [])
theorem Kf.calls {vp0:Value} {a0:(Li×Int)} {a1:Int} {a2:Int} {a3:Bool} {r:Int×Int} (hp0:(rPtr Rs_small_Small) Zp0 vp0 a0) (hZp0: ∀W,Kept w W→Zp0 W) (h:Kf.f k a0 a1 a2 a3=some r):Calls prog 114 #[vp0,.u a1,.u a2,.bool a3] w (Ret (Kf.R r w)):=by
 obtain ⟨gp0,_,rfl,hco1,_,_,rfl,⟨Ao1_0,co1_0,rfl,ho1_0⟩,rfl⟩:=id hp0
 unfold Kf.f at h
 refine calls_S func114 ?_
 have M:=Mem.r0 w
 refine .gq 10<| .ld (hco1 _ (hZp0 _ M.kept) 0 _ rfl) ?_
 obtain ⟨t3,ht3,h⟩:=bs h
 refine .ca (Y2.calls (ho1_0 _ (hZp0 _ M.kept)) ht3) ?_
 rintro _ W2 ⟨A4,c5,rfl,M_⟩
 replace M:=M.cg M_
 refine .gq 5 ?_
 obtain ⟨t8,ht8,h⟩:=bs h
 refine .ca (Ka.calls (M.fm [0] [] [] rfl rfl rfl) ht8) ?_
 rintro _ W7 ⟨rfl,M_⟩
 replace M:=M_.u1
 have hl_:=(M.or 0).ln
 simp only [←hl_] at M ⊢
 refine .gq 2<| .at (show RL 114 f114 (Kf.R r w) [1,1,1,0] [(0,.pt gp0),(1,.u a1),(2,.u a2),(3,.bool a3),(10,.slice A4 t8.length c5)] _ from .dr [] M fun W9 M=> ?_)
 refine .pz tr [0,1,2]<| .lz tr 3 (fun _ hs=>hco1 _ (hZp0 _ (M.ks hs)) 0 _ rfl)<| .pz tr [4,5,6]<| .lz tr 7 (fun _ hs=>hco1 _ (hZp0 _ (M.ks hs)) 0 _ rfl)<| .pz tr [8,9,10]<| .lz tr 11 (fun _ hs=>hco1 _ (hZp0 _ (M.ks hs)) 0 _ rfl)<| .pz tr [12] ?_
 obtain ⟨Fq10,hfq10,M⟩:=M.fs 0
 refine .er 0 [] ?_
 have hqq11:Each2 ((rNums .u32) (andZ Zp0 (Oks Fq10))) [.slice Ao1_0 a0.1.length co1_0,.slice Ao1_0 a0.1.length co1_0,.slice Ao1_0 a0.1.length co1_0,.slice A4 t8.length c5] ([a0.1,a0.1,a0.1,t8]:Lj):=(.cons (rno (RdF.up ho1_0 (fun _ z=>z.1)) (ai (hZp0 _ M.kept) (M.oks 0))) (.cons (rno (RdF.up ho1_0 (fun _ z=>z.1)) (ai (hZp0 _ M.kept) (M.oks 0))) (.cons (rno (RdF.up ho1_0 (fun _ z=>z.1)) (ai (hZp0 _ M.kept) (M.oks 0))) (.cons (rno (RdF.up hfq10 (fun _ z=>z.2)) (ai (hZp0 _ M.kept) (M.oks 0))) (Each2.nil _)))))
 refine .a1 tr 13<| .new 145 1 4 ([.slice Ao1_0 a0.1.length co1_0,.slice Ao1_0 a0.1.length co1_0,.slice Ao1_0 a0.1.length co1_0,.slice A4 t8.length c5]) M [] (fun g12 W13 M=> ?_) rfl
 obtain ⟨Fq15,hfq15,M⟩:=M.fs 0
 refine .er 0 [] ?_
 obtain ⟨t17,ht17,h⟩:=bs h
 refine .a1 tr 14<| .ca (Y4.calls ⟨_,_,_,rfl,(hfq15.up (fun _ z=>z.1)),(Each2.up (up_nums .u32) hqq11 (fun _ z=>(ai z.2.1 z.2.2)))⟩ (fun _ z=>(ai ((M.oks 0).kept z) (ai (hZp0 _ (M.kept.trans z)) ((M.oks 1).kept z)))) ht17) ?_
 rintro _ W16 ⟨A18,c19,rfl,M_⟩
 refine .ca M_ [] ?_
 replace M:=M.cg M_
 refine .pz tr [15]<| .dn tr<| .gq 5 ?_
 rcases ift h with ⟨c21,h⟩ | ⟨c21,h⟩
 ·refine .kn 36 c21<| .gq 3 ?_
  obtain ⟨t23,ht23,h⟩:=bs h
  refine .ca (Ka.calls (M.fm [0] [] [0,1] rfl rfl rfl) ht23) ?_
  rintro _ W22 ⟨rfl,M_⟩
  replace M:=M_.u1
  have hl_:=(M.or 0).ln
  simp only [←hl_] at M ⊢
  refine .gq 10 ?_
  have l0: ∀k_≤k,∀(x1_0:Int) (x2_0:Int) (x41_0:Int) {W:World} (M:Mem w W (Gs [⟨.slice A18 t23.length c19,150,1,nums .u32 t23⟩] [Fq15,Fq10])) (h:Kf.l0 k_ t23 x1_0 x2_0 x41_0=some r),RL 114 f114 (Kf.R r w) [1,1,1,1,1,0,1,0,0] [(1,.u x1_0),(2,.u x2_0),(39,.slice A18 t23.length c19),(40,.i (t23.length:Int)),(41,.i x41_0)] W:=by
   refine loopI (by intros;rename_i h;simp [Kf.l0] at h) fun k hk ih0 x1_0 x2_0 x41_0 W M h=> ?_
   simp only [Kf.l0] at h
   refine .gq 5 ?_
   rcases ift h with ⟨c24,h⟩ | ⟨c24,h⟩
   ·refine .kn 42 c24<| .gq 6 ?_
    obtain ⟨c26,h⟩:=ifd h
    obtain ⟨c27,h⟩:=ifd h
    obtain ⟨pq25,Cq25⟩:=M.na 0 rfl c26 c27
    refine .ix Cq25<| .lc Cq25<| .gq 7 ?_
    obtain ⟨t29,ht29,h⟩:=bs h
    refine .ca (Kb.calls ht29) ?_
    rintro _ W28 ⟨rfl,M_⟩
    replace M:=M.cg M_
    exact .gq 10<| .at (ih0 k (by omega) x2_0 (bxor .u32 x1_0 t29) (I64 (x41_0+1)) (M.pm [0] [[0],[1]]) h)
   refine .kn 42 c24<| .gq 9 ?_
   obtain rfl:=sj h
   exact .ret func114 ⟨rfl,(M.pm [] [])⟩
  exact .at (l0 k k.le_refl a1 a2 0 (M.pm [0] [[0],[1]]) h)
 refine .kn 36 c21<| .gq 11 ?_
 have l1: ∀k_≤k,∀(x1_1:Int) (x2_1:Int) (x41_1:Int) {W:World} (M:Mem w W (Gs [⟨.slice A18 t17.length c19,150,1,nums .u32 t17⟩] [Fq15,Fq10])) (h:Kf.l1 k_ t17 x1_1 x2_1 x41_1=some r),RL 114 f114 (Kf.R r w) [1,1,1,1,1,0,1,0,0] [(1,.u x1_1),(2,.u x2_1),(39,.slice A18 t17.length c19),(40,.i (t17.length:Int)),(41,.i x41_1)] W:=by
  refine loopI (by intros;rename_i h;simp [Kf.l1] at h) fun k hk ih1 x1_1 x2_1 x41_1 W M h=> ?_
  simp only [Kf.l1] at h
  refine .gq 5 ?_
  rcases ift h with ⟨c30,h⟩ | ⟨c30,h⟩
  ·refine .kn 42 c30<| .gq 6 ?_
   obtain ⟨c32,h⟩:=ifd h
   obtain ⟨c33,h⟩:=ifd h
   obtain ⟨pq31,Cq31⟩:=M.na 0 rfl c32 c33
   refine .ix Cq31<| .lc Cq31<| .gq 7 ?_
   obtain ⟨t35,ht35,h⟩:=bs h
   refine .ca (Kb.calls ht35) ?_
   rintro _ W34 ⟨rfl,M_⟩
   replace M:=M.cg M_
   exact .gq 10<| .at (ih1 k (by omega) x2_1 (bxor .u32 x1_1 t35) (I64 (x41_1+1)) (M.pm [0] [[0],[1]]) h)
  refine .kn 42 c30<| .gq 9 ?_
  obtain rfl:=sj h
  exact .ret func114 ⟨rfl,(M.pm [] [])⟩
 exact .at (l1 k k.le_refl a1 a2 0 (M.pm [0] [[0],[1]]) h)
mutual
def Kg.l0:Nat→(Li×Int)→Int→Int→Int→Option (Int×Int)
 | 0,_,_,_,_=>none
 | k+1,a0,x1_0,x2_0,x11_0=>if (decide (x11_0<26))=true then (gd (0≤x11_0) (gd (x11_0<(a0.1.length:Int)) ((Jb.f k (bxor .u32 x1_0 x2_0) (I64 (Int.tmod x2_0 32))).bind fun t14=>(gd (0≤(I64 (x11_0+1))) (gd ((I64 (x11_0+1))<(a0.1.length:Int)) ((Jb.f k (bxor .u32 x2_0 (U32 (t14+(rd a0.1 x11_0)))) (I64 (Int.tmod (U32 (t14+(rd a0.1 x11_0))) 32))).bind fun t20=>(Kg.l0 k a0 (U32 (t14+(rd a0.1 x11_0))) (U32 (t20+(rd a0.1 (I64 (x11_0+1))))) (I64 (x11_0+2))))))))) else (some (x1_0,x2_0))
def Kg.l1:Nat→(Li×Int)→Int→Int→Int→Option (Int×Int)
 | 0,_,_,_,_=>none
 | k+1,a0,x1_1,x2_1,x12_1=>if (decide (x12_1≥2))=true then (gd (0≤(I64 (x12_1+1))) (gd ((I64 (x12_1+1))<(a0.1.length:Int)) ((Jb.f k (U32 (x2_1-(rd a0.1 (I64 (x12_1+1))))) (I64 (0-(I64 (Int.tmod x1_1 32))))).bind fun t26=>(gd (0≤x12_1) (gd (x12_1<(a0.1.length:Int)) ((some (I64 (0-(I64 (Int.tmod (bxor .u32 t26 x1_1) 32))):Int)).bind fun y30=>((Jb.f k (U32 (x1_1-(rd a0.1 x12_1))) y30).bind fun t32=>(Kg.l1 k a0 (bxor .u32 t32 (bxor .u32 t26 x1_1)) (bxor .u32 t26 x1_1) (I64 (x12_1-2)))))))))) else (gd (0<(a0.1.length:Int)) (gd (1<(a0.1.length:Int)) (some (U32 (x1_1-(rd a0.1 0)),U32 (x2_1-(rd a0.1 1))))))
end
def Kg.f (k:Nat) (a0:(Li×Int)) (a1:Int) (a2:Int) (a3:Bool):Option (Int×Int):=if (!a3)=true then (gd (0<(a0.1.length:Int)) (gd (1<(a0.1.length:Int)) (Kg.l0 k a0 (U32 (a1+(rd a0.1 0))) (U32 (a2+(rd a0.1 1))) 2))) else (Kg.l1 k a0 a1 a2 24)
abbrev Kg.R (r:Int×Int) (w:World):Value→World→Prop:=fun v w'=>v= .tuple #[.u r.1,.u r.2]∧Mem w w' (Gs [] [])
theorem Kg.calls {vp0:Value} {a0:(Li×Int)} {a1:Int} {a2:Int} {a3:Bool} {r:Int×Int} (hp0:(rPtr Rs_small_Small) Zp0 vp0 a0) (hZp0: ∀W,Kept w W→Zp0 W) (h:Kg.f k a0 a1 a2 a3=some r):Calls prog 115 #[vp0,.u a1,.u a2,.bool a3] w (Ret (Kg.R r w)):=by
 obtain ⟨gp0,_,rfl,hco1,_,_,rfl,⟨Ao1_0,co1_0,rfl,ho1_0⟩,rfl⟩:=id hp0
 unfold Kg.f at h
 refine calls_S func115 ?_
 have M:=Mem.r0 w
 refine .gq 10<| .ld (hco1 _ (hZp0 _ M.kept) 0 _ rfl)<| .gq 8 ?_
 rcases ift h with ⟨c2,h⟩ | ⟨c2,h⟩
 ·refine .kn 18 c2<| .gq 2<| .at (show RL 115 f115 (Kg.R r w) [1,1,0,1,0,0] [(1,.u a1),(2,.u a2),(10,.slice Ao1_0 a0.1.length co1_0)] _ from .dr [] M fun W3 M=> ?_)
  refine .pz tr [0,1] ?_
  obtain ⟨c5,h⟩:=ifd h
  obtain ⟨pq4,Cq4⟩:=(ho1_0 _ (hZp0 _ M.kept)).na (i:=0) (by omega) c5
  refine .ix tr 2 Cq4<| .ln tr 3 Cq4 (fun _ hs=>(ho1_0 _ (hZp0 _ (M.ks hs))))<| .pz tr [4,5,6] ?_
  obtain ⟨c7,h⟩:=ifd h
  obtain ⟨pq6,Cq6⟩:=(ho1_0 _ (hZp0 _ M.kept)).na (i:=1) (by omega) c7
  refine .ix tr 7 Cq6<| .ln tr 8 Cq6 (fun _ hs=>(ho1_0 _ (hZp0 _ (M.ks hs))))<| .pz tr [9,10,11]<| .dn tr<| .gq 7 ?_
  have l0: ∀k_≤k,∀(x1_0:Int) (x2_0:Int) (x11_0:Int) {W:World} (M:Mem w W (Gs [] [])) (h:Kg.l0 k_ a0 x1_0 x2_0 x11_0=some r),RL 115 f115 (Kg.R r w) [1,1,0,1,0,1,0,1,0,0] [(1,.u x1_0),(2,.u x2_0),(10,.slice Ao1_0 a0.1.length co1_0),(11,.i x11_0)] W:=by
   refine loopI (by intros;rename_i h;simp [Kg.l0] at h) fun k hk ih0 x1_0 x2_0 x11_0 W M h=> ?_
   simp only [Kg.l0] at h
   refine .gq 6 ?_
   rcases ift h with ⟨c8,h⟩ | ⟨c8,h⟩
   ·refine .kn 30 c8<| .gq 5<| .at (show RL 115 f115 (Kg.R r w) [1,1,0,1,0,1,0,1,0,0,1,0,0,0] [(1,.u x1_0),(2,.u x2_0),(10,.slice Ao1_0 a0.1.length co1_0),(11,.i x11_0)] _ from .dr [] M fun W9 M=> ?_)
    refine .pz tr [0,1,2,3,4,5,7,8] ?_
    obtain ⟨c11,h⟩:=ifd h
    obtain ⟨c12,h⟩:=ifd h
    obtain ⟨pq10,Cq10⟩:=(ho1_0 _ (hZp0 _ M.kept)).na c11 c12
    refine .ix tr 9 Cq10<| .ln tr 10 Cq10 (fun _ hs=>(ho1_0 _ (hZp0 _ (M.ks hs)))) ?_
    obtain ⟨t14,ht14,h⟩:=bs h
    refine .a1 tr 6<| .ca (Jb.calls ht14) ?_
    rintro _ W13 ⟨rfl,M_⟩
    refine .ca M_ [] ?_
    replace M:=M.cg M_
    refine .pz tr [11,12]<| .dn tr<| .at (show RL 115 f115 (Kg.R r w) [1,1,0,1,0,1,0,1,0,0,1,0,0,1] [(1,.u (U32 (t14+(rd a0.1 x11_0)))),(2,.u x2_0),(10,.slice Ao1_0 a0.1.length co1_0),(11,.i x11_0)] _ from .dr [] M fun W15 M=> ?_)
    refine .pz tr [0,1,2,3,4,5,7,8,9] ?_
    obtain ⟨c17,h⟩:=ifd h
    obtain ⟨c18,h⟩:=ifd h
    obtain ⟨pq16,Cq16⟩:=(ho1_0 _ (hZp0 _ M.kept)).na c17 c18
    refine .ix tr 10 Cq16<| .ln tr 11 Cq16 (fun _ hs=>(ho1_0 _ (hZp0 _ (M.ks hs)))) ?_
    obtain ⟨t20,ht20,h⟩:=bs h
    refine .a1 tr 6<| .ca (Jb.calls ht20) ?_
    rintro _ W19 ⟨rfl,M_⟩
    refine .ca M_ [] ?_
    replace M:=M.cg M_
    exact .pz tr [12,13]<| .dn tr<| .gq 7<| .at (ih0 k (by omega) (U32 (t14+(rd a0.1 x11_0))) (U32 (t20+(rd a0.1 (I64 (x11_0+1))))) (I64 (x11_0+2)) (M.pm [] []) h)
   refine .kn 30 c8<| .gq 9 ?_
   obtain rfl:=sj h
   exact .ret func115 ⟨rfl,(M.pm [] [])⟩
  exact .at (l0 k k.le_refl (U32 (a1+(rd a0.1 0))) (U32 (a2+(rd a0.1 1))) 2 (M.pm [] []) h)
 refine .kn 18 c2<| .gq 9 ?_
 have l1: ∀k_≤k,∀(x1_1:Int) (x2_1:Int) (x12_1:Int) {W:World} (M:Mem w W (Gs [] [])) (h:Kg.l1 k_ a0 x1_1 x2_1 x12_1=some r),RL 115 f115 (Kg.R r w) [1,1,1,0,1,0,0] [(1,.u x1_1),(2,.u x2_1),(10,.slice Ao1_0 a0.1.length co1_0),(12,.i x12_1)] W:=by
  refine loopI (by intros;rename_i h;simp [Kg.l1] at h) fun k hk ih1 x1_1 x2_1 x12_1 W M h=> ?_
  simp only [Kg.l1] at h
  refine .gq 6 ?_
  rcases ift h with ⟨c21,h⟩ | ⟨c21,h⟩
  ·refine .kn 61 c21<| .gq 10 ?_
   obtain ⟨c23,h⟩:=ifd h
   obtain ⟨c24,h⟩:=ifd h
   obtain ⟨pq22,Cq22⟩:=(ho1_0 _ (hZp0 _ M.kept)).na c23 c24
   refine .ix Cq22<| .lc Cq22<| .gq 5 ?_
   obtain ⟨t26,ht26,h⟩:=bs h
   refine .ca (Jb.calls ht26) ?_
   rintro _ W25 ⟨rfl,M_⟩
   replace M:=M.cg M_
   refine .gq 8 ?_
   obtain ⟨c28,h⟩:=ifd h
   obtain ⟨c29,h⟩:=ifd h
   obtain ⟨pq27,Cq27⟩:=(ho1_0 _ (hZp0 _ M.kept)).na c28 c29
   refine .ix Cq27<| .lc Cq27<| .gq 5 ?_
   let y30:Int:=I64 (0-(I64 (Int.tmod (bxor .u32 t26 x1_1) 32)))
   replace h:=bz (y:=y30) h rfl
   obtain ⟨t32,ht32,h⟩:=bs h
   refine .ca (Jb.calls ht32) ?_
   rintro _ W31 ⟨rfl,M_⟩
   replace M:=M.cg M_
   exact .gq 11<| .at (ih1 k (by omega) (bxor .u32 t32 (bxor .u32 t26 x1_1)) (bxor .u32 t26 x1_1) (I64 (x12_1-2)) (M.pm [] []) h)
  refine .kn 61 c21<| .gq 3<| .at (show RL 115 f115 (Kg.R r w) [1,1,1,1,0] [(1,.u x1_1),(2,.u x2_1),(10,.slice Ao1_0 a0.1.length co1_0)] _ from .dr [] M fun W33 M=> ?_)
  refine .pz tr [0,1] ?_
  obtain ⟨c35,h⟩:=ifd h
  obtain ⟨pq34,Cq34⟩:=(ho1_0 _ (hZp0 _ M.kept)).na (i:=0) (by omega) c35
  refine .ix tr 2 Cq34<| .ln tr 3 Cq34 (fun _ hs=>(ho1_0 _ (hZp0 _ (M.ks hs))))<| .pz tr [4,5,6] ?_
  obtain ⟨c37,h⟩:=ifd h
  obtain ⟨pq36,Cq36⟩:=(ho1_0 _ (hZp0 _ M.kept)).na (i:=1) (by omega) c37
  refine .ix tr 7 Cq36<| .ln tr 8 Cq36 (fun _ hs=>(ho1_0 _ (hZp0 _ (M.ks hs))))<| .pz tr [9,10,11]<| .dn tr ?_
  obtain rfl:=sj h
  exact .ret func115 ⟨rfl,(M.pm [] [])⟩
 exact .at (l1 k k.le_refl a1 a2 24 (M.pm [] []) h)
def Kn.f (k:Nat) (a0:Int) (a1:Int) (a2:Bool):Option Li:=if a2=true then ((Ja.f k a0).bind fun t3=>((Ja.f k a1).bind fun t8=>((Y3.f k ([t3,t8]:Lj)).bind fun t20=>(some t20)))) else ((K8.f k a0).bind fun t25=>((K8.f k a1).bind fun t30=>((Y3.f k ([t25,t30]:Lj)).bind fun t42=>(some t42))))
theorem Kn.calls {a0:Int} {a1:Int} {a2:Bool} {r:Li} (h:Kn.f k a0 a1 a2=some r):Calls prog 116 #[.u a0,.u a1,.bool a2] w (Ret fun v w'=> ∃A0' c0',v= .slice A0' r.length c0'∧Mem w w' (Gs [⟨.slice A0' r.length c0',5,1,nums .u8 r⟩] [])):=by
 unfold Kn.f at h
 refine calls_S func116 ?_
 have M:=Mem.r0 w
 refine .gq 9 ?_
 rcases ift h with ⟨c1,h⟩ | ⟨c1,h⟩
 ·refine .kn 7 c1<| .gq 4 ?_
  obtain ⟨t3,ht3,h⟩:=bs h
  refine .ca (Ja.calls ht3) ?_
  rintro _ W2 ⟨A4,c5,rfl,M_⟩
  replace M:=M.cg M_
  refine .gq 1 ?_
  obtain ⟨t8,ht8,h⟩:=bs h
  refine .ca (Ja.calls ht8) ?_
  rintro _ W7 ⟨A9,c10,rfl,M_⟩
  replace M:=M.cg M_
  obtain ⟨Fq12,hfq12,M⟩:=M.fs 1
  obtain ⟨Fq13,hfq13,M⟩:=M.fs 0
  have hqq14:Each2 ((rNums .u8) (andZ (Oks Fq12) (Oks Fq13))) [.slice A4 t3.length c5,.slice A9 t8.length c10] ([t3,t8]:Lj):=(.cons (rno (RdF.up hfq12 (fun _ z=>z.1)) (ai (M.oks 1) (M.oks 0))) (.cons (rno (RdF.up hfq13 (fun _ z=>z.2)) (ai (M.oks 1) (M.oks 0))) (Each2.nil _)))
  refine .new 22 1 2 ([.slice A4 t3.length c5,.slice A9 t8.length c10]) M (fun g15 W16 M=> ?_) rfl
  obtain ⟨Fq18,hfq18,M⟩:=M.fs 0
  obtain ⟨t20,ht20,h⟩:=bs h
  refine .ca (Y3.calls ⟨_,_,_,rfl,(hfq18.up (fun _ z=>z.1)),(Each2.up (up_nums .u8) hqq14 (fun _ z=>(ai z.2.1 z.2.2)))⟩ (fun _ z=>(ai ((M.oks 0).kept z) (ai ((M.oks 2).kept z) ((M.oks 1).kept z)))) ht20) ?_
  rintro _ W19 ⟨A21,c22,rfl,M_⟩
  replace M:=M.cg M_
  refine .gq 2 ?_
  obtain rfl:=sj h
  exact .ret func116 ⟨A21,c22,rfl,(M.pm [0] [])⟩
 refine .kn 7 c1<| .gq 5 ?_
 obtain ⟨t25,ht25,h⟩:=bs h
 refine .ca (K8.calls ht25) ?_
 rintro _ W24 ⟨A26,c27,rfl,M_⟩
 replace M:=M.cg M_
 refine .gq 1 ?_
 obtain ⟨t30,ht30,h⟩:=bs h
 refine .ca (K8.calls ht30) ?_
 rintro _ W29 ⟨A31,c32,rfl,M_⟩
 replace M:=M.cg M_
 obtain ⟨Fq34,hfq34,M⟩:=M.fs 1
 obtain ⟨Fq35,hfq35,M⟩:=M.fs 0
 have hqq36:Each2 ((rNums .u8) (andZ (Oks Fq34) (Oks Fq35))) [.slice A26 t25.length c27,.slice A31 t30.length c32] ([t25,t30]:Lj):=(.cons (rno (RdF.up hfq34 (fun _ z=>z.1)) (ai (M.oks 1) (M.oks 0))) (.cons (rno (RdF.up hfq35 (fun _ z=>z.2)) (ai (M.oks 1) (M.oks 0))) (Each2.nil _)))
 refine .new 22 1 2 ([.slice A26 t25.length c27,.slice A31 t30.length c32]) M (fun g37 W38 M=> ?_) rfl
 obtain ⟨Fq40,hfq40,M⟩:=M.fs 0
 obtain ⟨t42,ht42,h⟩:=bs h
 refine .ca (Y3.calls ⟨_,_,_,rfl,(hfq40.up (fun _ z=>z.1)),(Each2.up (up_nums .u8) hqq36 (fun _ z=>(ai z.2.1 z.2.2)))⟩ (fun _ z=>(ai ((M.oks 0).kept z) (ai ((M.oks 2).kept z) ((M.oks 1).kept z)))) ht42) ?_
 rintro _ W41 ⟨A43,c44,rfl,M_⟩
 replace M:=M.cg M_
 refine .gq 2 ?_
 obtain rfl:=sj h
 exact .ret func116 ⟨A43,c44,rfl,(M.pm [0] [])⟩
def Ke.f (k:Nat) (a0:(Li×Int)) (a1:Li) (a2:Bool):Option (Li×Int):=if ((a1.length:Int) != 8)=true then (some (([]:Li),1)) else ((Kj.f k a1 (a0.2==8)).bind fun t5=>(gd (0<(t5.length:Int)) (gd (1<(t5.length:Int)) (if (a0.2==4)=true then ((Kh.f k a0 (rd t5 0) (rd t5 1) a2).bind fun t16=>((Kn.f k t16.1 t16.2 (a0.2==8)).bind fun t18=>(some (t18,0)))) else (if (a0.2==5)=true then ((Kf.f k a0 (rd t5 0) (rd t5 1) a2).bind fun t24=>((Kn.f k t24.1 t24.2 (a0.2==8)).bind fun t26=>(some (t26,0)))) else (if (a0.2==8)=true then ((Kg.f k a0 (rd t5 0) (rd t5 1) a2).bind fun t32=>((Kn.f k t32.1 t32.2 (a0.2==8)).bind fun t34=>(some (t34,0)))) else ((Kn.f k (rd t5 0) (rd t5 1) (a0.2==8)).bind fun t39=>(some (t39,0)))))))))
abbrev Ke.R (r:Li×Int) (w:World):Value→World→Prop:=fun v w'=> ∃A0' c0',v= .tuple #[.slice A0' r.1.length c0',.i r.2]∧Mem w w' (Gs [⟨.slice A0' r.1.length c0',5,1,nums .u8 r.1⟩] [])
theorem Ke.calls {vp0:Value} {a0:(Li×Int)} {a1:Li} {a2:Bool} {r:Li×Int} (hr1:Rd w (.slice Ap1 np1 cp1) (nums .u8 a1)) (hp0:(rPtr Rs_small_Small) Zp0 vp0 a0) (hZp0: ∀W,Kept w W→Zp0 W) (h:Ke.f k a0 a1 a2=some r):Calls prog 67 #[vp0,(.slice Ap1 np1 cp1),.bool a2] w (Ret (Ke.R r w)):=by
 obtain rfl:=hr1.ln
 obtain ⟨gp0,_,rfl,hco1,_,_,rfl,⟨Ao1_0,co1_0,rfl,ho1_0⟩,rfl⟩:=id hp0
 unfold Ke.f at h
 refine calls_S func67 ?_
 have M:=Mem.r0 w
 refine .gq 12 ?_
 rcases ift h with ⟨c2,h⟩ | ⟨c2,h⟩
 ·refine .kn 14 c2<| .gq 6 ?_
  replace M:=M.n1 5
  obtain rfl:=sj h
  exact .ret func67 ⟨none,0,rfl,(M.pm [0] [])⟩
 refine .kn 14 c2<| .gq 7<| .ld (hco1 _ (hZp0 _ M.kept) 1 _ rfl)<| .gq 7 ?_
 obtain ⟨t5,ht5,h⟩:=bs h
 refine .ca (Kj.calls (hr1.mono M.below) ht5) ?_
 rintro _ W4 ⟨A6,c7,rfl,M_⟩
 replace M:=M.cg M_
 refine .gq 3<| .at (show RL 67 f67 (Ke.R r w) [1,1,1,1,0] [(0,.pt gp0),(2,.bool a2),(8,.bool (a0.2==8)),(9,.slice A6 t5.length c7)] _ from .dr [] M fun W9 M=> ?_)
 refine .pz tr [0] ?_
 obtain ⟨c11,h⟩:=ifd h
 obtain ⟨pq10,Cq10⟩:=M.na 0 rfl (i:=0) (by omega) c11
 refine .ix tr 1 Cq10<| .ln tr 2 Cq10 (fun _ hs=>(M.rs hs 0 rfl))<| .pz tr [3] ?_
 obtain ⟨c13,h⟩:=ifd h
 obtain ⟨pq12,Cq12⟩:=M.na 0 rfl (i:=1) (by omega) c13
 refine .ix tr 4 Cq12<| .ln tr 5 Cq12 (fun _ hs=>(M.rs hs 0 rfl))<| .pz tr [6,7]<| .dn tr<| .gq 6<| .ld (hco1 _ (hZp0 _ M.kept) 1 _ rfl)<| .gq 7 ?_
 rcases ift h with ⟨c14,h⟩ | ⟨c14,h⟩
 ·refine .kn 33 c14<| .gq 6 ?_
  obtain ⟨t16,ht16,h⟩:=bs h
  refine .ca (Kh.calls hp0 (zp M hZp0) ht16) ?_
  rintro _ W15 ⟨rfl,M_⟩
  replace M:=M.cg M_
  refine .gq 12 ?_
  obtain ⟨t18,ht18,h⟩:=bs h
  refine .ca (Kn.calls ht18) ?_
  rintro _ W17 ⟨A19,c20,rfl,M_⟩
  replace M:=M.cg M_
  refine .gq 3 ?_
  obtain rfl:=sj h
  exact .ret func67 ⟨A19,c20,rfl,(M.pm [0] [])⟩
 refine .kn 33 c14<| .gq 6 ?_
 rcases ift h with ⟨c22,h⟩ | ⟨c22,h⟩
 ·refine .kn 43 c22<| .gq 6 ?_
  obtain ⟨t24,ht24,h⟩:=bs h
  refine .ca (Kf.calls hp0 (zp M hZp0) ht24) ?_
  rintro _ W23 ⟨rfl,M_⟩
  replace M:=M.cg M_
  refine .gq 12 ?_
  obtain ⟨t26,ht26,h⟩:=bs h
  refine .ca (Kn.calls ht26) ?_
  rintro _ W25 ⟨A27,c28,rfl,M_⟩
  replace M:=M.cg M_
  refine .gq 3 ?_
  obtain rfl:=sj h
  exact .ret func67 ⟨A27,c28,rfl,(M.pm [0] [])⟩
 refine .kn 43 c22<| .gq 6 ?_
 rcases ift h with ⟨c30,h⟩ | ⟨c30,h⟩
 ·refine .kn 53 c30<| .gq 6 ?_
  obtain ⟨t32,ht32,h⟩:=bs h
  refine .ca (Kg.calls hp0 (zp M hZp0) ht32) ?_
  rintro _ W31 ⟨rfl,M_⟩
  replace M:=M.cg M_
  refine .gq 12 ?_
  obtain ⟨t34,ht34,h⟩:=bs h
  refine .ca (Kn.calls ht34) ?_
  rintro _ W33 ⟨A35,c36,rfl,M_⟩
  replace M:=M.cg M_
  refine .gq 3 ?_
  obtain rfl:=sj h
  exact .ret func67 ⟨A35,c36,rfl,(M.pm [0] [])⟩
 refine .kn 53 c30<| .gq 8 ?_
 obtain ⟨t39,ht39,h⟩:=bs h
 refine .ca (Kn.calls ht39) ?_
 rintro _ W38 ⟨A40,c41,rfl,M_⟩
 replace M:=M.cg M_
 refine .gq 3 ?_
 obtain rfl:=sj h
 exact .ret func67 ⟨A40,c41,rfl,(M.pm [0] [])⟩
def Qx.f (k:Nat) (a0:Ci) (a1:Li):Option (Li×Int):=if a0.2.isLeft=true then ((a0.2.getLeft?).bind fun s2=>((s2).bind fun s6=>((Vf.f k s6 a1 false).bind fun t10=>(some (t10.1,t10.2))))) else ((a0.2.getRight?).bind fun s3=>(if s3.isLeft=true then ((s3.getLeft?).bind fun s14=>((s14).bind fun s18=>((Vt.f k s18 a1 false).bind fun t22=>(some (t22.1,t22.2))))) else ((s3.getRight?).bind fun s15=>(if s15.isLeft=true then ((s15.getLeft?).bind fun s26=>((s26).bind fun s30=>((Kx.f k s30 a1 false).bind fun t34=>(some (t34.1,t34.2))))) else ((s15.getRight?).bind fun s27=>(if s27.isLeft=true then ((s27.getLeft?).bind fun s38=>((s38).bind fun s42=>((Qa.f k s42 a1 false).bind fun t46=>(some (t46.1,t46.2))))) else ((s27.getRight?).bind fun s39=>((s39).bind fun s51=>((Ke.f k s51 a1 false).bind fun t55=>(some (t55.1,t55.2)))))))))))
theorem Qx.calls {vp0:Value} {a0:Ci} {a1:Li} {r:Li×Int} (hr1:Rd w (.slice Ap1 np1 cp1) (nums .u8 a1)) (hp0:(rPtr Rs_cipher_Cipher) Zp0 vp0 a0) (hZp0: ∀W,Kept w W→Zp0 W) (h:Qx.f k a0 a1=some r):Calls prog 21 #[vp0,(.slice Ap1 np1 cp1)] w (Ret fun v w'=> ∃A0' c0',v= .tuple #[.slice A0' r.1.length c0',.i r.2]∧Mem w w' (Gs [⟨.slice A0' r.1.length c0',5,1,nums .u8 r.1⟩] [])):=by
 obtain rfl:=hr1.ln
 obtain ⟨gp0,_,rfl,hco1,_,uo1_1,rfl,rfl,ho1_1⟩:=id hp0
 unfold Qx.f at h
 refine calls_S func21 ?_
 have M:=Mem.r0 w
 refine .gq 10<| .ld (hco1 _ (hZp0 _ M.kept) 1 _ rfl)<| .gq 1 ?_
 rcases ift h with ⟨c4,h⟩ | ⟨c4,h⟩
 ·obtain ⟨s2,hx_,h⟩:=bs h
  obtain ⟨u5,rfl,hpu5⟩:=rSum.left ho1_1 hx_
  obtain ⟨s6,hx_,h⟩:=bs h
  have hps6:=rOpt.some hpu5 hx_
  obtain ⟨g7,_,rfl,hco8,_,rfl,⟨Ao8_0,co8_0,cso8_0,rfl,hro8_0,hqo8_0⟩⟩:=id hps6
  obtain ⟨t10,ht10,h⟩:=bs h
  refine .ca (Vf.calls (hr1.mono M.below) hps6 (zp M hZp0) ht10) ?_
  rintro _ W9 ⟨A11,c12,rfl,M_⟩
  replace M:=M.cg M_
  refine .gq 5 ?_
  obtain rfl:=sj h
  exact .ret func21 ⟨A11,c12,rfl,(M.pm [0] [])⟩
 obtain ⟨s3,hx_,h⟩:=bs h
 have hps3:=rSum.right ho1_1 hx_
 rcases ift h with ⟨c16,h⟩ | ⟨c16,h⟩
 ·obtain ⟨s14,hx_,h⟩:=bs h
  obtain ⟨u17,rfl,hpu17⟩:=rSum.left hps3 hx_
  obtain ⟨s18,hx_,h⟩:=bs h
  have hps18:=rOpt.some hpu17 hx_
  obtain ⟨g19,_,rfl,hco20,_,_,rfl,⟨Ao20_0,co20_0,rfl,ho20_0⟩,⟨Ao20_1,co20_1,rfl,ho20_1⟩⟩:=id hps18
  obtain ⟨t22,ht22,h⟩:=bs h
  refine .ca (Vt.calls (hr1.mono M.below) hps18 (zp M hZp0) ht22) ?_
  rintro _ W21 ⟨A23,c24,rfl,M_⟩
  replace M:=M.cg M_
  refine .gq 5 ?_
  obtain rfl:=sj h
  exact .ret func21 ⟨A23,c24,rfl,(M.pm [0] [])⟩
 obtain ⟨s15,hx_,h⟩:=bs h
 have hps15:=rSum.right hps3 hx_
 rcases ift h with ⟨c28,h⟩ | ⟨c28,h⟩
 ·obtain ⟨s26,hx_,h⟩:=bs h
  obtain ⟨u29,rfl,hpu29⟩:=rSum.left hps15 hx_
  obtain ⟨s30,hx_,h⟩:=bs h
  have hps30:=rOpt.some hpu29 hx_
  obtain ⟨g31,_,rfl,hco32,_,_,rfl,⟨Ao32_0,co32_0,rfl,ho32_0⟩,⟨Ao32_1,co32_1,rfl,ho32_1⟩⟩:=id hps30
  obtain ⟨t34,ht34,h⟩:=bs h
  refine .ca (Kx.calls (hr1.mono M.below) hps30 (zp M hZp0) ht34) ?_
  rintro _ W33 ⟨A35,c36,rfl,M_⟩
  replace M:=M.cg M_
  refine .gq 5 ?_
  obtain rfl:=sj h
  exact .ret func21 ⟨A35,c36,rfl,(M.pm [0] [])⟩
 obtain ⟨s27,hx_,h⟩:=bs h
 have hps27:=rSum.right hps15 hx_
 rcases ift h with ⟨c40,h⟩ | ⟨c40,h⟩
 ·obtain ⟨s38,hx_,h⟩:=bs h
  obtain ⟨u41,rfl,hpu41⟩:=rSum.left hps27 hx_
  obtain ⟨s42,hx_,h⟩:=bs h
  have hps42:=rOpt.some hpu41 hx_
  obtain ⟨g43,_,rfl,hco44,co44_0,_,rfl,hlo44_0,hqo44_0,⟨Ao44_1,co44_1,cso44_1,rfl,hro44_1,hqo44_1⟩⟩:=id hps42
  obtain ⟨t46,ht46,h⟩:=bs h
  refine .ca (Qa.calls (hr1.mono M.below) hps42 (zp M hZp0) ht46) ?_
  rintro _ W45 ⟨A47,c48,rfl,M_⟩
  replace M:=M.cg M_
  refine .gq 5 ?_
  obtain rfl:=sj h
  exact .ret func21 ⟨A47,c48,rfl,(M.pm [0] [])⟩
 obtain ⟨s39,hx_,h⟩:=bs h
 have hps39:=rSum.right hps27 hx_
 obtain ⟨u50,rfl,hpu50⟩:=hps39
 obtain ⟨s51,hx_,h⟩:=bs h
 have hps51:=rOpt.some hpu50 hx_
 obtain ⟨g52,_,rfl,hco53,_,_,rfl,⟨Ao53_0,co53_0,rfl,ho53_0⟩,rfl⟩:=id hps51
 obtain ⟨t55,ht55,h⟩:=bs h
 refine .ca (Ke.calls (hr1.mono M.below) hps51 (zp M hZp0) ht55) ?_
 rintro _ W54 ⟨A56,c57,rfl,M_⟩
 replace M:=M.cg M_
 refine .gq 5 ?_
 obtain rfl:=sj h
 exact .ret func21 ⟨A56,c57,rfl,(M.pm [0] [])⟩
def Qw.f (k:Nat) (a0:Ci) (a1:Li):Option (Li×Int):=if a0.2.isLeft=true then ((a0.2.getLeft?).bind fun s2=>((s2).bind fun s6=>((Vf.f k s6 a1 true).bind fun t10=>(some (t10.1,t10.2))))) else ((a0.2.getRight?).bind fun s3=>(if s3.isLeft=true then ((s3.getLeft?).bind fun s14=>((s14).bind fun s18=>((Vt.f k s18 a1 true).bind fun t22=>(some (t22.1,t22.2))))) else ((s3.getRight?).bind fun s15=>(if s15.isLeft=true then ((s15.getLeft?).bind fun s26=>((s26).bind fun s30=>((Kx.f k s30 a1 true).bind fun t34=>(some (t34.1,t34.2))))) else ((s15.getRight?).bind fun s27=>(if s27.isLeft=true then ((s27.getLeft?).bind fun s38=>((s38).bind fun s42=>((Qa.f k s42 a1 true).bind fun t46=>(some (t46.1,t46.2))))) else ((s27.getRight?).bind fun s39=>((s39).bind fun s51=>((Ke.f k s51 a1 true).bind fun t55=>(some (t55.1,t55.2)))))))))))
theorem Qw.calls {vp0:Value} {a0:Ci} {a1:Li} {r:Li×Int} (hr1:Rd w (.slice Ap1 np1 cp1) (nums .u8 a1)) (hp0:(rPtr Rs_cipher_Cipher) Zp0 vp0 a0) (hZp0: ∀W,Kept w W→Zp0 W) (h:Qw.f k a0 a1=some r):Calls prog 22 #[vp0,(.slice Ap1 np1 cp1)] w (Ret fun v w'=> ∃A0' c0',v= .tuple #[.slice A0' r.1.length c0',.i r.2]∧Mem w w' (Gs [⟨.slice A0' r.1.length c0',5,1,nums .u8 r.1⟩] [])):=by
 obtain rfl:=hr1.ln
 obtain ⟨gp0,_,rfl,hco1,_,uo1_1,rfl,rfl,ho1_1⟩:=id hp0
 unfold Qw.f at h
 refine calls_S func22 ?_
 have M:=Mem.r0 w
 refine .gq 10<| .ld (hco1 _ (hZp0 _ M.kept) 1 _ rfl)<| .gq 1 ?_
 rcases ift h with ⟨c4,h⟩ | ⟨c4,h⟩
 ·obtain ⟨s2,hx_,h⟩:=bs h
  obtain ⟨u5,rfl,hpu5⟩:=rSum.left ho1_1 hx_
  obtain ⟨s6,hx_,h⟩:=bs h
  have hps6:=rOpt.some hpu5 hx_
  obtain ⟨g7,_,rfl,hco8,_,rfl,⟨Ao8_0,co8_0,cso8_0,rfl,hro8_0,hqo8_0⟩⟩:=id hps6
  obtain ⟨t10,ht10,h⟩:=bs h
  refine .ca (Vf.calls (hr1.mono M.below) hps6 (zp M hZp0) ht10) ?_
  rintro _ W9 ⟨A11,c12,rfl,M_⟩
  replace M:=M.cg M_
  refine .gq 5 ?_
  obtain rfl:=sj h
  exact .ret func22 ⟨A11,c12,rfl,(M.pm [0] [])⟩
 obtain ⟨s3,hx_,h⟩:=bs h
 have hps3:=rSum.right ho1_1 hx_
 rcases ift h with ⟨c16,h⟩ | ⟨c16,h⟩
 ·obtain ⟨s14,hx_,h⟩:=bs h
  obtain ⟨u17,rfl,hpu17⟩:=rSum.left hps3 hx_
  obtain ⟨s18,hx_,h⟩:=bs h
  have hps18:=rOpt.some hpu17 hx_
  obtain ⟨g19,_,rfl,hco20,_,_,rfl,⟨Ao20_0,co20_0,rfl,ho20_0⟩,⟨Ao20_1,co20_1,rfl,ho20_1⟩⟩:=id hps18
  obtain ⟨t22,ht22,h⟩:=bs h
  refine .ca (Vt.calls (hr1.mono M.below) hps18 (zp M hZp0) ht22) ?_
  rintro _ W21 ⟨A23,c24,rfl,M_⟩
  replace M:=M.cg M_
  refine .gq 5 ?_
  obtain rfl:=sj h
  exact .ret func22 ⟨A23,c24,rfl,(M.pm [0] [])⟩
 obtain ⟨s15,hx_,h⟩:=bs h
 have hps15:=rSum.right hps3 hx_
 rcases ift h with ⟨c28,h⟩ | ⟨c28,h⟩
 ·obtain ⟨s26,hx_,h⟩:=bs h
  obtain ⟨u29,rfl,hpu29⟩:=rSum.left hps15 hx_
  obtain ⟨s30,hx_,h⟩:=bs h
  have hps30:=rOpt.some hpu29 hx_
  obtain ⟨g31,_,rfl,hco32,_,_,rfl,⟨Ao32_0,co32_0,rfl,ho32_0⟩,⟨Ao32_1,co32_1,rfl,ho32_1⟩⟩:=id hps30
  obtain ⟨t34,ht34,h⟩:=bs h
  refine .ca (Kx.calls (hr1.mono M.below) hps30 (zp M hZp0) ht34) ?_
  rintro _ W33 ⟨A35,c36,rfl,M_⟩
  replace M:=M.cg M_
  refine .gq 5 ?_
  obtain rfl:=sj h
  exact .ret func22 ⟨A35,c36,rfl,(M.pm [0] [])⟩
 obtain ⟨s27,hx_,h⟩:=bs h
 have hps27:=rSum.right hps15 hx_
 rcases ift h with ⟨c40,h⟩ | ⟨c40,h⟩
 ·obtain ⟨s38,hx_,h⟩:=bs h
  obtain ⟨u41,rfl,hpu41⟩:=rSum.left hps27 hx_
  obtain ⟨s42,hx_,h⟩:=bs h
  have hps42:=rOpt.some hpu41 hx_
  obtain ⟨g43,_,rfl,hco44,co44_0,_,rfl,hlo44_0,hqo44_0,⟨Ao44_1,co44_1,cso44_1,rfl,hro44_1,hqo44_1⟩⟩:=id hps42
  obtain ⟨t46,ht46,h⟩:=bs h
  refine .ca (Qa.calls (hr1.mono M.below) hps42 (zp M hZp0) ht46) ?_
  rintro _ W45 ⟨A47,c48,rfl,M_⟩
  replace M:=M.cg M_
  refine .gq 5 ?_
  obtain rfl:=sj h
  exact .ret func22 ⟨A47,c48,rfl,(M.pm [0] [])⟩
 obtain ⟨s39,hx_,h⟩:=bs h
 have hps39:=rSum.right hps27 hx_
 obtain ⟨u50,rfl,hpu50⟩:=hps39
 obtain ⟨s51,hx_,h⟩:=bs h
 have hps51:=rOpt.some hpu50 hx_
 obtain ⟨g52,_,rfl,hco53,_,_,rfl,⟨Ao53_0,co53_0,rfl,ho53_0⟩,rfl⟩:=id hps51
 obtain ⟨t55,ht55,h⟩:=bs h
 refine .ca (Ke.calls (hr1.mono M.below) hps51 (zp M hZp0) ht55) ?_
 rintro _ W54 ⟨A56,c57,rfl,M_⟩
 replace M:=M.cg M_
 refine .gq 5 ?_
 obtain rfl:=sj h
 exact .ret func22 ⟨A56,c57,rfl,(M.pm [0] [])⟩
def Qy.f (k:Nat) (a0:Ci):Option (Int):=(Q2.f k a0.1).bind fun t3=>(some t3)
theorem Qy.calls {vp0:Value} {a0:Ci} {r:Int} (hp0:(rPtr Rs_cipher_Cipher) Zp0 vp0 a0) (hZp0: ∀W,Kept w W→Zp0 W) (h:Qy.f k a0=some r):Calls prog 30 #[vp0] w (Ret fun v w'=>v= .i r∧Mem w w' (Gs [] [])):=by
 obtain ⟨gp0,_,rfl,hco1,_,uo1_1,rfl,rfl,ho1_1⟩:=id hp0
 unfold Qy.f at h
 refine calls_S func30 ?_
 have M:=Mem.r0 w
 refine .gq 9<| .ld (hco1 _ (hZp0 _ M.kept) 0 _ rfl) ?_
 obtain ⟨t3,ht3,h⟩:=bs h
 refine .ca (Q2.calls ht3) ?_
 rintro _ W2 ⟨rfl,M_⟩
 replace M:=M.cg M_
 refine .gq 2 ?_
 obtain rfl:=sj h
 exact .ret func30 ⟨rfl,(M.pm [] [])⟩
end Go.Scr.S
