/- Functions that the law reaches, as plain functions, and that each call answers so: stolen ends, modes, contexts. -/
import Derived.Test.YtdemmfohkhpklaaGreatDoorXF
import Derived.Test.YtdemmfohkhpklaaGreatDoorFa
import Derived.Test.YtdemmfohkhpklaaGreatDoorFb
set_option linter.unusedVariables false
set_option linter.unusedSimpArgs false
set_option maxRecDepth 100000
set_option maxHeartbeats 8000000
namespace Go.Scr.S
variable {k np0 cp0 np1 cp1 np2 cp2 np3 cp3 np4 cp4:Nat} {Ap0 Ap1 Ap2 Ap3 Ap4:Option Addr} {w w0:World} {FT:List Ent} {Zm Zp0 Zp1 Zp2 Zp3:Zp}
open Go.RowKit (Below)
open Go.Proofs.Tryz (prog f44 func44 f68 func68 f117 func117 f118 func118 f119 func119 f161 func161)
def Yz.f (k:Nat) (a0:Li):Option Li:=gd (([]:Li).length+a0.length≤1000000000) (some (([]:Li)++a0))
theorem Yz.calls {a0:Li} {r:Li} (hr0:Rd w (.slice Ap0 np0 cp0) (nums .u8 a0)) (h:Yz.f k a0=some r):Calls prog 44 #[(.slice Ap0 np0 cp0)] w (Ret fun v w'=> ∃A0' c0',v= .slice A0' r.length c0'∧Mem w w' (Gs [⟨.slice A0' r.length c0',5,1,nums .u8 r⟩] [])):=by
 obtain rfl:=hr0.ln
 unfold Yz.f at h
 refine calls_S func44 ?_
 have M:=Mem.r0 w
 refine .gq 8 ?_
 rcases (hr0.mono M.below).isnil with ⟨rfl,hn_⟩ | ⟨a1,rfl⟩
 ·obtain rfl:a0=[]:=by simpa [nums,bools,strs,ones] using hn_
  replace h:(some ([]:Li))=some r:=by simpa using h
  refine .gq 7 ?_
  replace M:=M.n1 5
  obtain rfl:=sj h
  exact .ret func44 ⟨none,0,rfl,(M.pm [0] [])⟩
 ·refine .gq 6<| .new 5 1 0 (nums .u8 []) M fun g2 W3 M=> .gq 1 ?_
  obtain ⟨c8,h⟩:=ifd h
  refine .an M 0 rfl (hr0.mono M.below) c8 fun A5 c6 W7 M=> .gq 2 ?_
  obtain rfl:=sj h
  exact .ret func44 ⟨A5,c6,rfl,(M.pm [0] [])⟩
mutual
def Kr.l0:Nat→Li→Li→Li→Int→Option Li
 | 0,_,_,_,_=>none
 | k+1,a0,t4,x5_0,x19_0=>if (decide (x19_0<(a0.length:Int)))=true then (gd (0≤x19_0) (gd (x19_0<(a0.length:Int)) (gd (0≤x19_0) (gd (x19_0<(t4.length:Int)) (gd (0≤x19_0) (gd (x19_0<(t4.length:Int)) (Kr.l0 k a0 t4 (x5_0.set (x19_0:Int).toNat (bxor .u8 (rd x5_0 x19_0) (rd a0 x19_0))) (I64 (x19_0+1))))))))) else (some x5_0)
def Kr.l1:Nat→Li→Li→Li→Int→Option Li
 | 0,_,_,_,_=>none
 | k+1,a1,t20,x5_1,x19_1=>if (decide (x19_1<(a1.length:Int)))=true then (gd (0≤x19_1) (gd (x19_1<(a1.length:Int)) (gd (0≤x19_1) (gd (x19_1<(t20.length:Int)) (gd (0≤x19_1) (gd (x19_1<(t20.length:Int)) (Kr.l1 k a1 t20 (x5_1.set (x19_1:Int).toNat (bxor .u8 (rd x5_1 x19_1) (rd a1 x19_1))) (I64 (x19_1+1))))))))) else (some x5_1)
end
def Kr.f (k:Nat) (a0:Li) (a1:Li):Option Li:=(some (decide ((a0.length:Int)<(a1.length:Int)):Bool)).bind fun y1=>(if y1=true then ((Yz.f k a1).bind fun t4=>(Kr.l0 k a0 t4 t4 0)) else ((Yz.f k a0).bind fun t20=>(Kr.l1 k a1 t20 t20 0)))
abbrev Kr.R (r:Li) (w:World):Value→World→Prop:=fun v w'=> ∃A0' c0',v= .slice A0' r.length c0'∧Mem w w' (Gs [⟨.slice A0' r.length c0',5,1,nums .u8 r⟩] [])
theorem Kr.calls {a0:Li} {a1:Li} {r:Li} (hr0:Rd w (.slice Ap0 np0 cp0) (nums .u8 a0)) (hr1:Rd w (.slice Ap1 np1 cp1) (nums .u8 a1)) (h:Kr.f k a0 a1=some r):Calls prog 161 #[(.slice Ap0 np0 cp0),(.slice Ap1 np1 cp1)] w (Ret (Kr.R r w)):=by
 obtain rfl:=hr0.ln
 obtain rfl:=hr1.ln
 unfold Kr.f at h
 refine calls_S func161 ?_
 have M:=Mem.r0 w
 refine .gq 13 ?_
 let y1:Bool:=decide ((a0.length:Int)<(a1.length:Int))
 replace h:=bz (y:=y1) h rfl
 rcases ift h with ⟨c2,h⟩ | ⟨c2,h⟩
 ·refine .kn 12 c2<| .gq 10 ?_
  obtain ⟨t4,ht4,h⟩:=bs h
  refine .ca (Yz.calls (hr1.mono M.below) ht4) ?_
  rintro _ W3 ⟨A5,c6,rfl,M_⟩
  replace M:=M.cg M_
  refine .gq 11 ?_
  have l0: ∀k_≤k,∀(x5_0:Li) (x19_0:Int) {W:World} (M:Mem w W (Gs [⟨.slice A5 t4.length c6,5,1,nums .u8 x5_0⟩] [])) (h:Kr.l0 k_ a0 t4 x5_0 x19_0=some r),RL 161 f161 (Kr.R r w) [1,1,1,0,1,0,0] [(5,.slice A5 t4.length c6),(17,.slice Ap0 a0.length cp0),(18,.i (a0.length:Int)),(19,.i x19_0)] W:=by
   refine loopI (by intros;rename_i h;simp [Kr.l0] at h) fun k hk ih0 x5_0 x19_0 W M h=> ?_
   simp only [Kr.l0] at h
   refine .gq 5 ?_
   rcases ift h with ⟨c8,h⟩ | ⟨c8,h⟩
   ·refine .kn 20 c8<| .gq 7 ?_
    obtain ⟨c10,h⟩:=ifd h
    obtain ⟨c11,h⟩:=ifd h
    obtain ⟨pq9,Cq9⟩:=(hr0.mono M.below).na c10 c11
    refine .ix Cq9<| .lc Cq9<| .gq 6 ?_
    obtain ⟨c13,h⟩:=ifd h
    obtain ⟨c14,h⟩:=ifd h
    obtain ⟨pq12,Cq12⟩:=M.na 0 rfl c13 c14
    refine .ix Cq12<| .lc Cq12<| .gq 2 ?_
    obtain ⟨c16,h⟩:=ifd h
    obtain ⟨c17,h⟩:=ifd h
    obtain ⟨pq15,Cq15⟩:=M.na 0 rfl c16 c17
    exact .ix Cq15<| .sn (bxor .u8 (rd x5_0 x19_0) (rd a0 x19_0)) Cq15 M 0 rfl fun W18 M=> .gq 7<| .at (ih0 k (by omega) (x5_0.set (x19_0:Int).toNat (bxor .u8 (rd x5_0 x19_0) (rd a0 x19_0))) (I64 (x19_0+1)) (M.pm [0] []) h)
   refine .kn 20 c8<| .gq 7 ?_
   obtain rfl:=sj h
   have hn0_:=(M.or 0).ln
   exact .ret (v:= .slice A5 t4.length c6) func161 ⟨A5,c6,(by rw [hn0_]),by rw [hn0_];exact (M.pm [0] [])⟩
  exact .at (l0 k k.le_refl t4 0 (M.pm [0] []) h)
 refine .kn 12 c2<| .gq 5 ?_
 obtain ⟨t20,ht20,h⟩:=bs h
 refine .ca (Yz.calls (hr0.mono M.below) ht20) ?_
 rintro _ W19 ⟨A21,c22,rfl,M_⟩
 replace M:=M.cg M_
 refine .gq 11 ?_
 have l1: ∀k_≤k,∀(x5_1:Li) (x19_1:Int) {W:World} (M:Mem w W (Gs [⟨.slice A21 t20.length c22,5,1,nums .u8 x5_1⟩] [])) (h:Kr.l1 k_ a1 t20 x5_1 x19_1=some r),RL 161 f161 (Kr.R r w) [1,1,1,0,1,0,0] [(5,.slice A21 t20.length c22),(17,.slice Ap1 a1.length cp1),(18,.i (a1.length:Int)),(19,.i x19_1)] W:=by
  refine loopI (by intros;rename_i h;simp [Kr.l1] at h) fun k hk ih1 x5_1 x19_1 W M h=> ?_
  simp only [Kr.l1] at h
  refine .gq 5 ?_
  rcases ift h with ⟨c24,h⟩ | ⟨c24,h⟩
  ·refine .kn 20 c24<| .gq 7 ?_
   obtain ⟨c26,h⟩:=ifd h
   obtain ⟨c27,h⟩:=ifd h
   obtain ⟨pq25,Cq25⟩:=(hr1.mono M.below).na c26 c27
   refine .ix Cq25<| .lc Cq25<| .gq 6 ?_
   obtain ⟨c29,h⟩:=ifd h
   obtain ⟨c30,h⟩:=ifd h
   obtain ⟨pq28,Cq28⟩:=M.na 0 rfl c29 c30
   refine .ix Cq28<| .lc Cq28<| .gq 2 ?_
   obtain ⟨c32,h⟩:=ifd h
   obtain ⟨c33,h⟩:=ifd h
   obtain ⟨pq31,Cq31⟩:=M.na 0 rfl c32 c33
   exact .ix Cq31<| .sn (bxor .u8 (rd x5_1 x19_1) (rd a1 x19_1)) Cq31 M 0 rfl fun W34 M=> .gq 7<| .at (ih1 k (by omega) (x5_1.set (x19_1:Int).toNat (bxor .u8 (rd x5_1 x19_1) (rd a1 x19_1))) (I64 (x19_1+1)) (M.pm [0] []) h)
  refine .kn 20 c24<| .gq 7 ?_
  obtain rfl:=sj h
  have hn0_:=(M.or 0).ln
  exact .ret (v:= .slice A21 t20.length c22) func161 ⟨A21,c22,(by rw [hn0_]),by rw [hn0_];exact (M.pm [0] [])⟩
 exact .at (l1 k k.le_refl t20 0 (M.pm [0] []) h)
def Kp.f (k:Nat) (a0:Ci) (a1:Bool) (a2:Li) (a3:Li):Option Li:=(Qy.f k a0).bind fun t3=>(gd (0≤(I64 ((a3.length:Int)-t3))) (gd ((I64 ((a3.length:Int)-t3))≤(a3.length:Int)) (gd (0≤(I64 ((a3.length:Int)-t3))) (gd ((I64 ((a3.length:Int)-t3))≤(a3.length:Int)) (if a1=true then (gd (0≤t3) (gd (t3≤(a3.length:Int)) (gd (0≤t3) (gd (t3≤(a3.length:Int)) ((Qw.f k a0 ((a3.take (t3:Int).toNat).drop (0:Int).toNat)).bind fun t28=>(gd (0≤(I64 ((a3.length:Int)-t3))) (gd ((I64 ((a3.length:Int)-t3))≤(t28.1.length:Int)) ((Kr.f k ((t28.1.take (I64 ((a3.length:Int)-t3):Int).toNat).drop (0:Int).toNat) ((a3.take ((a3.length:Int):Int).toNat).drop (t3:Int).toNat)).bind fun t38=>(gd (0≤(I64 ((a3.length:Int)-t3))) (gd ((I64 ((a3.length:Int)-t3))≤(t28.1.length:Int)) ((Y3.f k ([((a3.take ((a3.length:Int):Int).toNat).drop (t3:Int).toNat),((t28.1.take ((t28.1.length:Int):Int).toNat).drop (I64 ((a3.length:Int)-t3):Int).toNat)]:Lj)).bind fun t54=>((Qw.f k a0 t54).bind fun t59=>((Kr.f k t59.1 a2).bind fun t64=>((Y3.f k ([t64,t38]:Lj)).bind fun t76=>(some t76))))))))))))))) else ((Qw.f k a0 ((a3.take ((a3.length:Int):Int).toNat).drop (I64 ((a3.length:Int)-t3):Int).toNat)).bind fun t81=>(gd (0≤(I64 ((a3.length:Int)-t3))) (gd ((I64 ((a3.length:Int)-t3))≤(t81.1.length:Int)) ((Kr.f k ((t81.1.take (I64 ((a3.length:Int)-t3):Int).toNat).drop (0:Int).toNat) ((a3.take (I64 ((a3.length:Int)-t3):Int).toNat).drop (0:Int).toNat)).bind fun t91=>(gd (0≤(I64 ((a3.length:Int)-t3))) (gd ((I64 ((a3.length:Int)-t3))≤(t81.1.length:Int)) ((Y3.f k ([((a3.take (I64 ((a3.length:Int)-t3):Int).toNat).drop (0:Int).toNat),((t81.1.take ((t81.1.length:Int):Int).toNat).drop (I64 ((a3.length:Int)-t3):Int).toNat)]:Lj)).bind fun t107=>((Qw.f k a0 t107).bind fun t112=>((Kr.f k t112.1 a2).bind fun t117=>((Y3.f k ([t117,t91]:Lj)).bind fun t129=>(some t129))))))))))))))))
abbrev Kp.R (r:Li) (w:World):Value→World→Prop:=fun v w'=> ∃A0' c0',v= .slice A0' r.length c0'∧Mem w w' (Gs [⟨.slice A0' r.length c0',5,1,nums .u8 r⟩] [])
theorem Kp.calls {vp0:Value} {a0:Ci} {a1:Bool} {a2:Li} {a3:Li} {r:Li} (hr2:Rd w (.slice Ap2 np2 cp2) (nums .u8 a2)) (hr3:Rd w (.slice Ap3 np3 cp3) (nums .u8 a3)) (hp0:(rPtr Rs_cipher_Cipher) Zp0 vp0 a0) (hZp0: ∀W,Kept w W→Zp0 W) (h:Kp.f k a0 a1 a2 a3=some r):Calls prog 118 #[vp0,.bool a1,(.slice Ap2 np2 cp2),(.slice Ap3 np3 cp3)] w (Ret (Kp.R r w)):=by
 obtain rfl:=hr2.ln
 obtain rfl:=hr3.ln
 obtain ⟨gp0,_,rfl,hco1,_,uo1_1,rfl,rfl,ho1_1⟩:=id hp0
 unfold Kp.f at h
 refine calls_S func118 ?_
 have M:=Mem.r0 w
 refine .gq 7 ?_
 obtain ⟨t3,ht3,h⟩:=bs h
 refine .ca (Qy.calls hp0 (zp M hZp0) ht3) ?_
 rintro _ W2 ⟨rfl,M_⟩
 replace M:=M.cg M_
 refine .gq 11<| .at (show RL 118 f118 (Kp.R r w) [1,1,1,0] [(0,.pt gp0),(1,.bool a1),(2,.slice Ap2 a2.length cp2),(3,.slice Ap3 a3.length cp3),(9,.i t3),(10,.i (I64 ((a3.length:Int)-t3)))] _ from .dr [] M fun W4 M=> ?_)
 refine .pz tr [0,1] ?_
 obtain ⟨c5,h⟩:=ifd h
 obtain ⟨c6,h⟩:=ifd h
 refine .ct tr 2 0 (I64 ((a3.length:Int)-t3)) (hr3.mono M.below) fun A7 c8 hs9=> .pz tr [3,4] ?_
 obtain ⟨c10,h⟩:=ifd h
 obtain ⟨c11,h⟩:=ifd h
 refine .ct tr 5 (I64 ((a3.length:Int)-t3)) (a3.length:Int) (hr3.mono M.below) fun A12 c13 hs14=> .pz tr [6,7]<| .dn tr<| .gq 5 ?_
 rcases ift h with ⟨c15,h⟩ | ⟨c15,h⟩
 ·refine .kn 30 c15<| .gq 1<| .at (show RL 118 f118 (Kp.R r w) [1,1,1,1,0,1,0] [(0,.pt gp0),(2,.slice Ap2 a2.length cp2),(3,.slice Ap3 a3.length cp3),(9,.i t3),(10,.i (I64 ((a3.length:Int)-t3)))] _ from .dr [] M fun W16 M=> ?_)
  refine .pz tr [0,1] ?_
  obtain ⟨c17,h⟩:=ifd h
  obtain ⟨c18,h⟩:=ifd h
  refine .ct tr 2 0 t3 (hr3.mono M.below) fun A19 c20 hs21=> .pz tr [3,4] ?_
  obtain ⟨c22,h⟩:=ifd h
  obtain ⟨c23,h⟩:=ifd h
  refine .ct tr 5 t3 (a3.length:Int) (hr3.mono M.below) fun A24 c25 hs26=> .pz tr [6,7]<| .dn tr<| .gq 4 ?_
  obtain ⟨t28,ht28,h⟩:=bs h
  refine .ca (Qw.calls (hs21 _ (hr3.mono M.below)) hp0 (zp M hZp0) ht28) ?_
  rintro _ W27 ⟨A29,c30,rfl,M_⟩
  replace M:=M.cg M_
  refine .gq 10 ?_
  obtain ⟨c32,h⟩:=ifd h
  obtain ⟨c33,h⟩:=ifd h
  refine .ct 0 (I64 ((a3.length:Int)-t3)) (M.or 0) fun A34 c35 hs36=> .gq 1 ?_
  obtain ⟨t38,ht38,h⟩:=bs h
  refine .ca (Kr.calls (hs36 _ (M.or 0)) (hs26 _ (hr3.mono M.below)) ht38) ?_
  rintro _ W37 ⟨A39,c40,rfl,M_⟩
  replace M:=M.cg M_
  refine .gq 8 ?_
  obtain ⟨c42,h⟩:=ifd h
  obtain ⟨c43,h⟩:=ifd h
  refine .ct (I64 ((a3.length:Int)-t3)) (t28.1.length:Int) (M.or 1) fun A44 c45 hs46=> ?_
  obtain ⟨Fq47,hfq47,M⟩:=M.fs 1
  have hqq48:Each2 ((rNums .u8) (andZ (Kept w) (Oks Fq47))) [.slice A24 (((a3.take ((a3.length:Int):Int).toNat).drop (t3:Int).toNat).length) c25,.slice A44 (((t28.1.take ((t28.1.length:Int):Int).toNat).drop (I64 ((a3.length:Int)-t3):Int).toNat).length) c45] ([((a3.take ((a3.length:Int):Int).toNat).drop (t3:Int).toNat),((t28.1.take ((t28.1.length:Int):Int).toNat).drop (I64 ((a3.length:Int)-t3):Int).toNat)]:Lj):=(.cons (rno (RdF.up (RdF.of_rd (hs26 _ hr3)) (fun _ z=>z.1)) (ai M.kept (M.oks 0))) (.cons (rno (RdF.up (fun _ z=>hs46 _ (hfq47 _ z)) (fun _ z=>z.2)) (ai M.kept (M.oks 0))) (Each2.nil _)))
  refine .new 22 1 2 ([.slice A24 (((a3.take ((a3.length:Int):Int).toNat).drop (t3:Int).toNat).length) c25,.slice A44 (((t28.1.take ((t28.1.length:Int):Int).toNat).drop (I64 ((a3.length:Int)-t3):Int).toNat).length) c45]) M (fun g49 W50 M=> ?_) rfl
  obtain ⟨Fq52,hfq52,M⟩:=M.fs 0
  obtain ⟨t54,ht54,h⟩:=bs h
  refine .ca (Y3.calls ⟨_,_,_,rfl,(hfq52.up (fun _ z=>z.1)),(Each2.up (up_nums .u8) hqq48 (fun _ z=>(ai z.2.1 z.2.2)))⟩ (fun _ z=>(ai ((M.oks 0).kept z) (ai (M.kept.trans z) ((M.oks 1).kept z)))) ht54) ?_
  rintro _ W53 ⟨A55,c56,rfl,M_⟩
  replace M:=M.cg M_
  obtain ⟨t59,ht59,h⟩:=bs h
  refine .ca (Qw.calls (M.or 0) hp0 (zp M hZp0) ht59) ?_
  rintro _ W58 ⟨A60,c61,rfl,M_⟩
  replace M:=M.cg M_
  refine .gq 10 ?_
  obtain ⟨t64,ht64,h⟩:=bs h
  refine .ca (Kr.calls (M.or 0) (hr2.mono M.below) ht64) ?_
  rintro _ W63 ⟨A65,c66,rfl,M_⟩
  replace M:=M.cg M_
  refine .gq 1 ?_
  obtain ⟨Fq68,hfq68,M⟩:=M.fs 0
  obtain ⟨Fq69,hfq69,M⟩:=M.fs 2
  have hqq70:Each2 ((rNums .u8) (andZ (Oks Fq68) (Oks Fq69))) [.slice A65 t64.length c66,.slice A39 t38.length c40] ([t64,t38]:Lj):=(.cons (rno (RdF.up hfq68 (fun _ z=>z.1)) (ai (M.oks 1) (M.oks 0))) (.cons (rno (RdF.up hfq69 (fun _ z=>z.2)) (ai (M.oks 1) (M.oks 0))) (Each2.nil _)))
  refine .new 22 1 2 ([.slice A65 t64.length c66,.slice A39 t38.length c40]) M (fun g71 W72 M=> ?_) rfl
  obtain ⟨Fq74,hfq74,M⟩:=M.fs 0
  obtain ⟨t76,ht76,h⟩:=bs h
  refine .ca (Y3.calls ⟨_,_,_,rfl,(hfq74.up (fun _ z=>z.1)),(Each2.up (up_nums .u8) hqq70 (fun _ z=>(ai z.2.1 z.2.2)))⟩ (fun _ z=>(ai ((M.oks 0).kept z) (ai ((M.oks 2).kept z) ((M.oks 1).kept z)))) ht76) ?_
  rintro _ W75 ⟨A77,c78,rfl,M_⟩
  replace M:=M.cg M_
  refine .gq 2 ?_
  obtain rfl:=sj h
  exact .ret func118 ⟨A77,c78,rfl,(M.pm [0] [])⟩
 refine .kn 30 c15<| .gq 6 ?_
 obtain ⟨t81,ht81,h⟩:=bs h
 refine .ca (Qw.calls (hs14 _ (hr3.mono M.below)) hp0 (zp M hZp0) ht81) ?_
 rintro _ W80 ⟨A82,c83,rfl,M_⟩
 replace M:=M.cg M_
 refine .gq 10 ?_
 obtain ⟨c85,h⟩:=ifd h
 obtain ⟨c86,h⟩:=ifd h
 refine .ct 0 (I64 ((a3.length:Int)-t3)) (M.or 0) fun A87 c88 hs89=> .gq 1 ?_
 obtain ⟨t91,ht91,h⟩:=bs h
 refine .ca (Kr.calls (hs89 _ (M.or 0)) (hs9 _ (hr3.mono M.below)) ht91) ?_
 rintro _ W90 ⟨A92,c93,rfl,M_⟩
 replace M:=M.cg M_
 refine .gq 8 ?_
 obtain ⟨c95,h⟩:=ifd h
 obtain ⟨c96,h⟩:=ifd h
 refine .ct (I64 ((a3.length:Int)-t3)) (t81.1.length:Int) (M.or 1) fun A97 c98 hs99=> ?_
 obtain ⟨Fq100,hfq100,M⟩:=M.fs 1
 have hqq101:Each2 ((rNums .u8) (andZ (Kept w) (Oks Fq100))) [.slice A7 (((a3.take (I64 ((a3.length:Int)-t3):Int).toNat).drop (0:Int).toNat).length) c8,.slice A97 (((t81.1.take ((t81.1.length:Int):Int).toNat).drop (I64 ((a3.length:Int)-t3):Int).toNat).length) c98] ([((a3.take (I64 ((a3.length:Int)-t3):Int).toNat).drop (0:Int).toNat),((t81.1.take ((t81.1.length:Int):Int).toNat).drop (I64 ((a3.length:Int)-t3):Int).toNat)]:Lj):=(.cons (rno (RdF.up (RdF.of_rd (hs9 _ hr3)) (fun _ z=>z.1)) (ai M.kept (M.oks 0))) (.cons (rno (RdF.up (fun _ z=>hs99 _ (hfq100 _ z)) (fun _ z=>z.2)) (ai M.kept (M.oks 0))) (Each2.nil _)))
 refine .new 22 1 2 ([.slice A7 (((a3.take (I64 ((a3.length:Int)-t3):Int).toNat).drop (0:Int).toNat).length) c8,.slice A97 (((t81.1.take ((t81.1.length:Int):Int).toNat).drop (I64 ((a3.length:Int)-t3):Int).toNat).length) c98]) M (fun g102 W103 M=> ?_) rfl
 obtain ⟨Fq105,hfq105,M⟩:=M.fs 0
 obtain ⟨t107,ht107,h⟩:=bs h
 refine .ca (Y3.calls ⟨_,_,_,rfl,(hfq105.up (fun _ z=>z.1)),(Each2.up (up_nums .u8) hqq101 (fun _ z=>(ai z.2.1 z.2.2)))⟩ (fun _ z=>(ai ((M.oks 0).kept z) (ai (M.kept.trans z) ((M.oks 1).kept z)))) ht107) ?_
 rintro _ W106 ⟨A108,c109,rfl,M_⟩
 replace M:=M.cg M_
 obtain ⟨t112,ht112,h⟩:=bs h
 refine .ca (Qw.calls (M.or 0) hp0 (zp M hZp0) ht112) ?_
 rintro _ W111 ⟨A113,c114,rfl,M_⟩
 replace M:=M.cg M_
 refine .gq 10 ?_
 obtain ⟨t117,ht117,h⟩:=bs h
 refine .ca (Kr.calls (M.or 0) (hr2.mono M.below) ht117) ?_
 rintro _ W116 ⟨A118,c119,rfl,M_⟩
 replace M:=M.cg M_
 refine .gq 1 ?_
 obtain ⟨Fq121,hfq121,M⟩:=M.fs 0
 obtain ⟨Fq122,hfq122,M⟩:=M.fs 2
 have hqq123:Each2 ((rNums .u8) (andZ (Oks Fq121) (Oks Fq122))) [.slice A118 t117.length c119,.slice A92 t91.length c93] ([t117,t91]:Lj):=(.cons (rno (RdF.up hfq121 (fun _ z=>z.1)) (ai (M.oks 1) (M.oks 0))) (.cons (rno (RdF.up hfq122 (fun _ z=>z.2)) (ai (M.oks 1) (M.oks 0))) (Each2.nil _)))
 refine .new 22 1 2 ([.slice A118 t117.length c119,.slice A92 t91.length c93]) M (fun g124 W125 M=> ?_) rfl
 obtain ⟨Fq127,hfq127,M⟩:=M.fs 0
 obtain ⟨t129,ht129,h⟩:=bs h
 refine .ca (Y3.calls ⟨_,_,_,rfl,(hfq127.up (fun _ z=>z.1)),(Each2.up (up_nums .u8) hqq123 (fun _ z=>(ai z.2.1 z.2.2)))⟩ (fun _ z=>(ai ((M.oks 0).kept z) (ai ((M.oks 2).kept z) ((M.oks 1).kept z)))) ht129) ?_
 rintro _ W128 ⟨A130,c131,rfl,M_⟩
 replace M:=M.cg M_
 refine .gq 2 ?_
 obtain rfl:=sj h
 exact .ret func118 ⟨A130,c131,rfl,(M.pm [0] [])⟩
def Kq.f (k:Nat) (a0:Ci) (a1:Bool) (a2:Li) (a3:Li):Option Li:=(Qy.f k a0).bind fun t3=>(gd (0≤t3) (gd (t3≤(a3.length:Int)) ((Kr.f k ((a3.take (t3:Int).toNat).drop (0:Int).toNat) a2).bind fun t10=>((Qx.f k a0 t10).bind fun t15=>(gd (0≤t3) (gd (t3≤(a3.length:Int)) ((Kr.f k ((a3.take ((a3.length:Int):Int).toNat).drop (t3:Int).toNat) t15.1).bind fun t25=>((Qx.f k a0 t25).bind fun t30=>(gd (0≤(I64 ((a3.length:Int)-t3))) (gd ((I64 ((a3.length:Int)-t3))≤(t15.1.length:Int)) (if a1=true then ((Y3.f k ([t30.1,((t15.1.take (I64 ((a3.length:Int)-t3):Int).toNat).drop (0:Int).toNat)]:Lj)).bind fun t48=>(some t48)) else ((Y3.f k ([((t15.1.take (I64 ((a3.length:Int)-t3):Int).toNat).drop (0:Int).toNat),t30.1]:Lj)).bind fun t60=>(some t60)))))))))))))
theorem Kq.calls {vp0:Value} {a0:Ci} {a1:Bool} {a2:Li} {a3:Li} {r:Li} (hr2:Rd w (.slice Ap2 np2 cp2) (nums .u8 a2)) (hr3:Rd w (.slice Ap3 np3 cp3) (nums .u8 a3)) (hp0:(rPtr Rs_cipher_Cipher) Zp0 vp0 a0) (hZp0: ∀W,Kept w W→Zp0 W) (h:Kq.f k a0 a1 a2 a3=some r):Calls prog 119 #[vp0,.bool a1,(.slice Ap2 np2 cp2),(.slice Ap3 np3 cp3)] w (Ret fun v w'=> ∃A0' c0',v= .slice A0' r.length c0'∧Mem w w' (Gs [⟨.slice A0' r.length c0',5,1,nums .u8 r⟩] [])):=by
 obtain rfl:=hr2.ln
 obtain rfl:=hr3.ln
 obtain ⟨gp0,_,rfl,hco1,_,uo1_1,rfl,rfl,ho1_1⟩:=id hp0
 unfold Kq.f at h
 refine calls_S func119 ?_
 have M:=Mem.r0 w
 refine .gq 7 ?_
 obtain ⟨t3,ht3,h⟩:=bs h
 refine .ca (Qy.calls hp0 (zp M hZp0) ht3) ?_
 rintro _ W2 ⟨rfl,M_⟩
 replace M:=M.cg M_
 refine .gq 7 ?_
 obtain ⟨c4,h⟩:=ifd h
 obtain ⟨c5,h⟩:=ifd h
 refine .ct 0 t3 (hr3.mono M.below) fun A6 c7 hs8=> .gq 1 ?_
 obtain ⟨t10,ht10,h⟩:=bs h
 refine .ca (Kr.calls (hs8 _ (hr3.mono M.below)) (hr2.mono M.below) ht10) ?_
 rintro _ W9 ⟨A11,c12,rfl,M_⟩
 replace M:=M.cg M_
 obtain ⟨t15,ht15,h⟩:=bs h
 refine .ca (Qx.calls (M.or 0) hp0 (zp M hZp0) ht15) ?_
 rintro _ W14 ⟨A16,c17,rfl,M_⟩
 replace M:=M.cg M_
 refine .gq 11 ?_
 obtain ⟨c19,h⟩:=ifd h
 obtain ⟨c20,h⟩:=ifd h
 refine .ct t3 (a3.length:Int) (hr3.mono M.below) fun A21 c22 hs23=> .gq 1 ?_
 obtain ⟨t25,ht25,h⟩:=bs h
 refine .ca (Kr.calls (hs23 _ (hr3.mono M.below)) (M.or 0) ht25) ?_
 rintro _ W24 ⟨A26,c27,rfl,M_⟩
 replace M:=M.cg M_
 obtain ⟨t30,ht30,h⟩:=bs h
 refine .ca (Qx.calls (M.or 0) hp0 (zp M hZp0) ht30) ?_
 rintro _ W29 ⟨A31,c32,rfl,M_⟩
 replace M:=M.cg M_
 refine .gq 13 ?_
 obtain ⟨c34,h⟩:=ifd h
 obtain ⟨c35,h⟩:=ifd h
 refine .ct 0 (I64 ((a3.length:Int)-t3)) (M.or 2) fun A36 c37 hs38=> .gq 7 ?_
 rcases ift h with ⟨c39,h⟩ | ⟨c39,h⟩
 ·refine .kn 42 c39<| .gq 11 ?_
  obtain ⟨Fq40,hfq40,M⟩:=M.fs 0
  obtain ⟨Fq41,hfq41,M⟩:=M.fs 1
  have hqq42:Each2 ((rNums .u8) (andZ (Oks Fq40) (Oks Fq41))) [.slice A31 t30.1.length c32,.slice A36 (((t15.1.take (I64 ((a3.length:Int)-t3):Int).toNat).drop (0:Int).toNat).length) c37] ([t30.1,((t15.1.take (I64 ((a3.length:Int)-t3):Int).toNat).drop (0:Int).toNat)]:Lj):=(.cons (rno (RdF.up hfq40 (fun _ z=>z.1)) (ai (M.oks 1) (M.oks 0))) (.cons (rno (RdF.up (fun _ z=>hs38 _ (hfq41 _ z)) (fun _ z=>z.2)) (ai (M.oks 1) (M.oks 0))) (Each2.nil _)))
  refine .new 22 1 2 ([.slice A31 t30.1.length c32,.slice A36 (((t15.1.take (I64 ((a3.length:Int)-t3):Int).toNat).drop (0:Int).toNat).length) c37]) M (fun g43 W44 M=> ?_) rfl
  obtain ⟨Fq46,hfq46,M⟩:=M.fs 0
  obtain ⟨t48,ht48,h⟩:=bs h
  refine .ca (Y3.calls ⟨_,_,_,rfl,(hfq46.up (fun _ z=>z.1)),(Each2.up (up_nums .u8) hqq42 (fun _ z=>(ai z.2.1 z.2.2)))⟩ (fun _ z=>(ai ((M.oks 0).kept z) (ai ((M.oks 2).kept z) ((M.oks 1).kept z)))) ht48) ?_
  rintro _ W47 ⟨A49,c50,rfl,M_⟩
  replace M:=M.cg M_
  refine .gq 2 ?_
  obtain rfl:=sj h
  exact .ret func119 ⟨A49,c50,rfl,(M.pm [0] [])⟩
 refine .kn 42 c39<| .gq 6 ?_
 obtain ⟨Fq52,hfq52,M⟩:=M.fs 2
 obtain ⟨Fq53,hfq53,M⟩:=M.fs 0
 have hqq54:Each2 ((rNums .u8) (andZ (Oks Fq52) (Oks Fq53))) [.slice A36 (((t15.1.take (I64 ((a3.length:Int)-t3):Int).toNat).drop (0:Int).toNat).length) c37,.slice A31 t30.1.length c32] ([((t15.1.take (I64 ((a3.length:Int)-t3):Int).toNat).drop (0:Int).toNat),t30.1]:Lj):=(.cons (rno (RdF.up (fun _ z=>hs38 _ (hfq52 _ z)) (fun _ z=>z.1)) (ai (M.oks 1) (M.oks 0))) (.cons (rno (RdF.up hfq53 (fun _ z=>z.2)) (ai (M.oks 1) (M.oks 0))) (Each2.nil _)))
 refine .new 22 1 2 ([.slice A36 (((t15.1.take (I64 ((a3.length:Int)-t3):Int).toNat).drop (0:Int).toNat).length) c37,.slice A31 t30.1.length c32]) M (fun g55 W56 M=> ?_) rfl
 obtain ⟨Fq58,hfq58,M⟩:=M.fs 0
 obtain ⟨t60,ht60,h⟩:=bs h
 refine .ca (Y3.calls ⟨_,_,_,rfl,(hfq58.up (fun _ z=>z.1)),(Each2.up (up_nums .u8) hqq54 (fun _ z=>(ai z.2.1 z.2.2)))⟩ (fun _ z=>(ai ((M.oks 0).kept z) (ai ((M.oks 2).kept z) ((M.oks 1).kept z)))) ht60) ?_
 rintro _ W59 ⟨A61,c62,rfl,M_⟩
 replace M:=M.cg M_
 refine .gq 2 ?_
 obtain rfl:=sj h
 exact .ret func119 ⟨A61,c62,rfl,(M.pm [0] [])⟩
def Ks.f (k:Nat) (a0:Int) (a1:Bool):Option (Bool×Bool):=if (a0==9)=true then (some (true,true)) else (if (a0==7)=true then (some (false,true)) else (if (a0==8)=true then (some (!a1,true)) else (some (false,false))))
theorem Ks.calls {a0:Int} {a1:Bool} {r:Bool×Bool} (h:Ks.f k a0 a1=some r):Calls prog 117 #[.i a0,.bool a1] w (Ret fun v w'=>v= .tuple #[.bool r.1,.bool r.2]∧Mem w w' (Gs [] [])):=by
 unfold Ks.f at h
 refine calls_S func117 ?_
 have M:=Mem.r0 w
 refine .gq 24 ?_
 rcases ift h with ⟨c1,h⟩ | ⟨c1,h⟩
 ·refine .kn 7 c1<| .gq 13 ?_
  obtain rfl:=sj h
  exact .ret func117 ⟨rfl,(M.pm [] [])⟩
 refine .kn 7 c1<| .gq 8 ?_
 rcases ift h with ⟨c2,h⟩ | ⟨c2,h⟩
 ·refine .kn 9 c2<| .gq 9 ?_
  obtain rfl:=sj h
  exact .ret func117 ⟨rfl,(M.pm [] [])⟩
 refine .kn 9 c2<| .gq 7 ?_
 rcases ift h with ⟨c3,h⟩ | ⟨c3,h⟩
 ·refine .kn 11 c3<| .gq 10 ?_
  obtain rfl:=sj h
  exact .ret func117 ⟨rfl,(M.pm [] [])⟩
 refine .kn 11 c3<| .gq 8 ?_
 obtain rfl:=sj h
 exact .ret func117 ⟨rfl,(M.pm [] [])⟩
def Ko.l0:Nat→Ci→Bool→Li→Int→(Bool×Bool)→Li→Option (Li×Int)
 | 0,_,_,_,_,_,_=>none
 | k+1,a0,a2,a3,t3,t5,x4_0=>if ((x4_0.length:Int)==t3)=true then (if a2=true then ((Qw.f k a0 x4_0).bind fun t17=>((Jd.f k t17.1 a3).bind fun t22=>(some (t22.1,0)))) else ((Jd.f k x4_0 a3).bind fun t27=>((Qx.f k a0 t27.1).bind fun t32=>(if ((t32.1.length:Int)==t3)=true then (some (t32.1,0)) else (if a2=true then ((Kp.f k a0 t5.1 a3 t32.1).bind fun t39=>(some (t39,0))) else ((Kq.f k a0 t5.1 a3 t32.1).bind fun t44=>(some (t44,0)))))))) else (if ((x4_0.length:Int)==t3)=true then (none) else (if a2=true then ((Kp.f k a0 t5.1 a3 x4_0).bind fun t51=>(some (t51,0))) else ((Kq.f k a0 t5.1 a3 x4_0).bind fun t56=>(some (t56,0)))))
def Ko.f (k:Nat) (a0:Ci) (a1:Int) (a2:Bool) (a3:Li) (a4:Li):Option (Li×Int):=(Qy.f k a0).bind fun t3=>((Ks.f k a1 ((a4.length:Int)==(I64 (2*t3)))).bind fun t5=>(if (!t5.2)=true then (some (([]:Li),3)) else (if ((a3.length:Int) != t3)=true then (some (([]:Li),5)) else (if (decide ((a4.length:Int)<t3))=true then (some (([]:Li),7)) else (if (decide ((a4.length:Int)>(I64 (2*t3))))=true then (some (([]:Li),7)) else (Ko.l0 k a0 a2 a3 t3 t5 a4))))))
abbrev Ko.R (r:Li×Int) (w:World):Value→World→Prop:=fun v w'=> ∃A0' c0',v= .tuple #[.slice A0' r.1.length c0',.i r.2]∧Mem w w' (Gs [⟨.slice A0' r.1.length c0',5,1,nums .u8 r.1⟩] [])
theorem Ko.calls {vp0:Value} {a0:Ci} {a1:Int} {a2:Bool} {a3:Li} {a4:Li} {r:Li×Int} (hr3:Rd w (.slice Ap3 np3 cp3) (nums .u8 a3)) (hr4:Rd w (.slice Ap4 np4 cp4) (nums .u8 a4)) (hp0:(rPtr Rs_cipher_Cipher) Zp0 vp0 a0) (hZp0: ∀W,Kept w W→Zp0 W) (h:Ko.f k a0 a1 a2 a3 a4=some r):Calls prog 68 #[vp0,.i a1,.bool a2,(.slice Ap3 np3 cp3),(.slice Ap4 np4 cp4)] w (Ret (Ko.R r w)):=by
 obtain rfl:=hr3.ln
 obtain rfl:=hr4.ln
 obtain ⟨gp0,_,rfl,hco1,_,uo1_1,rfl,rfl,ho1_1⟩:=id hp0
 unfold Ko.f at h
 refine calls_S func68 ?_
 have M:=Mem.r0 w
 refine .gq 9 ?_
 obtain ⟨t3,ht3,h⟩:=bs h
 refine .ca (Qy.calls hp0 (zp M hZp0) ht3) ?_
 rintro _ W2 ⟨rfl,M_⟩
 replace M:=M.cg M_
 refine .gq 10 ?_
 obtain ⟨t5,ht5,h⟩:=bs h
 refine .ca (Ks.calls ht5) ?_
 rintro _ W4 ⟨rfl,M_⟩
 replace M:=M.cg M_
 refine .gq 14 ?_
 rcases ift h with ⟨c6,h⟩ | ⟨c6,h⟩
 ·refine .kn 29 c6<| .gq 6 ?_
  replace M:=M.n1 5
  obtain rfl:=sj h
  exact .ret func68 ⟨none,0,rfl,(M.pm [0] [])⟩
 refine .kn 29 c6<| .gq 9 ?_
 rcases ift h with ⟨c8,h⟩ | ⟨c8,h⟩
 ·refine .kn 32 c8<| .gq 6 ?_
  replace M:=M.n1 5
  obtain rfl:=sj h
  exact .ret func68 ⟨none,0,rfl,(M.pm [0] [])⟩
 refine .kn 32 c8<| .gq 10 ?_
 rcases ift h with ⟨c10,h⟩ | ⟨c10,h⟩
 ·refine .kn 37 c10<| .gq 8 ?_
  replace M:=M.n1 5
  obtain rfl:=sj h
  exact .ret func68 ⟨none,0,rfl,(M.pm [0] [])⟩
 refine .kn 37 c10<| .gq 9 ?_
 rcases ift h with ⟨c12,h⟩ | ⟨c12,h⟩
 ·refine .kn 37 c12<| .gq 6 ?_
  replace M:=M.n1 5
  obtain rfl:=sj h
  exact .ret func68 ⟨none,0,rfl,(M.pm [0] [])⟩
 refine .kn 37 c12<| .gq 8 ?_
 have l0: ∀k_≤k,∀(A4_0:Option Addr) (c4_0:Nat) (x4_0:Li) {W:World} (M:Mem w W (Gs [] [])) (hrx4_0:Rd w (.slice A4_0 x4_0.length c4_0) (nums .u8 x4_0)) (h:Ko.l0 k_ a0 a2 a3 t3 t5 x4_0=some r),RL 68 f68 (Ko.R r w) [1,0,1,1,1,1,0,0,0] [(0,.pt gp0),(2,.bool a2),(3,.slice Ap3 a3.length cp3),(4,.slice A4_0 x4_0.length c4_0),(12,.i t3),(13,.bool t5.1)] W:=by
  refine loopI (by intros;rename_i h;simp [Ko.l0] at h) fun k hk ih0 A4_0 c4_0 x4_0 W M hrx4_0 h=> ?_
  simp only [Ko.l0] at h
  refine .gq 8 ?_
  rcases ift h with ⟨c14,h⟩ | ⟨c14,h⟩
  ·refine .kn 50 c14<| .gq 8 ?_
   rcases ift h with ⟨c15,h⟩ | ⟨c15,h⟩
   ·refine .kn 51 c15<| .gq 5 ?_
    obtain ⟨t17,ht17,h⟩:=bs h
    refine .ca (Qw.calls (hrx4_0.mono M.below) hp0 (zp M hZp0) ht17) ?_
    rintro _ W16 ⟨A18,c19,rfl,M_⟩
    replace M:=M.cg M_
    refine .gq 10 ?_
    obtain ⟨t22,ht22,h⟩:=bs h
    refine .ca (Jd.calls (M.or 0) (hr3.mono M.below) ht22) ?_
    rintro _ W21 ⟨A23,c24,rfl,M_⟩
    replace M:=M.cg M_
    refine .gq 11 ?_
    obtain rfl:=sj h
    exact .ret func68 ⟨A23,c24,rfl,(M.pm [0] [])⟩
   refine .kn 51 c15<| .gq 6 ?_
   obtain ⟨t27,ht27,h⟩:=bs h
   refine .ca (Jd.calls (hrx4_0.mono M.below) (hr3.mono M.below) ht27) ?_
   rintro _ W26 ⟨A28,c29,rfl,M_⟩
   replace M:=M.cg M_
   refine .gq 9 ?_
   obtain ⟨t32,ht32,h⟩:=bs h
   refine .ca (Qx.calls (M.or 0) hp0 (zp M hZp0) ht32) ?_
   rintro _ W31 ⟨A33,c34,rfl,M_⟩
   replace M:=M.cg M_
   refine .gq 16 ?_
   rcases ift h with ⟨c36,h⟩ | ⟨c36,h⟩
   ·refine .kn 77 c36<| .gq 7 ?_
    obtain rfl:=sj h
    exact .ret func68 ⟨A33,c34,rfl,(M.pm [0] [])⟩
   refine .kn 77 c36<| .gq 6 ?_
   rcases ift h with ⟨c37,h⟩ | ⟨c37,h⟩
   ·refine .kn 83 c37<| .gq 7 ?_
    obtain ⟨t39,ht39,h⟩:=bs h
    refine .ca (Kp.calls (hr3.mono M.below) (M.or 0) hp0 (zp M hZp0) ht39) ?_
    rintro _ W38 ⟨A40,c41,rfl,M_⟩
    replace M:=M.cg M_
    refine .gq 3 ?_
    obtain rfl:=sj h
    exact .ret func68 ⟨A40,c41,rfl,(M.pm [0] [])⟩
   refine .kn 83 c37<| .gq 9 ?_
   obtain ⟨t44,ht44,h⟩:=bs h
   refine .ca (Kq.calls (hr3.mono M.below) (M.or 0) hp0 (zp M hZp0) ht44) ?_
   rintro _ W43 ⟨A45,c46,rfl,M_⟩
   replace M:=M.cg M_
   refine .gq 3 ?_
   obtain rfl:=sj h
   exact .ret func68 ⟨A45,c46,rfl,(M.pm [0] [])⟩
  refine .kn 50 c14<| .gq 12 ?_
  obtain ⟨c48,h⟩:=ifz h
  refine .kn 77 c48<| .gq 6 ?_
  rcases ift h with ⟨c49,h⟩ | ⟨c49,h⟩
  ·refine .kn 83 c49<| .gq 7 ?_
   obtain ⟨t51,ht51,h⟩:=bs h
   refine .ca (Kp.calls (hr3.mono M.below) (hrx4_0.mono M.below) hp0 (zp M hZp0) ht51) ?_
   rintro _ W50 ⟨A52,c53,rfl,M_⟩
   replace M:=M.cg M_
   refine .gq 3 ?_
   obtain rfl:=sj h
   exact .ret func68 ⟨A52,c53,rfl,(M.pm [0] [])⟩
  refine .kn 83 c49<| .gq 9 ?_
  obtain ⟨t56,ht56,h⟩:=bs h
  refine .ca (Kq.calls (hr3.mono M.below) (hrx4_0.mono M.below) hp0 (zp M hZp0) ht56) ?_
  rintro _ W55 ⟨A57,c58,rfl,M_⟩
  replace M:=M.cg M_
  refine .gq 3 ?_
  obtain rfl:=sj h
  exact .ret func68 ⟨A57,c58,rfl,(M.pm [0] [])⟩
 exact .at (l0 k k.le_refl Ap4 cp4 a4 (M.pm [] []) hr4 h)
end Go.Scr.S

namespace Go.Scr.S
variable {k np0 cp0 np1 cp1 np2 cp2 np3 cp3 np4 cp4:Nat} {Ap0 Ap1 Ap2 Ap3 Ap4:Option Addr} {w w0:World} {FT:List Ent} {Zm Zp0 Zp1 Zp2 Zp3:Zp}
open Go.RowKit (Below)
open Go.Proofs.Tryz (prog f26 func26 f27 func27 f43 func43)
def Yw.f (k:Nat) (a0:Int):Option (Int):=if (a0==1)=true then (some 1) else (if (a0==2)=true then (some 1) else (if (a0==3)=true then (some 2) else (if (a0==4)=true then (some 2) else (if (a0==5)=true then (some 2) else (if (a0==6)=true then (some 2) else (if (a0==7)=true then (some 3) else (if (a0==8)=true then (some 3) else (if (a0==9)=true then (some 3) else (some 0)))))))))
theorem Yw.calls {a0:Int} {r:Int} (h:Yw.f k a0=some r):Calls prog 27 #[.i a0] w (Ret fun v w'=>v= .i r∧Mem w w' (Gs [] [])):=by
 unfold Yw.f at h
 refine calls_S func27 ?_
 have M:=Mem.r0 w
 refine .gq 25 ?_
 rcases ift h with ⟨c1,h⟩ | ⟨c1,h⟩
 ·refine .kn 4 c1<| .gq 9 ?_
  obtain rfl:=sj h
  exact .ret func27 ⟨rfl,(M.pm [] [])⟩
 refine .kn 4 c1<| .gq 5 ?_
 rcases ift h with ⟨c2,h⟩ | ⟨c2,h⟩
 ·refine .kn 4 c2<| .gq 7 ?_
  obtain rfl:=sj h
  exact .ret func27 ⟨rfl,(M.pm [] [])⟩
 refine .kn 4 c2<| .gq 8 ?_
 rcases ift h with ⟨c3,h⟩ | ⟨c3,h⟩
 ·refine .kn 7 c3<| .gq 8 ?_
  obtain rfl:=sj h
  exact .ret func27 ⟨rfl,(M.pm [] [])⟩
 refine .kn 7 c3<| .gq 9 ?_
 rcases ift h with ⟨c4,h⟩ | ⟨c4,h⟩
 ·refine .kn 9 c4<| .gq 9 ?_
  obtain rfl:=sj h
  exact .ret func27 ⟨rfl,(M.pm [] [])⟩
 refine .kn 9 c4<| .gq 6 ?_
 rcases ift h with ⟨c5,h⟩ | ⟨c5,h⟩
 ·refine .kn 9 c5<| .gq 9 ?_
  obtain rfl:=sj h
  exact .ret func27 ⟨rfl,(M.pm [] [])⟩
 refine .kn 9 c5<| .gq 5 ?_
 rcases ift h with ⟨c6,h⟩ | ⟨c6,h⟩
 ·refine .kn 9 c6<| .gq 7 ?_
  obtain rfl:=sj h
  exact .ret func27 ⟨rfl,(M.pm [] [])⟩
 refine .kn 9 c6<| .gq 8 ?_
 rcases ift h with ⟨c7,h⟩ | ⟨c7,h⟩
 ·refine .kn 13 c7<| .gq 9 ?_
  obtain rfl:=sj h
  exact .ret func27 ⟨rfl,(M.pm [] [])⟩
 refine .kn 13 c7<| .gq 6 ?_
 rcases ift h with ⟨c8,h⟩ | ⟨c8,h⟩
 ·refine .kn 13 c8<| .gq 9 ?_
  obtain rfl:=sj h
  exact .ret func27 ⟨rfl,(M.pm [] [])⟩
 refine .kn 13 c8<| .gq 5 ?_
 rcases ift h with ⟨c9,h⟩ | ⟨c9,h⟩
 ·refine .kn 13 c9<| .gq 7 ?_
  obtain rfl:=sj h
  exact .ret func27 ⟨rfl,(M.pm [] [])⟩
 refine .kn 13 c9<| .gq 7 ?_
 obtain rfl:=sj h
 exact .ret func27 ⟨rfl,(M.pm [] [])⟩
def Yx.f (k:Nat) (a0:Int×Int×Int×Bool) (a1:Li) (a2:Li):Option (Option Ci×Int):=(Q1.f k a0.1 a1).bind fun t5=>(if (t5.2 != 0)=true then (some (none,t5.2)) else ((Yw.f k a0.2.1).bind fun t8=>((t5.1).bind fun s9=>((Qy.f k s9).bind fun t13=>(if (a0.2.1==1)=true then (if (t8==0)=true then (some (none,3)) else (if (decide (a0.2.2.1<1))=true then (some (none,3)) else (if (decide (a0.2.2.1>4))=true then (some (none,3)) else (if (a0.2.2.1 != 4)=true then (if (t8 != 1)=true then (some (none,3)) else (if ((a2.length:Int) != 0)=true then (some (none,5)) else (some ((some s9),0)))) else (if ((a2.length:Int) != 0)=true then (some (none,5)) else (some ((some s9),0))))))) else (if (t8==0)=true then (some (none,3)) else (if (decide (a0.2.2.1<1))=true then (some (none,3)) else (if (decide (a0.2.2.1>4))=true then (some (none,3)) else (if (a0.2.2.1 != 4)=true then (if (t8 != 1)=true then (some (none,3)) else (if ((a2.length:Int) != t13)=true then (some (none,5)) else (some ((some s9),0)))) else (if ((a2.length:Int) != t13)=true then (some (none,5)) else (some ((some s9),0))))))))))))
theorem Yx.calls {a0:Int×Int×Int×Bool} {a1:Li} {a2:Li} {r:Option Ci×Int} (hr1:Rd w (.slice Ap1 np1 cp1) (nums .u8 a1)) (hr2:Rd w (.slice Ap2 np2 cp2) (nums .u8 a2)) (hG1:Rg w 1 (nums .u8 [1,2,4,8,16,32,64,128])) (h:Yx.f k a0 a1 a2=some r):Calls prog 26 #[.agg #[.i a0.1,.i a0.2.1,.i a0.2.2.1,.bool a0.2.2.2],(.slice Ap1 np1 cp1),(.slice Ap2 np2 cp2)] w (Ret fun v w'=> ∃(v0':Value) (F0':List Ent),v= .tuple #[v0',.i r.2]∧(rOpt (rPtr Rs_cipher_Cipher)) (Oks F0') v0' r.1∧Mem w w' (Gs [] [F0'])):=by
 obtain rfl:=hr1.ln
 obtain rfl:=hr2.ln
 unfold Yx.f at h
 refine calls_S func26 ?_
 have M:=Mem.r0 w
 refine .gq 2<| .nw 27 ([.i a0.1,.i a0.2.1,.i a0.2.2.1,.bool a0.2.2.2]) M fun g1 W2 M=> .gq 6<| .lv M 0 rfl 0 rfl<| .gq 1 ?_
 obtain ⟨t5,ht5,h⟩:=bs h
 refine .ca (Q1.calls (hr1.mono M.below) (hG1.mono M.below) ht5) ?_
 rintro _ W4 ⟨vt5_0,Ft5_0,rfl,hRt5_0,M_⟩
 replace M:=M.cg M_
 refine .gq 12 ?_
 rcases ift h with ⟨c6,h⟩ | ⟨c6,h⟩
 ·refine .kn 20 c6<| .gq 7 ?_
  obtain rfl:=sj h
  exact .ret func26 ⟨.pointer none,([]:List Ent),rfl,(.inl ⟨rfl,rfl⟩),(M.pm [] [[]])⟩
 refine .kn 20 c6<| .gq 5<| .lv M 0 rfl 1 rfl ?_
 obtain ⟨t8,ht8,h⟩:=bs h
 refine .ca (Yw.calls ht8) ?_
 rintro _ W7 ⟨rfl,M_⟩
 replace M:=M.cg M_
 refine .gq 1 ?_
 obtain ⟨s9,hx_,h⟩:=bs h
 have hps9:=rOpt.some hRt5_0 hx_
 obtain ⟨g10,_,rfl,hco11,_,uo11_1,rfl,rfl,ho11_1⟩:=id hps9
 obtain ⟨t13,ht13,h⟩:=bs h
 refine .ca (Qy.calls hps9 (fun _ z=>((M.oks 0).kept z)) ht13) ?_
 rintro _ W12 ⟨rfl,M_⟩
 replace M:=M.cg M_
 refine .gq 7<| .lv M 0 rfl 1 rfl<| .gq 2 ?_
 rcases ift h with ⟨c14,h⟩ | ⟨c14,h⟩
 ·refine .kn 29 c14<| .gq 13 ?_
  rcases ift h with ⟨c15,h⟩ | ⟨c15,h⟩
  ·refine .kn 30 c15<| .gq 8 ?_
   obtain rfl:=sj h
   exact .ret func26 ⟨.pointer none,([]:List Ent),rfl,(.inl ⟨rfl,rfl⟩),(M.pm [] [[]])⟩
  refine .kn 30 c15<| .gq 4<| .lv M 0 rfl 2 rfl<| .gq 3 ?_
  rcases ift h with ⟨c16,h⟩ | ⟨c16,h⟩
  ·refine .kn 30 c16<| .gq 8 ?_
   obtain rfl:=sj h
   exact .ret func26 ⟨.pointer none,([]:List Ent),rfl,(.inl ⟨rfl,rfl⟩),(M.pm [] [[]])⟩
  refine .kn 30 c16<| .gq 4<| .lv M 0 rfl 2 rfl<| .gq 3 ?_
  rcases ift h with ⟨c17,h⟩ | ⟨c17,h⟩
  ·refine .kn 30 c17<| .gq 8 ?_
   obtain rfl:=sj h
   exact .ret func26 ⟨.pointer none,([]:List Ent),rfl,(.inl ⟨rfl,rfl⟩),(M.pm [] [[]])⟩
  refine .kn 30 c17<| .gq 3<| .lv M 0 rfl 2 rfl<| .gq 2 ?_
  rcases ift h with ⟨c18,h⟩ | ⟨c18,h⟩
  ·refine .kn 42 c18<| .gq 5 ?_
   rcases ift h with ⟨c19,h⟩ | ⟨c19,h⟩
   ·refine .kn 30 c19<| .gq 6 ?_
    obtain rfl:=sj h
    exact .ret func26 ⟨.pointer none,([]:List Ent),rfl,(.inl ⟨rfl,rfl⟩),(M.pm [] [[]])⟩
   refine .kn 30 c19<| .gq 9 ?_
   rcases ift h with ⟨c20,h⟩ | ⟨c20,h⟩
   ·refine .kn 46 c20<| .gq 6 ?_
    obtain rfl:=sj h
    exact .ret func26 ⟨.pointer none,([]:List Ent),rfl,(.inl ⟨rfl,rfl⟩),(M.pm [] [[]])⟩
   refine .kn 46 c20<| .gq 9 ?_
   obtain rfl:=sj h
   exact .ret func26 ⟨.pt g10,Ft5_0,rfl,(.inr ⟨s9,rfl,hps9⟩),(M.pm [] [[0]])⟩
  refine .kn 42 c18<| .gq 14 ?_
  rcases ift h with ⟨c21,h⟩ | ⟨c21,h⟩
  ·refine .kn 46 c21<| .gq 6 ?_
   obtain rfl:=sj h
   exact .ret func26 ⟨.pointer none,([]:List Ent),rfl,(.inl ⟨rfl,rfl⟩),(M.pm [] [[]])⟩
  refine .kn 46 c21<| .gq 9 ?_
  obtain rfl:=sj h
  exact .ret func26 ⟨.pt g10,Ft5_0,rfl,(.inr ⟨s9,rfl,hps9⟩),(M.pm [] [[0]])⟩
 refine .kn 29 c14<| .gq 11 ?_
 rcases ift h with ⟨c22,h⟩ | ⟨c22,h⟩
 ·refine .kn 30 c22<| .gq 8 ?_
  obtain rfl:=sj h
  exact .ret func26 ⟨.pointer none,([]:List Ent),rfl,(.inl ⟨rfl,rfl⟩),(M.pm [] [[]])⟩
 refine .kn 30 c22<| .gq 4<| .lv M 0 rfl 2 rfl<| .gq 3 ?_
 rcases ift h with ⟨c23,h⟩ | ⟨c23,h⟩
 ·refine .kn 30 c23<| .gq 8 ?_
  obtain rfl:=sj h
  exact .ret func26 ⟨.pointer none,([]:List Ent),rfl,(.inl ⟨rfl,rfl⟩),(M.pm [] [[]])⟩
 refine .kn 30 c23<| .gq 4<| .lv M 0 rfl 2 rfl<| .gq 3 ?_
 rcases ift h with ⟨c24,h⟩ | ⟨c24,h⟩
 ·refine .kn 30 c24<| .gq 8 ?_
  obtain rfl:=sj h
  exact .ret func26 ⟨.pointer none,([]:List Ent),rfl,(.inl ⟨rfl,rfl⟩),(M.pm [] [[]])⟩
 refine .kn 30 c24<| .gq 3<| .lv M 0 rfl 2 rfl<| .gq 2 ?_
 rcases ift h with ⟨c25,h⟩ | ⟨c25,h⟩
 ·refine .kn 42 c25<| .gq 5 ?_
  rcases ift h with ⟨c26,h⟩ | ⟨c26,h⟩
  ·refine .kn 30 c26<| .gq 6 ?_
   obtain rfl:=sj h
   exact .ret func26 ⟨.pointer none,([]:List Ent),rfl,(.inl ⟨rfl,rfl⟩),(M.pm [] [[]])⟩
  refine .kn 30 c26<| .gq 9 ?_
  rcases ift h with ⟨c27,h⟩ | ⟨c27,h⟩
  ·refine .kn 46 c27<| .gq 6 ?_
   obtain rfl:=sj h
   exact .ret func26 ⟨.pointer none,([]:List Ent),rfl,(.inl ⟨rfl,rfl⟩),(M.pm [] [[]])⟩
  refine .kn 46 c27<| .gq 9 ?_
  obtain rfl:=sj h
  exact .ret func26 ⟨.pt g10,Ft5_0,rfl,(.inr ⟨s9,rfl,hps9⟩),(M.pm [] [[0]])⟩
 refine .kn 42 c25<| .gq 14 ?_
 rcases ift h with ⟨c28,h⟩ | ⟨c28,h⟩
 ·refine .kn 46 c28<| .gq 6 ?_
  obtain rfl:=sj h
  exact .ret func26 ⟨.pointer none,([]:List Ent),rfl,(.inl ⟨rfl,rfl⟩),(M.pm [] [[]])⟩
 refine .kn 46 c28<| .gq 9 ?_
 obtain rfl:=sj h
 exact .ret func26 ⟨.pt g10,Ft5_0,rfl,(.inr ⟨s9,rfl,hps9⟩),(M.pm [] [[0]])⟩
def Yu.f (k:Nat) (a0:Int×Int×Int×Bool) (a1:Li) (a2:Li):Option (Int):=(Yx.f k a0 a1 a2).bind fun t5=>(some t5.2)
theorem Yu.calls {a0:Int×Int×Int×Bool} {a1:Li} {a2:Li} {r:Int} (hr1:Rd w (.slice Ap1 np1 cp1) (nums .u8 a1)) (hr2:Rd w (.slice Ap2 np2 cp2) (nums .u8 a2)) (hG1:Rg w 1 (nums .u8 [1,2,4,8,16,32,64,128])) (h:Yu.f k a0 a1 a2=some r):Calls prog 43 #[.agg #[.i a0.1,.i a0.2.1,.i a0.2.2.1,.bool a0.2.2.2],(.slice Ap1 np1 cp1),(.slice Ap2 np2 cp2)] w (Ret fun v w'=>v= .i r∧Mem w w' (Gs [] [])):=by
 obtain rfl:=hr1.ln
 obtain rfl:=hr2.ln
 unfold Yu.f at h
 refine calls_S func43 ?_
 have M:=Mem.r0 w
 refine .gq 2<| .nw 27 ([.i a0.1,.i a0.2.1,.i a0.2.2.1,.bool a0.2.2.2]) M fun g1 W2 M=> .gq 4<| .y (yl_ldp (g:=g1) (off:=0) 4 [.i a0.1,.i a0.2.1,.i a0.2.2.1,.bool a0.2.2.2] rfl) (fun i_ u_ hu_=>match i_,hu_ with | 0,h_=>(M.var_at 0 rfl (i:=0) (u:=u_) h_).1 | 1,h_=>(M.var_at 0 rfl (i:=1) (u:=u_) h_).1 | 2,h_=>(M.var_at 0 rfl (i:=2) (u:=u_) h_).1 | 3,h_=>(M.var_at 0 rfl (i:=3) (u:=u_) h_).1 | _+4,h_=>by cases h_)<| .gq 2 ?_
 obtain ⟨t5,ht5,h⟩:=bs h
 refine .ca (Yx.calls (hr1.mono M.below) (hr2.mono M.below) (hG1.mono M.below) ht5) ?_
 rintro _ W4 ⟨vt5_0,Ft5_0,rfl,hRt5_0,M_⟩
 replace M:=M.cg M_
 refine .gq 11 ?_
 obtain rfl:=sj h
 exact .ret func43 ⟨rfl,(M.pm [] [])⟩
end Go.Scr.S

namespace Go.Scr.S
variable {k np0 cp0 np1 cp1 np2 cp2 np3 cp3 np4 cp4:Nat} {Ap0 Ap1 Ap2 Ap3 Ap4:Option Addr} {w w0:World} {FT:List Ent} {Zm Zp0 Zp1 Zp2 Zp3:Zp}
open Go.RowKit (Below)
open Go.Proofs.Tryz (prog f74 func74)
def Rs_modes_Mode (Z:Zp) (cs:List Value) (x:Mo):Prop:= ∃(u0:Value) (u1:Value) (u2:Value) (u3:Value) (u4:Value) (u5:Value),cs=[u0,u1,u2,u3,u4,u5]∧(rOpt (rPtr Rs_cipher_Cipher)) Z u0 x.1∧(rInt .i64) Z u1 x.2.1∧rBool Z u2 x.2.2.1∧(rNums .u8) Z u3 x.2.2.2.1∧(rNums .u8) Z u4 x.2.2.2.2.1
theorem up_Rs_modes_Mode (Z Y:Zp) (cs:List Value) (x:Mo) (hs: ∀W,Y W→Z W):Rs_modes_Mode Z cs x→Rs_modes_Mode Y cs x:=fun ⟨u0,u1,u2,u3,u4,u5,e,h0,h1,h2,h3,h4⟩=>⟨u0,u1,u2,u3,u4,u5,e,upc _ _ _ _ hs h0,(up_int .i64) _ _ _ _ hs h1,up_bool _ _ _ _ hs h2,upn hs h3,upn hs h4⟩
def V6.f (k:Nat) (a0:Mo) (a1:Li):Option (Li×Mo):=if (a0.2.1==1)=true then (if a0.2.2.1=true then ((a0.1).bind fun s6=>((Qw.f k s6 a1).bind fun t10=>(some (t10.1,((some s6),a0.2.1,a0.2.2.1,a0.2.2.2.1,a0.2.2.2.2.1,a0.2.2.2.2.2))))) else (if (a0.2.1==1)=true then ((a0.1).bind fun s15=>((Qx.f k s15 a1).bind fun t19=>(some (t19.1,((some s15),a0.2.1,a0.2.2.1,a0.2.2.2.1,a0.2.2.2.2.1,a0.2.2.2.2.2))))) else (if a0.2.2.1=true then ((a0.1).bind fun s24=>((Qw.f k s24 a1).bind fun t28=>((Jd.f k t28.1 a0.2.2.2.1).bind fun t33=>((Yz.f k a1).bind fun t38=>(some (t33.1,((some s24),a0.2.1,a0.2.2.1,t38,a0.2.2.2.2.1,a0.2.2.2.2.2))))))) else ((Jd.f k a1 a0.2.2.2.1).bind fun t45=>((a0.1).bind fun s49=>((Qx.f k s49 t45.1).bind fun t53=>((Yz.f k t53.1).bind fun t58=>(some (t53.1,((some s49),a0.2.1,a0.2.2.1,t58,a0.2.2.2.2.1,a0.2.2.2.2.2)))))))))) else (if (a0.2.1==1)=true then ((a0.1).bind fun s65=>((Qx.f k s65 a1).bind fun t69=>(some (t69.1,((some s65),a0.2.1,a0.2.2.1,a0.2.2.2.1,a0.2.2.2.2.1,a0.2.2.2.2.2))))) else (if a0.2.2.1=true then ((a0.1).bind fun s74=>((Qw.f k s74 a1).bind fun t78=>((Jd.f k t78.1 a0.2.2.2.1).bind fun t83=>((Yz.f k a1).bind fun t88=>(some (t83.1,((some s74),a0.2.1,a0.2.2.1,t88,a0.2.2.2.2.1,a0.2.2.2.2.2))))))) else ((Jd.f k a1 a0.2.2.2.1).bind fun t95=>((a0.1).bind fun s99=>((Qx.f k s99 t95.1).bind fun t103=>((Yz.f k t103.1).bind fun t108=>(some (t103.1,((some s99),a0.2.1,a0.2.2.1,t108,a0.2.2.2.2.1,a0.2.2.2.2.2)))))))))
theorem V6.calls {gp0:Nat} {csp0:List Value} {a0:Mo} {eq5:Ent} {a1:Li} {r:Li×Mo} (hp0:Rs_modes_Mode Zm csp0 a0) (hq5:Own5 eq5 csp0 a0) (hZm: ∀W,Kept w0 W→Oks FT W→Zm W) (M0:Mem w0 w (Gs [⟨.pt gp0,100,0,csp0⟩,eq5] [FT])) (hr1:RdF Zp1 (.slice Ap1 np1 cp1) (nums .u8 a1)) (hZp1: ∀W,Kept w0 W→Oks FT W→Zp1 W) (h:V6.f k a0 a1=some r):Calls prog 74 #[.pt gp0,(.slice Ap1 np1 cp1)] w (Ret fun v w'=> ∃A0' c0',∃(cs':List Value) (F':List Ent) (eq5':Ent),v= .slice A0' r.1.length c0'∧Rs_modes_Mode (andZ (Oks F') Zm) cs' r.2∧Own5 eq5' cs' r.2∧Mem w0 w' (Gs [⟨.slice A0' r.1.length c0',5,1,nums .u8 r.1⟩,⟨.pt gp0,100,0,cs'⟩,eq5'] [F',FT])):=by
 obtain rfl:=(hr1 _ (hZp1 _ M0.kept (M0.oks 0))).ln
 obtain ⟨uo3_0,_,_,_,_,uo3_5,rfl,ho3_0,rfl,rfl,⟨Ao3_3,co3_3,rfl,ho3_3⟩,⟨Ao3_4,co3_4,rfl,ho3_4⟩⟩:=hp0
 unfold V6.f at h
 refine calls_S func74 ?_
 have M:=M0
 refine .gq 15<| .lv M 0 rfl 1 rfl<| .gq 2 ?_
 rcases ift h with ⟨c4,h⟩ | ⟨c4,h⟩
 ·refine .kn 35 c4<| .gq 3<| .lv M 0 rfl 2 rfl<| .gq 3 ?_
  rcases ift h with ⟨c5,h⟩ | ⟨c5,h⟩
  ·refine .kn 29 c5<| .gq 5<| .lv M 0 rfl 0 rfl<| .gq 1 ?_
   obtain ⟨s6,hx_,h⟩:=bs h
   have hps6:=rOpt.some ho3_0 hx_
   obtain ⟨g7,_,rfl,hco8,_,uo8_1,rfl,rfl,ho8_1⟩:=id hps6
   obtain ⟨t10,ht10,h⟩:=bs h
   refine .ca (Qw.calls (hr1 _ (zl M hZp1 0)) hps6 (zk M hZm 0) ht10) ?_
   rintro _ W9 ⟨A11,c12,rfl,M_⟩
   replace M:=M.cg M_
   refine .gq 11 ?_
   obtain rfl:=sj h
   exact .ret func74 ⟨A11,c12,[.pt g7,.i a0.2.1,.bool a0.2.2.1,.slice Ao3_3 a0.2.2.2.1.length co3_3,.slice Ao3_4 a0.2.2.2.2.1.length co3_4,uo3_5],([]:List Ent),eq5,rfl,⟨_,_,_,_,_,_,rfl,(upc _ _ _ _ (fun _ z=>z.2) (.inr ⟨s6,rfl,hps6⟩)),rfl,rfl,(upn (fun _ z=>z.2) (rno ho3_3 (zl M hZm 0))),(upn (fun _ z=>z.2) (rno ho3_4 (zl M hZm 0)))⟩,hq5,(M.pm [0,1,2] [[],[0]])⟩
  refine .kn 29 c5<| .gq 6<| .lv M 0 rfl 1 rfl<| .gq 3 ?_
  rcases ift h with ⟨c14,h⟩ | ⟨c14,h⟩
  ·refine .kn 50 c14<| .gq 5<| .lv M 0 rfl 0 rfl<| .gq 1 ?_
   obtain ⟨s15,hx_,h⟩:=bs h
   have hps15:=rOpt.some ho3_0 hx_
   obtain ⟨g16,_,rfl,hco17,_,uo17_1,rfl,rfl,ho17_1⟩:=id hps15
   obtain ⟨t19,ht19,h⟩:=bs h
   refine .ca (Qx.calls (hr1 _ (zl M hZp1 0)) hps15 (zk M hZm 0) ht19) ?_
   rintro _ W18 ⟨A20,c21,rfl,M_⟩
   replace M:=M.cg M_
   refine .gq 11 ?_
   obtain rfl:=sj h
   exact .ret func74 ⟨A20,c21,[.pt g16,.i a0.2.1,.bool a0.2.2.1,.slice Ao3_3 a0.2.2.2.1.length co3_3,.slice Ao3_4 a0.2.2.2.2.1.length co3_4,uo3_5],([]:List Ent),eq5,rfl,⟨_,_,_,_,_,_,rfl,(upc _ _ _ _ (fun _ z=>z.2) (.inr ⟨s15,rfl,hps15⟩)),rfl,rfl,(upn (fun _ z=>z.2) (rno ho3_3 (zl M hZm 0))),(upn (fun _ z=>z.2) (rno ho3_4 (zl M hZm 0)))⟩,hq5,(M.pm [0,1,2] [[],[0]])⟩
  refine .kn 50 c14<| .gq 6<| .lv M 0 rfl 2 rfl<| .gq 2 ?_
  rcases ift h with ⟨c23,h⟩ | ⟨c23,h⟩
  ·refine .kn 65 c23<| .gq 6<| .lv M 0 rfl 0 rfl<| .gq 1 ?_
   obtain ⟨s24,hx_,h⟩:=bs h
   have hps24:=rOpt.some ho3_0 hx_
   obtain ⟨g25,_,rfl,hco26,_,uo26_1,rfl,rfl,ho26_1⟩:=id hps24
   obtain ⟨t28,ht28,h⟩:=bs h
   refine .ca (Qw.calls (hr1 _ (zl M hZp1 0)) hps24 (zk M hZm 0) ht28) ?_
   rintro _ W27 ⟨A29,c30,rfl,M_⟩
   replace M:=M.cg M_
   refine .gq 11<| .lv M 1 rfl 3 rfl ?_
   obtain ⟨t33,ht33,h⟩:=bs h
   refine .ca (Jd.calls (M.or 0) (ho3_3 _ (zl M hZm 0)) ht33) ?_
   rintro _ W32 ⟨A34,c35,rfl,M_⟩
   replace M:=M.cg M_
   refine .gq 8 ?_
   obtain ⟨t38,ht38,h⟩:=bs h
   refine .ca (Yz.calls (hr1 _ (zl M hZp1 0)) ht38) ?_
   rintro _ W37 ⟨A39,c40,rfl,M_⟩
   replace M:=M.cg M_
   refine .gq 2<| .vf 3 (.slice A39 t38.length c40) M 3 rfl fun W42 M=> .gq 7 ?_
   obtain ⟨Fq43,hfq43,M⟩:=M.fs 0
   obtain rfl:=sj h
   exact .ret func74 ⟨A34,c35,[.pt g25,.i a0.2.1,.bool a0.2.2.1,.slice A39 t38.length c40,.slice Ao3_4 a0.2.2.2.2.1.length co3_4,uo3_5],Fq43,eq5,rfl,⟨_,_,_,_,_,_,rfl,(upc _ _ _ _ (fun _ z=>z.2) (.inr ⟨s24,rfl,hps24⟩)),rfl,rfl,(upn (fun _ z=>z.1) (rno hfq43 (M.oks 0))),(upn (fun _ z=>z.2) (rno ho3_4 (zl M hZm 1)))⟩,hq5,(M.pm [0,2,3] [[0],[1]])⟩
  refine .kn 65 c23<| .gq 7<| .lv M 0 rfl 3 rfl ?_
  obtain ⟨t45,ht45,h⟩:=bs h
  refine .ca (Jd.calls (hr1 _ (zl M hZp1 0)) (ho3_3 _ (zl M hZm 0)) ht45) ?_
  rintro _ W44 ⟨A46,c47,rfl,M_⟩
  replace M:=M.cg M_
  refine .gq 10<| .lv M 1 rfl 0 rfl<| .gq 1 ?_
  obtain ⟨s49,hx_,h⟩:=bs h
  have hps49:=rOpt.some ho3_0 hx_
  obtain ⟨g50,_,rfl,hco51,_,uo51_1,rfl,rfl,ho51_1⟩:=id hps49
  obtain ⟨t53,ht53,h⟩:=bs h
  refine .ca (Qx.calls (M.or 0) hps49 (zk M hZm 0) ht53) ?_
  rintro _ W52 ⟨A54,c55,rfl,M_⟩
  replace M:=M.cg M_
  refine .gq 8 ?_
  obtain ⟨t58,ht58,h⟩:=bs h
  refine .ca (Yz.calls (M.or 0) ht58) ?_
  rintro _ W57 ⟨A59,c60,rfl,M_⟩
  replace M:=M.cg M_
  refine .gq 2<| .vf 3 (.slice A59 t58.length c60) M 3 rfl fun W62 M=> .gq 7 ?_
  obtain ⟨Fq63,hfq63,M⟩:=M.fs 0
  obtain rfl:=sj h
  exact .ret func74 ⟨A54,c55,[.pt g50,.i a0.2.1,.bool a0.2.2.1,.slice A59 t58.length c60,.slice Ao3_4 a0.2.2.2.2.1.length co3_4,uo3_5],Fq63,eq5,rfl,⟨_,_,_,_,_,_,rfl,(upc _ _ _ _ (fun _ z=>z.2) (.inr ⟨s49,rfl,hps49⟩)),rfl,rfl,(upn (fun _ z=>z.1) (rno hfq63 (M.oks 0))),(upn (fun _ z=>z.2) (rno ho3_4 (zl M hZm 1)))⟩,hq5,(M.pm [0,2,3] [[0],[1]])⟩
 refine .kn 35 c4<| .gq 13<| .lv M 0 rfl 1 rfl<| .gq 3 ?_
 rcases ift h with ⟨c64,h⟩ | ⟨c64,h⟩
 ·refine .kn 50 c64<| .gq 5<| .lv M 0 rfl 0 rfl<| .gq 1 ?_
  obtain ⟨s65,hx_,h⟩:=bs h
  have hps65:=rOpt.some ho3_0 hx_
  obtain ⟨g66,_,rfl,hco67,_,uo67_1,rfl,rfl,ho67_1⟩:=id hps65
  obtain ⟨t69,ht69,h⟩:=bs h
  refine .ca (Qx.calls (hr1 _ (zl M hZp1 0)) hps65 (zk M hZm 0) ht69) ?_
  rintro _ W68 ⟨A70,c71,rfl,M_⟩
  replace M:=M.cg M_
  refine .gq 11 ?_
  obtain rfl:=sj h
  exact .ret func74 ⟨A70,c71,[.pt g66,.i a0.2.1,.bool a0.2.2.1,.slice Ao3_3 a0.2.2.2.1.length co3_3,.slice Ao3_4 a0.2.2.2.2.1.length co3_4,uo3_5],([]:List Ent),eq5,rfl,⟨_,_,_,_,_,_,rfl,(upc _ _ _ _ (fun _ z=>z.2) (.inr ⟨s65,rfl,hps65⟩)),rfl,rfl,(upn (fun _ z=>z.2) (rno ho3_3 (zl M hZm 0))),(upn (fun _ z=>z.2) (rno ho3_4 (zl M hZm 0)))⟩,hq5,(M.pm [0,1,2] [[],[0]])⟩
 refine .kn 50 c64<| .gq 6<| .lv M 0 rfl 2 rfl<| .gq 2 ?_
 rcases ift h with ⟨c73,h⟩ | ⟨c73,h⟩
 ·refine .kn 65 c73<| .gq 6<| .lv M 0 rfl 0 rfl<| .gq 1 ?_
  obtain ⟨s74,hx_,h⟩:=bs h
  have hps74:=rOpt.some ho3_0 hx_
  obtain ⟨g75,_,rfl,hco76,_,uo76_1,rfl,rfl,ho76_1⟩:=id hps74
  obtain ⟨t78,ht78,h⟩:=bs h
  refine .ca (Qw.calls (hr1 _ (zl M hZp1 0)) hps74 (zk M hZm 0) ht78) ?_
  rintro _ W77 ⟨A79,c80,rfl,M_⟩
  replace M:=M.cg M_
  refine .gq 11<| .lv M 1 rfl 3 rfl ?_
  obtain ⟨t83,ht83,h⟩:=bs h
  refine .ca (Jd.calls (M.or 0) (ho3_3 _ (zl M hZm 0)) ht83) ?_
  rintro _ W82 ⟨A84,c85,rfl,M_⟩
  replace M:=M.cg M_
  refine .gq 8 ?_
  obtain ⟨t88,ht88,h⟩:=bs h
  refine .ca (Yz.calls (hr1 _ (zl M hZp1 0)) ht88) ?_
  rintro _ W87 ⟨A89,c90,rfl,M_⟩
  replace M:=M.cg M_
  refine .gq 2<| .vf 3 (.slice A89 t88.length c90) M 3 rfl fun W92 M=> .gq 7 ?_
  obtain ⟨Fq93,hfq93,M⟩:=M.fs 0
  obtain rfl:=sj h
  exact .ret func74 ⟨A84,c85,[.pt g75,.i a0.2.1,.bool a0.2.2.1,.slice A89 t88.length c90,.slice Ao3_4 a0.2.2.2.2.1.length co3_4,uo3_5],Fq93,eq5,rfl,⟨_,_,_,_,_,_,rfl,(upc _ _ _ _ (fun _ z=>z.2) (.inr ⟨s74,rfl,hps74⟩)),rfl,rfl,(upn (fun _ z=>z.1) (rno hfq93 (M.oks 0))),(upn (fun _ z=>z.2) (rno ho3_4 (zl M hZm 1)))⟩,hq5,(M.pm [0,2,3] [[0],[1]])⟩
 refine .kn 65 c73<| .gq 7<| .lv M 0 rfl 3 rfl ?_
 obtain ⟨t95,ht95,h⟩:=bs h
 refine .ca (Jd.calls (hr1 _ (zl M hZp1 0)) (ho3_3 _ (zl M hZm 0)) ht95) ?_
 rintro _ W94 ⟨A96,c97,rfl,M_⟩
 replace M:=M.cg M_
 refine .gq 10<| .lv M 1 rfl 0 rfl<| .gq 1 ?_
 obtain ⟨s99,hx_,h⟩:=bs h
 have hps99:=rOpt.some ho3_0 hx_
 obtain ⟨g100,_,rfl,hco101,_,uo101_1,rfl,rfl,ho101_1⟩:=id hps99
 obtain ⟨t103,ht103,h⟩:=bs h
 refine .ca (Qx.calls (M.or 0) hps99 (zk M hZm 0) ht103) ?_
 rintro _ W102 ⟨A104,c105,rfl,M_⟩
 replace M:=M.cg M_
 refine .gq 8 ?_
 obtain ⟨t108,ht108,h⟩:=bs h
 refine .ca (Yz.calls (M.or 0) ht108) ?_
 rintro _ W107 ⟨A109,c110,rfl,M_⟩
 replace M:=M.cg M_
 refine .gq 2<| .vf 3 (.slice A109 t108.length c110) M 3 rfl fun W112 M=> .gq 7 ?_
 obtain ⟨Fq113,hfq113,M⟩:=M.fs 0
 obtain rfl:=sj h
 exact .ret func74 ⟨A104,c105,[.pt g100,.i a0.2.1,.bool a0.2.2.1,.slice A109 t108.length c110,.slice Ao3_4 a0.2.2.2.2.1.length co3_4,uo3_5],Fq113,eq5,rfl,⟨_,_,_,_,_,_,rfl,(upc _ _ _ _ (fun _ z=>z.2) (.inr ⟨s99,rfl,hps99⟩)),rfl,rfl,(upn (fun _ z=>z.1) (rno hfq113 (M.oks 0))),(upn (fun _ z=>z.2) (rno ho3_4 (zl M hZm 1)))⟩,hq5,(M.pm [0,2,3] [[0],[1]])⟩
end Go.Scr.S

namespace Go.Scr.S
variable {k np0 cp0 np1 cp1 np2 cp2 np3 cp3 np4 cp4:Nat} {Ap0 Ap1 Ap2 Ap3 Ap4:Option Addr} {w w0:World} {FT:List Ent} {Zm Zp0 Zp1 Zp2 Zp3:Zp}
open Go.RowKit (Below)
open Go.Proofs.Tryz (prog f33 func33 f50 func50 f73 func73 f120 func120 f162 func162)
def V3.f (k:Nat) (a0:Mo):Option (Int):=if (a0.2.1==1)=true then ((a0.1).bind fun s3=>((Qy.f k s3).bind fun t7=>(some t7))) else (if (a0.2.1==2)=true then ((a0.1).bind fun s9=>((Qy.f k s9).bind fun t13=>(some t13))) else (some 1))
theorem V3.calls {vp0:Value} {a0:Mo} {r:Int} (hp0:(rPtr Rs_modes_Mode) Zp0 vp0 a0) (hZp0: ∀W,Kept w W→Zp0 W) (h:V3.f k a0=some r):Calls prog 50 #[vp0] w (Ret fun v w'=>v= .i r∧Mem w w' (Gs [] [])):=by
 obtain ⟨gp0,_,rfl,hco1,uo1_0,_,_,_,_,uo1_5,rfl,ho1_0,rfl,rfl,⟨Ao1_3,co1_3,rfl,ho1_3⟩,⟨Ao1_4,co1_4,rfl,ho1_4⟩⟩:=id hp0
 unfold V3.f at h
 refine calls_S func50 ?_
 have M:=Mem.r0 w
 refine .gq 10<| .ld (hco1 _ (hZp0 _ M.kept) 1 _ rfl)<| .gq 12 ?_
 rcases ift h with ⟨c2,h⟩ | ⟨c2,h⟩
 ·refine .kn 7 c2<| .gq 9<| .ld (hco1 _ (hZp0 _ M.kept) 0 _ rfl) ?_
  obtain ⟨s3,hx_,h⟩:=bs h
  have hps3:=rOpt.some ho1_0 hx_
  obtain ⟨g4,_,rfl,hco5,_,uo5_1,rfl,rfl,ho5_1⟩:=id hps3
  obtain ⟨t7,ht7,h⟩:=bs h
  refine .ca (Qy.calls hps3 (zp M hZp0) ht7) ?_
  rintro _ W6 ⟨rfl,M_⟩
  replace M:=M.cg M_
  refine .gq 2 ?_
  obtain rfl:=sj h
  exact .ret func50 ⟨rfl,(M.pm [] [])⟩
 refine .kn 7 c2<| .gq 7 ?_
 rcases ift h with ⟨c8,h⟩ | ⟨c8,h⟩
 ·refine .kn 9 c8<| .gq 8<| .ld (hco1 _ (hZp0 _ M.kept) 0 _ rfl) ?_
  obtain ⟨s9,hx_,h⟩:=bs h
  have hps9:=rOpt.some ho1_0 hx_
  obtain ⟨g10,_,rfl,hco11,_,uo11_1,rfl,rfl,ho11_1⟩:=id hps9
  obtain ⟨t13,ht13,h⟩:=bs h
  refine .ca (Qy.calls hps9 (zp M hZp0) ht13) ?_
  rintro _ W12 ⟨rfl,M_⟩
  replace M:=M.cg M_
  refine .gq 2 ?_
  obtain rfl:=sj h
  exact .ret func50 ⟨rfl,(M.pm [] [])⟩
 refine .kn 9 c8<| .gq 7 ?_
 obtain rfl:=sj h
 exact .ret func50 ⟨rfl,(M.pm [] [])⟩
def K6.l0:Nat→Li→Li→Int→Option Li
 | 0,_,_,_=>none
 | k+1,a0,x3_0,x4_0=>if (decide (x4_0>0))=true then (gd (0≤(I64 (x4_0-1))) (gd ((I64 (x4_0-1))<(((List.replicate 0 (0:Int))++a0).length:Int)) (gd (0≤(I64 (x4_0-1))) (gd ((I64 (x4_0-1))<(((List.replicate 0 (0:Int))++a0).length:Int)) (gd (0≤(I64 (x4_0-1))) (gd ((I64 (x4_0-1))<(((List.replicate 0 (0:Int))++a0).length:Int)) ((some (((rd (x3_0.set (I64 (x4_0-1):Int).toNat (U8 ((rd x3_0 (I64 (x4_0-1)))+1))) (I64 (x4_0-1)))==0):Bool)).bind fun y23=>(if y23=true then (K6.l0 k a0 (x3_0.set (I64 (x4_0-1):Int).toNat (U8 ((rd x3_0 (I64 (x4_0-1)))+1))) (I64 (x4_0-1))) else (some (x3_0.set (I64 (x4_0-1):Int).toNat (U8 ((rd x3_0 (I64 (x4_0-1)))+1)))))))))))) else (some x3_0)
def K6.f (k:Nat) (a0:Li):Option Li:=gd (0≤(a0.length:Int)) (gd ((a0.length:Int)≤1000000000) (gd ((List.replicate 0 (0:Int)).length+a0.length≤1000000000) ((some ((((List.replicate 0 (0:Int))++a0).length:Int):Int)).bind fun y11=>(K6.l0 k a0 ((List.replicate 0 (0:Int))++a0) y11))))
abbrev K6.R (r:Li) (w:World):Value→World→Prop:=fun v w'=> ∃A0' c0',v= .slice A0' r.length c0'∧Mem w w' (Gs [⟨.slice A0' r.length c0',5,1,nums .u8 r⟩] [])
theorem K6.calls {a0:Li} {r:Li} (hr0:Rd w (.slice Ap0 np0 cp0) (nums .u8 a0)) (h:K6.f k a0=some r):Calls prog 162 #[(.slice Ap0 np0 cp0)] w (Ret (K6.R r w)):=by
 obtain rfl:=hr0.ln
 unfold K6.f at h
 refine calls_S func162 ?_
 have M:=Mem.r0 w
 refine .gq 9 ?_
 obtain ⟨c3,h⟩:=ifd h
 obtain ⟨c4,h⟩:=ifd h
 refine .mn 5 .u8 0 (a0.length:Int) M fun g2 W1 M=> .gq 1 ?_
 obtain ⟨c9,h⟩:=ifd h
 refine .an M 0 rfl (hr0.mono M.below) c9 fun A6 c7 W8 M=> .gq 10 ?_
 let y11:Int:=(((List.replicate 0 (0:Int))++a0).length:Int)
 replace h:=bz (y:=y11) h rfl
 have l0: ∀k_≤k,∀(x3_0:Li) (x4_0:Int) {W:World} (M:Mem w W (Gs [⟨.slice A6 (((List.replicate 0 (0:Int))++a0).length) c7,5,1,nums .u8 x3_0⟩] [])) (h:K6.l0 k_ a0 x3_0 x4_0=some r),RL 162 f162 (K6.R r w) [1,0,1,1,1] [(3,.slice A6 (((List.replicate 0 (0:Int))++a0).length) c7),(4,.i x4_0)] W:=by
  refine loopI (by intros;rename_i h;simp [K6.l0] at h) fun k hk ih0 x3_0 x4_0 W M h=> ?_
  simp only [K6.l0] at h
  refine .gq 6 ?_
  rcases ift h with ⟨c12,h⟩ | ⟨c12,h⟩
  ·refine .kn 13 c12<| .gq 11 ?_
   obtain ⟨c14,h⟩:=ifd h
   obtain ⟨c15,h⟩:=ifd h
   obtain ⟨pq13,Cq13⟩:=M.na 0 rfl c14 c15
   refine .ix Cq13<| .lc Cq13<| .gq 1 ?_
   obtain ⟨c17,h⟩:=ifd h
   obtain ⟨c18,h⟩:=ifd h
   obtain ⟨pq16,Cq16⟩:=M.na 0 rfl c17 c18
   refine .ix Cq16<| .sn (U8 ((rd x3_0 (I64 (x4_0-1)))+1)) Cq16 M 0 rfl fun W19 M=> .gq 5 ?_
   obtain ⟨c21,h⟩:=ifd h
   obtain ⟨c22,h⟩:=ifd h
   obtain ⟨pq20,Cq20⟩:=M.na 0 rfl c21 c22
   refine .ix Cq20<| .lc Cq20<| .gq 2 ?_
   let y23:Bool:=((rd (x3_0.set (I64 (x4_0-1):Int).toNat (U8 ((rd x3_0 (I64 (x4_0-1)))+1))) (I64 (x4_0-1)))==0)
   replace h:=bz (y:=y23) h rfl
   rcases ift h with ⟨c24,h⟩ | ⟨c24,h⟩
   ·exact .kn 26 c24<| .gq 4<| .at (ih0 k (by omega) (x3_0.set (I64 (x4_0-1):Int).toNat (U8 ((rd x3_0 (I64 (x4_0-1)))+1))) (I64 (x4_0-1)) (M.pm [0] []) h)
   refine .kn 26 c24<| .gq 7 ?_
   obtain rfl:=sj h
   have hn0_:=(M.or 0).ln
   exact .ret (v:= .slice A6 (((List.replicate 0 (0:Int))++a0).length) c7) func162 ⟨A6,c7,(by rw [hn0_]),by rw [hn0_];exact (M.pm [0] [])⟩
  refine .kn 13 c12<| .gq 7 ?_
  obtain rfl:=sj h
  have hn0_:=(M.or 0).ln
  exact .ret (v:= .slice A6 (((List.replicate 0 (0:Int))++a0).length) c7) func162 ⟨A6,c7,(by rw [hn0_]),by rw [hn0_];exact (M.pm [0] [])⟩
 exact .at (l0 k k.le_refl ((List.replicate 0 (0:Int))++a0) y11 (M.pm [0] []) h)
def V5.f (k:Nat) (a0:Mo):Option Mo:=(a0.1).bind fun s7=>((Qx.f k s7 a0.2.2.2.1).bind fun t11=>(if (a0.2.1==5)=true then ((Yz.f k t11.1).bind fun t19=>(some ((some s7),a0.2.1,a0.2.2.1,t19,t11.1,([]:Li)))) else (if (a0.2.1==6)=true then ((K6.f k a0.2.2.2.1).bind fun t29=>(some ((some s7),a0.2.1,a0.2.2.1,t29,t11.1,([]:Li)))) else (some ((some s7),a0.2.1,a0.2.2.1,a0.2.2.2.1,t11.1,([]:Li))))))
abbrev V5.R (gp0:Nat) (r:Mo) (w0:World) (FT:List Ent) (Zm:Zp):Value→World→Prop:=fun v w'=> ∃(cs':List Value) (F':List Ent) (eq5':Ent),v= .tuple #[]∧Rs_modes_Mode (andZ (Oks F') Zm) cs' r∧Own5 eq5' cs' r∧Mem w0 w' (Gs [⟨.pt gp0,100,0,cs'⟩,eq5'] [F',FT])
theorem V5.calls {gp0:Nat} {csp0:List Value} {a0:Mo} {eq5:Ent} {r:Mo} (hp0:Rs_modes_Mode Zm csp0 a0) (hq5:Own5 eq5 csp0 a0) (hZm: ∀W,Kept w0 W→Oks FT W→Zm W) (M0:Mem w0 w (Gs [⟨.pt gp0,100,0,csp0⟩,eq5] [FT])) (h:V5.f k a0=some r):Calls prog 120 #[.pt gp0] w (Ret (V5.R gp0 r w0 FT Zm)):=by
 obtain ⟨uo3_0,_,_,_,_,uo3_5,rfl,ho3_0,rfl,rfl,⟨Ao3_3,co3_3,rfl,ho3_3⟩,⟨Ao3_4,co3_4,rfl,ho3_4⟩⟩:=hp0
 unfold V5.f at h
 refine calls_S func120 ?_
 have M:=M0
 refine .gq 1<| .at (show RL 120 f120 (V5.R gp0 r w0 FT Zm) [0] [(0,.pt gp0)] _ from .dr [0] M fun W4 M=> ?_)
 refine .pz tr [0,1,2,3,5,6,7] ?_
 have J5:RJ 120 f120 (V5.R gp0 r w0 FT Zm) [0] w0 [⟨.pt gp0,100,0,[uo3_0,.i a0.2.1,.bool a0.2.2.1,.slice Ao3_3 a0.2.2.2.1.length co3_3,.slice Ao3_4 a0.2.2.2.2.1.length co3_4,uo3_5]⟩,eq5] [FT] [0] ([0,1,2,3,5,6,7,4,8],[(0,.pt gp0),(3,.pt gp0),(7,uo3_0),(11,.slice Ao3_3 a0.2.2.2.1.length co3_3)]):=by
  intro W6 M
  obtain ⟨s7,hx_,h⟩:=bs h
  have hps7:=rOpt.some ho3_0 hx_
  obtain ⟨g8,_,rfl,hco9,_,uo9_1,rfl,rfl,ho9_1⟩:=id hps7
  obtain ⟨t11,ht11,h⟩:=bs h
  refine .a1 tr 9<| .ca (Qx.calls (ho3_3 _ (zl M hZm 0)) hps7 (zk M hZm 0) ht11) ?_
  rintro _ W10 ⟨A12,c13,rfl,M_⟩
  refine .ca M_ [1] ?_
  replace M:=M.cg M_
  refine .pz tr [10,11,12,13,14]<| .a1 tr 15<| .vf 4 (.slice A12 t11.1.length c13) M 1 rfl fun W15 M=> .dn tr<| .gq 5<| .vf 5 (.slice none 0 0) M 1 rfl fun W16 M=> .gq 6<| .lv M 1 rfl 1 rfl<| .gq 7 ?_
  rcases ift h with ⟨c17,h⟩ | ⟨c17,h⟩
  ·refine .kn 24 c17<| .gq 6<| .lv M 1 rfl 4 rfl ?_
   obtain ⟨t19,ht19,h⟩:=bs h
   refine .ca (Yz.calls (M.or 0) ht19) ?_
   rintro _ W18 ⟨A20,c21,rfl,M_⟩
   replace M:=M.cg M_
   refine .gq 2<| .vf 3 (.slice A20 t19.length c21) M 2 rfl fun W23 M=> .gq 2 ?_
   replace M:=M.n1 5
   obtain ⟨Fq25,hfq25,M⟩:=M.fs 1
   obtain ⟨Fq26,hfq26,M⟩:=M.fs 1
   obtain rfl:=sj h
   exact .ret func120 ⟨[.pt g8,.i a0.2.1,.bool a0.2.2.1,.slice A20 t19.length c21,.slice A12 t11.1.length c13,.slice none 0 0],(List.flatten [Fq26,Fq25]),⟨.slice none 0 0,5,1,nums .u8 []⟩,rfl,⟨_,_,_,_,_,_,rfl,(upc _ _ _ _ (fun _ z=>z.2) (.inr ⟨s7,rfl,hps7⟩)),rfl,rfl,(upn (fun _ z=>(Oks.g z.1 1 rfl)) (rno hfq25 (M.oks 1))),(upn (fun _ z=>(Oks.g z.1 0 rfl)) (rno hfq26 (M.oks 0)))⟩,(.inr ⟨none,0,rfl,rfl⟩),(M.pm [1,0] [[0,1],[2]])⟩
  refine .kn 24 c17<| .gq 6 ?_
  rcases ift h with ⟨c27,h⟩ | ⟨c27,h⟩
  ·refine .kn 34 c27<| .gq 6<| .lv M 1 rfl 3 rfl ?_
   obtain ⟨t29,ht29,h⟩:=bs h
   refine .ca (K6.calls (ho3_3 _ (zl M hZm 0)) ht29) ?_
   rintro _ W28 ⟨A30,c31,rfl,M_⟩
   replace M:=M.cg M_
   refine .gq 2<| .vf 3 (.slice A30 t29.length c31) M 2 rfl fun W33 M=> .gq 2 ?_
   replace M:=M.n1 5
   obtain ⟨Fq35,hfq35,M⟩:=M.fs 1
   obtain ⟨Fq36,hfq36,M⟩:=M.fs 1
   obtain rfl:=sj h
   exact .ret func120 ⟨[.pt g8,.i a0.2.1,.bool a0.2.2.1,.slice A30 t29.length c31,.slice A12 t11.1.length c13,.slice none 0 0],(List.flatten [Fq36,Fq35]),⟨.slice none 0 0,5,1,nums .u8 []⟩,rfl,⟨_,_,_,_,_,_,rfl,(upc _ _ _ _ (fun _ z=>z.2) (.inr ⟨s7,rfl,hps7⟩)),rfl,rfl,(upn (fun _ z=>(Oks.g z.1 1 rfl)) (rno hfq35 (M.oks 1))),(upn (fun _ z=>(Oks.g z.1 0 rfl)) (rno hfq36 (M.oks 0)))⟩,(.inr ⟨none,0,rfl,rfl⟩),(M.pm [1,0] [[0,1],[2]])⟩
  refine .kn 34 c27<| .gq 3 ?_
  replace M:=M.n1 5
  obtain ⟨Fq38,hfq38,M⟩:=M.fs 1
  obtain rfl:=sj h
  exact .ret func120 ⟨[.pt g8,.i a0.2.1,.bool a0.2.2.1,.slice Ao3_3 a0.2.2.2.1.length co3_3,.slice A12 t11.1.length c13,.slice none 0 0],Fq38,⟨.slice none 0 0,5,1,nums .u8 []⟩,rfl,⟨_,_,_,_,_,_,rfl,(upc _ _ _ _ (fun _ z=>z.2) (.inr ⟨s7,rfl,hps7⟩)),rfl,rfl,(upn (fun _ z=>z.2) (rno ho3_3 (zl M hZm 1))),(upn (fun _ z=>z.1) (rno hfq38 (M.oks 0)))⟩,(.inr ⟨none,0,rfl,rfl⟩),(M.pm [1,0] [[0],[1]])⟩
 have J39:RJ 120 f120 (V5.R gp0 r w0 FT Zm) [0] w0 [⟨.pt gp0,100,0,[uo3_0,.i a0.2.1,.bool a0.2.2.1,.slice Ao3_3 a0.2.2.2.1.length co3_3,.slice Ao3_4 a0.2.2.2.2.1.length co3_4,uo3_5]⟩,eq5] [FT] [0] ([0,1,2,3,5,6,7,8],[(0,.pt gp0),(3,.pt gp0),(6,.pt gp0),(11,.slice Ao3_3 a0.2.2.2.1.length co3_3)]):=by
  intro W40 M
  exact .a1 tr 4<| .lv M 0 rfl 0 rfl<| .jn M [0,1] [[0]] (J5) rfl rfl
 have J41:RJ 120 f120 (V5.R gp0 r w0 FT Zm) [0] w0 [⟨.pt gp0,100,0,[uo3_0,.i a0.2.1,.bool a0.2.2.1,.slice Ao3_3 a0.2.2.2.1.length co3_3,.slice Ao3_4 a0.2.2.2.2.1.length co3_4,uo3_5]⟩,eq5] [FT] [0] ([0,1,2,3,5,6,7,4],[(0,.pt gp0),(3,.pt gp0),(7,uo3_0),(10,.pointer (some ⟨gp0,3,none⟩))]):=by
  intro W42 M
  exact .a1 tr 8<| .lv M 0 rfl 3 rfl<| .jn M [0,1] [[0]] (J5) rfl rfl
 refine .a2 tr 4 8 ?_ ?_
 ·exact .lv M 0 rfl 0 rfl<| .jn M [0,1] [[0]] (J41) rfl rfl
 ·exact .lv M 0 rfl 3 rfl<| .jn M [0,1] [[0]] (J39) rfl rfl
def V7.f (k:Nat) (a0:Mo) (a1:Int):Option (Int×Mo):=if ((a0.2.2.2.2.1.length:Int)==0)=true then ((V5.f k a0).bind fun t6=>(gd (0<(t6.2.2.2.2.1.length:Int)) (gd (1≤(t6.2.2.2.2.1.length:Int)) (if t6.2.2.1=true then (gd (t6.2.2.2.2.2.length+([a1]:Li).length≤1000000000) (if (t6.2.1==3)=true then (gd (1≤(t6.2.2.2.1.length:Int)) ((Yz.f k ((t6.2.2.2.1.take ((t6.2.2.2.1.length:Int):Int).toNat).drop (1:Int).toNat)).bind fun t35=>(gd (t35.length+([a1]:Li).length≤1000000000) (some (bxor .u8 a1 (rd t6.2.2.2.2.1 0),(t6.1,t6.2.1,t6.2.2.1,(t35++([a1]:Li)),([]:Li),(t6.2.2.2.2.2++([a1]:Li)))))))) else (if (t6.2.1==4)=true then ((some (((((t6.2.2.2.2.1.take ((t6.2.2.2.2.1.length:Int):Int).toNat).drop (1:Int).toNat).length:Int)==0):Bool)).bind fun y51=>(if y51=true then (some (bxor .u8 a1 (rd t6.2.2.2.2.1 0),(t6.1,t6.2.1,t6.2.2.1,(t6.2.2.2.2.2++([a1]:Li)),((t6.2.2.2.2.1.take ((t6.2.2.2.2.1.length:Int):Int).toNat).drop (1:Int).toNat),(t6.2.2.2.2.2++([a1]:Li))))) else (some (bxor .u8 a1 (rd t6.2.2.2.2.1 0),(t6.1,t6.2.1,t6.2.2.1,t6.2.2.2.1,((t6.2.2.2.2.1.take ((t6.2.2.2.2.1.length:Int):Int).toNat).drop (1:Int).toNat),(t6.2.2.2.2.2++([a1]:Li))))))) else (some (bxor .u8 a1 (rd t6.2.2.2.2.1 0),(t6.1,t6.2.1,t6.2.2.1,t6.2.2.2.1,((t6.2.2.2.2.1.take ((t6.2.2.2.2.1.length:Int):Int).toNat).drop (1:Int).toNat),(t6.2.2.2.2.2++([a1]:Li)))))))) else (gd (t6.2.2.2.2.2.length+([bxor .u8 a1 (rd t6.2.2.2.2.1 0)]:Li).length≤1000000000) (if (t6.2.1==3)=true then (gd (1≤(t6.2.2.2.1.length:Int)) ((Yz.f k ((t6.2.2.2.1.take ((t6.2.2.2.1.length:Int):Int).toNat).drop (1:Int).toNat)).bind fun t72=>(gd (t72.length+([bxor .u8 a1 (rd t6.2.2.2.2.1 0)]:Li).length≤1000000000) (some (bxor .u8 a1 (rd t6.2.2.2.2.1 0),(t6.1,t6.2.1,t6.2.2.1,(t72++([bxor .u8 a1 (rd t6.2.2.2.2.1 0)]:Li)),([]:Li),(t6.2.2.2.2.2++([bxor .u8 a1 (rd t6.2.2.2.2.1 0)]:Li)))))))) else (if (t6.2.1==4)=true then ((some (((((t6.2.2.2.2.1.take ((t6.2.2.2.2.1.length:Int):Int).toNat).drop (1:Int).toNat).length:Int)==0):Bool)).bind fun y88=>(if y88=true then (some (bxor .u8 a1 (rd t6.2.2.2.2.1 0),(t6.1,t6.2.1,t6.2.2.1,(t6.2.2.2.2.2++([bxor .u8 a1 (rd t6.2.2.2.2.1 0)]:Li)),((t6.2.2.2.2.1.take ((t6.2.2.2.2.1.length:Int):Int).toNat).drop (1:Int).toNat),(t6.2.2.2.2.2++([bxor .u8 a1 (rd t6.2.2.2.2.1 0)]:Li))))) else (some (bxor .u8 a1 (rd t6.2.2.2.2.1 0),(t6.1,t6.2.1,t6.2.2.1,t6.2.2.2.1,((t6.2.2.2.2.1.take ((t6.2.2.2.2.1.length:Int):Int).toNat).drop (1:Int).toNat),(t6.2.2.2.2.2++([bxor .u8 a1 (rd t6.2.2.2.2.1 0)]:Li))))))) else (some (bxor .u8 a1 (rd t6.2.2.2.2.1 0),(t6.1,t6.2.1,t6.2.2.1,t6.2.2.2.1,((t6.2.2.2.2.1.take ((t6.2.2.2.2.1.length:Int):Int).toNat).drop (1:Int).toNat),(t6.2.2.2.2.2++([bxor .u8 a1 (rd t6.2.2.2.2.1 0)]:Li)))))))))))) else (gd (0<(a0.2.2.2.2.1.length:Int)) (gd (1≤(a0.2.2.2.2.1.length:Int)) (if a0.2.2.1=true then (gd (a0.2.2.2.2.2.length+([a1]:Li).length≤1000000000) (if (a0.2.1==3)=true then (gd (1≤(a0.2.2.2.1.length:Int)) ((Yz.f k ((a0.2.2.2.1.take ((a0.2.2.2.1.length:Int):Int).toNat).drop (1:Int).toNat)).bind fun t117=>(gd (t117.length+([a1]:Li).length≤1000000000) (some (bxor .u8 a1 (rd a0.2.2.2.2.1 0),(a0.1,a0.2.1,a0.2.2.1,(t117++([a1]:Li)),([]:Li),(a0.2.2.2.2.2++([a1]:Li)))))))) else (if (a0.2.1==4)=true then ((some (((((a0.2.2.2.2.1.take ((a0.2.2.2.2.1.length:Int):Int).toNat).drop (1:Int).toNat).length:Int)==0):Bool)).bind fun y133=>(if y133=true then (some (bxor .u8 a1 (rd a0.2.2.2.2.1 0),(a0.1,a0.2.1,a0.2.2.1,(a0.2.2.2.2.2++([a1]:Li)),((a0.2.2.2.2.1.take ((a0.2.2.2.2.1.length:Int):Int).toNat).drop (1:Int).toNat),(a0.2.2.2.2.2++([a1]:Li))))) else (some (bxor .u8 a1 (rd a0.2.2.2.2.1 0),(a0.1,a0.2.1,a0.2.2.1,a0.2.2.2.1,((a0.2.2.2.2.1.take ((a0.2.2.2.2.1.length:Int):Int).toNat).drop (1:Int).toNat),(a0.2.2.2.2.2++([a1]:Li))))))) else (some (bxor .u8 a1 (rd a0.2.2.2.2.1 0),(a0.1,a0.2.1,a0.2.2.1,a0.2.2.2.1,((a0.2.2.2.2.1.take ((a0.2.2.2.2.1.length:Int):Int).toNat).drop (1:Int).toNat),(a0.2.2.2.2.2++([a1]:Li)))))))) else (gd (a0.2.2.2.2.2.length+([bxor .u8 a1 (rd a0.2.2.2.2.1 0)]:Li).length≤1000000000) (if (a0.2.1==3)=true then (gd (1≤(a0.2.2.2.1.length:Int)) ((Yz.f k ((a0.2.2.2.1.take ((a0.2.2.2.1.length:Int):Int).toNat).drop (1:Int).toNat)).bind fun t154=>(gd (t154.length+([bxor .u8 a1 (rd a0.2.2.2.2.1 0)]:Li).length≤1000000000) (some (bxor .u8 a1 (rd a0.2.2.2.2.1 0),(a0.1,a0.2.1,a0.2.2.1,(t154++([bxor .u8 a1 (rd a0.2.2.2.2.1 0)]:Li)),([]:Li),(a0.2.2.2.2.2++([bxor .u8 a1 (rd a0.2.2.2.2.1 0)]:Li)))))))) else (if (a0.2.1==4)=true then ((some (((((a0.2.2.2.2.1.take ((a0.2.2.2.2.1.length:Int):Int).toNat).drop (1:Int).toNat).length:Int)==0):Bool)).bind fun y170=>(if y170=true then (some (bxor .u8 a1 (rd a0.2.2.2.2.1 0),(a0.1,a0.2.1,a0.2.2.1,(a0.2.2.2.2.2++([bxor .u8 a1 (rd a0.2.2.2.2.1 0)]:Li)),((a0.2.2.2.2.1.take ((a0.2.2.2.2.1.length:Int):Int).toNat).drop (1:Int).toNat),(a0.2.2.2.2.2++([bxor .u8 a1 (rd a0.2.2.2.2.1 0)]:Li))))) else (some (bxor .u8 a1 (rd a0.2.2.2.2.1 0),(a0.1,a0.2.1,a0.2.2.1,a0.2.2.2.1,((a0.2.2.2.2.1.take ((a0.2.2.2.2.1.length:Int):Int).toNat).drop (1:Int).toNat),(a0.2.2.2.2.2++([bxor .u8 a1 (rd a0.2.2.2.2.1 0)]:Li))))))) else (some (bxor .u8 a1 (rd a0.2.2.2.2.1 0),(a0.1,a0.2.1,a0.2.2.1,a0.2.2.2.1,((a0.2.2.2.2.1.take ((a0.2.2.2.2.1.length:Int):Int).toNat).drop (1:Int).toNat),(a0.2.2.2.2.2++([bxor .u8 a1 (rd a0.2.2.2.2.1 0)]:Li)))))))))))
theorem V7.calls {gp0:Nat} {csp0:List Value} {a0:Mo} {eq5:Ent} {a1:Int} {r:Int×Mo} (hp0:Rs_modes_Mode Zm csp0 a0) (hq5:Own5 eq5 csp0 a0) (hZm: ∀W,Kept w0 W→Oks FT W→Zm W) (M0:Mem w0 w (Gs [⟨.pt gp0,100,0,csp0⟩,eq5] [FT])) (h:V7.f k a0 a1=some r):Calls prog 73 #[.pt gp0,.y a1] w (Ret fun v w'=> ∃(cs':List Value) (F':List Ent) (eq5':Ent),v= .y r.1∧Rs_modes_Mode (andZ (Oks F') Zm) cs' r.2∧Own5 eq5' cs' r.2∧Mem w0 w' (Gs [⟨.pt gp0,100,0,cs'⟩,eq5'] [F',FT])):=by
 obtain ⟨uo3_0,_,_,_,_,uo3_5,rfl,ho3_0,rfl,rfl,⟨Ao3_3,co3_3,rfl,ho3_3⟩,⟨Ao3_4,co3_4,rfl,ho3_4⟩⟩:=hp0
 unfold V7.f at h
 refine calls_S func73 ?_
 have M:=M0
 refine .gq 10<| .lv M 0 rfl 4 rfl<| .gq 3 ?_
 rcases ift h with ⟨c4,h⟩ | ⟨c4,h⟩
 ·refine .kn 12 c4<| .gq 3 ?_
  have hs7:Rs_modes_Mode Zm [uo3_0,.i a0.2.1,.bool a0.2.2.1,.slice Ao3_3 a0.2.2.2.1.length co3_3,.slice Ao3_4 a0.2.2.2.2.1.length co3_4,uo3_5] a0:=⟨_,_,_,_,_,_,rfl,(upc _ _ _ _ (fun _ z=>z) ho3_0),rfl,rfl,(upn (fun _ z=>z) (rno ho3_3 (zl M hZm 0))),(upn (fun _ z=>z) (rno ho3_4 (zl M hZm 0)))⟩
  obtain ⟨t6,ht6,h⟩:=bs h
  refine .ca (V5.calls (hp0:=hs7) (hq5:=hq5) (hZm:=fun _ hk_ hT_=>(hZm _ hk_ (hT_.fg 0 rfl))) (M0:=M.fm [0,1] [] [0] rfl rfl rfl) (h:=ht6)) ?_
  rintro _ W5 ⟨cst6,Ft6,eq5t6,rfl,hRt6,hq5t6,M_⟩
  have hr8:Rs_modes_Mode (andZ (Oks Ft6) Zm) cst6 t6:=hRt6
  have hrhr85:Own5 eq5t6 cst6 t6:=hq5t6
  replace M:=M_.uf
  obtain ⟨uo10_0,_,_,_,_,uo10_5,rfl,ho10_0,rfl,rfl,⟨Ao10_3,co10_3,rfl,ho10_3⟩,⟨Ao10_4,co10_4,rfl,ho10_4⟩⟩:=hr8
  refine .gq 7<| .lv M 0 rfl 4 rfl ?_
  obtain ⟨c12,h⟩:=ifd h
  obtain ⟨pq11,Cq11⟩:=(ho10_4 _ (ai (M.oks 0) (zl M hZm 1))).na (i:=0) (by omega) c12
  refine .ix Cq11<| .lc Cq11<| .gq 9<| .lv M 0 rfl 4 rfl ?_
  obtain ⟨c13,h⟩:=ifd h
  refine .ct 1 (t6.2.2.2.2.1.length:Int) (ho10_4 _ (ai (M.oks 0) (zl M hZm 1))) fun A14 c15 hs16=> .gq 2<| .vf 4 (.slice A14 (((t6.2.2.2.2.1.take ((t6.2.2.2.2.1.length:Int):Int).toNat).drop (1:Int).toNat).length) c15) M 0 rfl fun W17 M=> .gq 12<| .lv M 0 rfl 2 rfl<| .gq 1 ?_
  rcases ift h with ⟨c18,h⟩ | ⟨c18,h⟩
  ·refine .kn 35 c18<| .gq 11 ?_
   obtain ⟨Aq19,cq19,eq19,rfl⟩:=hrhr85.resolve_left (pos_ne c12)
   obtain rfl:=sj eq19
   refine .lv M 0 rfl 5 rfl<| .gq 1<| .new 5 1 1 (nums .u8 [a1]) M fun g20 W21 M=> ?_
   obtain ⟨c26,h⟩:=ifd h
   refine .an M 2 rfl (M.or 0) c26 fun A23 c24 W25 M=> .gq 2<| .vf 5 (.slice A23 ((t6.2.2.2.2.2++([a1]:Li)).length) c24) M 1 rfl fun W28 M=> .gq 7<| .lv M 1 rfl 1 rfl<| .gq 7 ?_
   rcases ift h with ⟨c29,h⟩ | ⟨c29,h⟩
   ·refine .kn 51 c29<| .gq 7<| .lv M 1 rfl 3 rfl ?_
    obtain ⟨c30,h⟩:=ifd h
    refine .ct 1 (t6.2.2.2.1.length:Int) (ho10_3 _ (ai (M.oks 0) (zl M hZm 1))) fun A31 c32 hs33=> ?_
    obtain ⟨t35,ht35,h⟩:=bs h
    refine .ca (Yz.calls (hs33 _ (ho10_3 _ (ai (M.oks 0) (zl M hZm 1)))) ht35) ?_
    rintro _ W34 ⟨A36,c37,rfl,M_⟩
    replace M:=M.cg M_
    refine .gq 1<| .new 5 1 1 (nums .u8 [a1]) M fun g39 W40 M=> ?_
    obtain ⟨c45,h⟩:=ifd h
    refine .an M 1 rfl (M.or 0) c45 fun A42 c43 W44 M=> .gq 2<| .vf 3 (.slice A42 ((t35++([a1]:Li)).length) c43) M 3 rfl fun W47 M=> .gq 5<| .vf 4 (.slice none 0 0) M 3 rfl fun W48 M=> .gq 7 ?_
    obtain ⟨Fq49,hfq49,M⟩:=M.fs 1
    obtain rfl:=sj h
    exact .ret func73 ⟨[uo10_0,.i t6.2.1,.bool t6.2.2.1,.slice A42 ((t35++([a1]:Li)).length) c43,.slice none 0 0,.slice A23 ((t6.2.2.2.2.2++([a1]:Li)).length) c24],(List.flatten [Fq49,Ft6]),⟨.slice A23 ((t6.2.2.2.2.2++([a1]:Li)).length) c24,5,1,nums .u8 (t6.2.2.2.2.2++([a1]:Li))⟩,rfl,⟨_,_,_,_,_,_,rfl,(upc _ _ _ _ (fun _ z=>(ai (Oks.g z.1 1 rfl) z.2)) ho10_0),rfl,rfl,(upn (fun _ z=>(Oks.g z.1 0 rfl)) (rno hfq49 (M.oks 0))),⟨_,_,rfl,fun _ _=>Rd.nil _ _⟩⟩,(.inr ⟨_,_,rfl,rfl⟩),(M.pm [2,3] [[0,1],[2]])⟩
   refine .kn 51 c29<| .gq 6 ?_
   rcases ift h with ⟨c50,h⟩ | ⟨c50,h⟩
   ·refine .kn 68 c50<| .gq 6<| .lv M 1 rfl 4 rfl<| .gq 3 ?_
    let y51:Bool:=((((t6.2.2.2.2.1.take ((t6.2.2.2.2.1.length:Int):Int).toNat).drop (1:Int).toNat).length:Int)==0)
    replace h:=bz (y:=y51) h rfl
    rcases ift h with ⟨c52,h⟩ | ⟨c52,h⟩
    ·refine .kn 75 c52<| .gq 6<| .lv M 1 rfl 5 rfl<| .gq 2<| .vf 3 (.slice A23 ((t6.2.2.2.2.2++([a1]:Li)).length) c24) M 1 rfl fun W53 M=> .gq 7 ?_
     obtain ⟨Fq54,hfq54,M⟩:=M.fs 2
     replace M:=M.n1 5
     obtain rfl:=sj h
     exact .ret func73 ⟨[uo10_0,.i t6.2.1,.bool t6.2.2.1,.slice A23 ((t6.2.2.2.2.2++([a1]:Li)).length) c24,.slice A14 (((t6.2.2.2.2.1.take ((t6.2.2.2.2.1.length:Int):Int).toNat).drop (1:Int).toNat).length) c15,.slice A23 ((t6.2.2.2.2.2++([a1]:Li)).length) c24],(List.flatten [Fq54,Ft6]),⟨.slice none 0 0,5,1,nums .u8 []⟩,rfl,⟨_,_,_,_,_,_,rfl,(upc _ _ _ _ (fun _ z=>(ai (Oks.g z.1 1 rfl) z.2)) ho10_0),rfl,rfl,(upn (fun _ z=>(Oks.g z.1 0 rfl)) (rno hfq54 (M.oks 0))),(upn (fun _ z=>(ai (Oks.g z.1 1 rfl) z.2)) (rno (fun _ z=>hs16 _ (ho10_4 _ z)) (ai (M.oks 1) (zl M hZm 2))))⟩,(.inl (nil_of c52)),(M.pm [2,0] [[0,1],[2]])⟩
    refine .kn 75 c52<| .gq 8 ?_
    obtain rfl:=sj h
    exact .ret func73 ⟨[uo10_0,.i t6.2.1,.bool t6.2.2.1,.slice Ao10_3 t6.2.2.2.1.length co10_3,.slice A14 (((t6.2.2.2.2.1.take ((t6.2.2.2.2.1.length:Int):Int).toNat).drop (1:Int).toNat).length) c15,.slice A23 ((t6.2.2.2.2.2++([a1]:Li)).length) c24],Ft6,⟨.slice A23 ((t6.2.2.2.2.2++([a1]:Li)).length) c24,5,1,nums .u8 (t6.2.2.2.2.2++([a1]:Li))⟩,rfl,⟨_,_,_,_,_,_,rfl,(upc _ _ _ _ (fun _ z=>(ai z.1 z.2)) ho10_0),rfl,rfl,(upn (fun _ z=>(ai z.1 z.2)) (rno ho10_3 (ai (M.oks 0) (zl M hZm 1)))),(upn (fun _ z=>(ai z.1 z.2)) (rno (fun _ z=>hs16 _ (ho10_4 _ z)) (ai (M.oks 0) (zl M hZm 1))))⟩,(.inr ⟨_,_,rfl,rfl⟩),(M.pm [1,2] [[0],[1]])⟩
   refine .kn 68 c50<| .gq 8 ?_
   obtain rfl:=sj h
   exact .ret func73 ⟨[uo10_0,.i t6.2.1,.bool t6.2.2.1,.slice Ao10_3 t6.2.2.2.1.length co10_3,.slice A14 (((t6.2.2.2.2.1.take ((t6.2.2.2.2.1.length:Int):Int).toNat).drop (1:Int).toNat).length) c15,.slice A23 ((t6.2.2.2.2.2++([a1]:Li)).length) c24],Ft6,⟨.slice A23 ((t6.2.2.2.2.2++([a1]:Li)).length) c24,5,1,nums .u8 (t6.2.2.2.2.2++([a1]:Li))⟩,rfl,⟨_,_,_,_,_,_,rfl,(upc _ _ _ _ (fun _ z=>(ai z.1 z.2)) ho10_0),rfl,rfl,(upn (fun _ z=>(ai z.1 z.2)) (rno ho10_3 (ai (M.oks 0) (zl M hZm 1)))),(upn (fun _ z=>(ai z.1 z.2)) (rno (fun _ z=>hs16 _ (ho10_4 _ z)) (ai (M.oks 0) (zl M hZm 1))))⟩,(.inr ⟨_,_,rfl,rfl⟩),(M.pm [1,2] [[0],[1]])⟩
  refine .kn 35 c18<| .gq 8 ?_
  obtain ⟨Aq56,cq56,eq56,rfl⟩:=hrhr85.resolve_left (pos_ne c12)
  obtain rfl:=sj eq56
  refine .lv M 0 rfl 5 rfl<| .gq 1<| .new 5 1 1 (nums .u8 [bxor .u8 a1 (rd t6.2.2.2.2.1 0)]) M fun g57 W58 M=> ?_
  obtain ⟨c63,h⟩:=ifd h
  refine .an M 2 rfl (M.or 0) c63 fun A60 c61 W62 M=> .gq 2<| .vf 5 (.slice A60 ((t6.2.2.2.2.2++([bxor .u8 a1 (rd t6.2.2.2.2.1 0)]:Li)).length) c61) M 1 rfl fun W65 M=> .gq 7<| .lv M 1 rfl 1 rfl<| .gq 7 ?_
  rcases ift h with ⟨c66,h⟩ | ⟨c66,h⟩
  ·refine .kn 51 c66<| .gq 7<| .lv M 1 rfl 3 rfl ?_
   obtain ⟨c67,h⟩:=ifd h
   refine .ct 1 (t6.2.2.2.1.length:Int) (ho10_3 _ (ai (M.oks 0) (zl M hZm 1))) fun A68 c69 hs70=> ?_
   obtain ⟨t72,ht72,h⟩:=bs h
   refine .ca (Yz.calls (hs70 _ (ho10_3 _ (ai (M.oks 0) (zl M hZm 1)))) ht72) ?_
   rintro _ W71 ⟨A73,c74,rfl,M_⟩
   replace M:=M.cg M_
   refine .gq 1<| .new 5 1 1 (nums .u8 [bxor .u8 a1 (rd t6.2.2.2.2.1 0)]) M fun g76 W77 M=> ?_
   obtain ⟨c82,h⟩:=ifd h
   refine .an M 1 rfl (M.or 0) c82 fun A79 c80 W81 M=> .gq 2<| .vf 3 (.slice A79 ((t72++([bxor .u8 a1 (rd t6.2.2.2.2.1 0)]:Li)).length) c80) M 3 rfl fun W84 M=> .gq 5<| .vf 4 (.slice none 0 0) M 3 rfl fun W85 M=> .gq 7 ?_
   obtain ⟨Fq86,hfq86,M⟩:=M.fs 1
   obtain rfl:=sj h
   exact .ret func73 ⟨[uo10_0,.i t6.2.1,.bool t6.2.2.1,.slice A79 ((t72++([bxor .u8 a1 (rd t6.2.2.2.2.1 0)]:Li)).length) c80,.slice none 0 0,.slice A60 ((t6.2.2.2.2.2++([bxor .u8 a1 (rd t6.2.2.2.2.1 0)]:Li)).length) c61],(List.flatten [Fq86,Ft6]),⟨.slice A60 ((t6.2.2.2.2.2++([bxor .u8 a1 (rd t6.2.2.2.2.1 0)]:Li)).length) c61,5,1,nums .u8 (t6.2.2.2.2.2++([bxor .u8 a1 (rd t6.2.2.2.2.1 0)]:Li))⟩,rfl,⟨_,_,_,_,_,_,rfl,(upc _ _ _ _ (fun _ z=>(ai (Oks.g z.1 1 rfl) z.2)) ho10_0),rfl,rfl,(upn (fun _ z=>(Oks.g z.1 0 rfl)) (rno hfq86 (M.oks 0))),⟨_,_,rfl,fun _ _=>Rd.nil _ _⟩⟩,(.inr ⟨_,_,rfl,rfl⟩),(M.pm [2,3] [[0,1],[2]])⟩
  refine .kn 51 c66<| .gq 6 ?_
  rcases ift h with ⟨c87,h⟩ | ⟨c87,h⟩
  ·refine .kn 68 c87<| .gq 6<| .lv M 1 rfl 4 rfl<| .gq 3 ?_
   let y88:Bool:=((((t6.2.2.2.2.1.take ((t6.2.2.2.2.1.length:Int):Int).toNat).drop (1:Int).toNat).length:Int)==0)
   replace h:=bz (y:=y88) h rfl
   rcases ift h with ⟨c89,h⟩ | ⟨c89,h⟩
   ·refine .kn 75 c89<| .gq 6<| .lv M 1 rfl 5 rfl<| .gq 2<| .vf 3 (.slice A60 ((t6.2.2.2.2.2++([bxor .u8 a1 (rd t6.2.2.2.2.1 0)]:Li)).length) c61) M 1 rfl fun W90 M=> .gq 7 ?_
    obtain ⟨Fq91,hfq91,M⟩:=M.fs 2
    replace M:=M.n1 5
    obtain rfl:=sj h
    exact .ret func73 ⟨[uo10_0,.i t6.2.1,.bool t6.2.2.1,.slice A60 ((t6.2.2.2.2.2++([bxor .u8 a1 (rd t6.2.2.2.2.1 0)]:Li)).length) c61,.slice A14 (((t6.2.2.2.2.1.take ((t6.2.2.2.2.1.length:Int):Int).toNat).drop (1:Int).toNat).length) c15,.slice A60 ((t6.2.2.2.2.2++([bxor .u8 a1 (rd t6.2.2.2.2.1 0)]:Li)).length) c61],(List.flatten [Fq91,Ft6]),⟨.slice none 0 0,5,1,nums .u8 []⟩,rfl,⟨_,_,_,_,_,_,rfl,(upc _ _ _ _ (fun _ z=>(ai (Oks.g z.1 1 rfl) z.2)) ho10_0),rfl,rfl,(upn (fun _ z=>(Oks.g z.1 0 rfl)) (rno hfq91 (M.oks 0))),(upn (fun _ z=>(ai (Oks.g z.1 1 rfl) z.2)) (rno (fun _ z=>hs16 _ (ho10_4 _ z)) (ai (M.oks 1) (zl M hZm 2))))⟩,(.inl (nil_of c89)),(M.pm [2,0] [[0,1],[2]])⟩
   refine .kn 75 c89<| .gq 8 ?_
   obtain rfl:=sj h
   exact .ret func73 ⟨[uo10_0,.i t6.2.1,.bool t6.2.2.1,.slice Ao10_3 t6.2.2.2.1.length co10_3,.slice A14 (((t6.2.2.2.2.1.take ((t6.2.2.2.2.1.length:Int):Int).toNat).drop (1:Int).toNat).length) c15,.slice A60 ((t6.2.2.2.2.2++([bxor .u8 a1 (rd t6.2.2.2.2.1 0)]:Li)).length) c61],Ft6,⟨.slice A60 ((t6.2.2.2.2.2++([bxor .u8 a1 (rd t6.2.2.2.2.1 0)]:Li)).length) c61,5,1,nums .u8 (t6.2.2.2.2.2++([bxor .u8 a1 (rd t6.2.2.2.2.1 0)]:Li))⟩,rfl,⟨_,_,_,_,_,_,rfl,(upc _ _ _ _ (fun _ z=>(ai z.1 z.2)) ho10_0),rfl,rfl,(upn (fun _ z=>(ai z.1 z.2)) (rno ho10_3 (ai (M.oks 0) (zl M hZm 1)))),(upn (fun _ z=>(ai z.1 z.2)) (rno (fun _ z=>hs16 _ (ho10_4 _ z)) (ai (M.oks 0) (zl M hZm 1))))⟩,(.inr ⟨_,_,rfl,rfl⟩),(M.pm [1,2] [[0],[1]])⟩
  refine .kn 68 c87<| .gq 8 ?_
  obtain rfl:=sj h
  exact .ret func73 ⟨[uo10_0,.i t6.2.1,.bool t6.2.2.1,.slice Ao10_3 t6.2.2.2.1.length co10_3,.slice A14 (((t6.2.2.2.2.1.take ((t6.2.2.2.2.1.length:Int):Int).toNat).drop (1:Int).toNat).length) c15,.slice A60 ((t6.2.2.2.2.2++([bxor .u8 a1 (rd t6.2.2.2.2.1 0)]:Li)).length) c61],Ft6,⟨.slice A60 ((t6.2.2.2.2.2++([bxor .u8 a1 (rd t6.2.2.2.2.1 0)]:Li)).length) c61,5,1,nums .u8 (t6.2.2.2.2.2++([bxor .u8 a1 (rd t6.2.2.2.2.1 0)]:Li))⟩,rfl,⟨_,_,_,_,_,_,rfl,(upc _ _ _ _ (fun _ z=>(ai z.1 z.2)) ho10_0),rfl,rfl,(upn (fun _ z=>(ai z.1 z.2)) (rno ho10_3 (ai (M.oks 0) (zl M hZm 1)))),(upn (fun _ z=>(ai z.1 z.2)) (rno (fun _ z=>hs16 _ (ho10_4 _ z)) (ai (M.oks 0) (zl M hZm 1))))⟩,(.inr ⟨_,_,rfl,rfl⟩),(M.pm [1,2] [[0],[1]])⟩
 refine .kn 12 c4<| .gq 8<| .lv M 0 rfl 4 rfl ?_
 obtain ⟨c94,h⟩:=ifd h
 obtain ⟨pq93,Cq93⟩:=(ho3_4 _ (zl M hZm 0)).na (i:=0) (by omega) c94
 refine .ix Cq93<| .lc Cq93<| .gq 9<| .lv M 0 rfl 4 rfl ?_
 obtain ⟨c95,h⟩:=ifd h
 refine .ct 1 (a0.2.2.2.2.1.length:Int) (ho3_4 _ (zl M hZm 0)) fun A96 c97 hs98=> .gq 2<| .vf 4 (.slice A96 (((a0.2.2.2.2.1.take ((a0.2.2.2.2.1.length:Int):Int).toNat).drop (1:Int).toNat).length) c97) M 0 rfl fun W99 M=> .gq 12<| .lv M 0 rfl 2 rfl<| .gq 1 ?_
 rcases ift h with ⟨c100,h⟩ | ⟨c100,h⟩
 ·refine .kn 35 c100<| .gq 11 ?_
  obtain ⟨Aq101,cq101,eq101,rfl⟩:=hq5.resolve_left (pos_ne c94)
  obtain rfl:=sj eq101
  refine .lv M 0 rfl 5 rfl<| .gq 1<| .new 5 1 1 (nums .u8 [a1]) M fun g102 W103 M=> ?_
  obtain ⟨c108,h⟩:=ifd h
  refine .an M 2 rfl (M.or 0) c108 fun A105 c106 W107 M=> .gq 2<| .vf 5 (.slice A105 ((a0.2.2.2.2.2++([a1]:Li)).length) c106) M 1 rfl fun W110 M=> .gq 7<| .lv M 1 rfl 1 rfl<| .gq 7 ?_
  rcases ift h with ⟨c111,h⟩ | ⟨c111,h⟩
  ·refine .kn 51 c111<| .gq 7<| .lv M 1 rfl 3 rfl ?_
   obtain ⟨c112,h⟩:=ifd h
   refine .ct 1 (a0.2.2.2.1.length:Int) (ho3_3 _ (zl M hZm 0)) fun A113 c114 hs115=> ?_
   obtain ⟨t117,ht117,h⟩:=bs h
   refine .ca (Yz.calls (hs115 _ (ho3_3 _ (zl M hZm 0))) ht117) ?_
   rintro _ W116 ⟨A118,c119,rfl,M_⟩
   replace M:=M.cg M_
   refine .gq 1<| .new 5 1 1 (nums .u8 [a1]) M fun g121 W122 M=> ?_
   obtain ⟨c127,h⟩:=ifd h
   refine .an M 1 rfl (M.or 0) c127 fun A124 c125 W126 M=> .gq 2<| .vf 3 (.slice A124 ((t117++([a1]:Li)).length) c125) M 3 rfl fun W129 M=> .gq 5<| .vf 4 (.slice none 0 0) M 3 rfl fun W130 M=> .gq 7 ?_
   obtain ⟨Fq131,hfq131,M⟩:=M.fs 1
   obtain rfl:=sj h
   exact .ret func73 ⟨[uo3_0,.i a0.2.1,.bool a0.2.2.1,.slice A124 ((t117++([a1]:Li)).length) c125,.slice none 0 0,.slice A105 ((a0.2.2.2.2.2++([a1]:Li)).length) c106],Fq131,⟨.slice A105 ((a0.2.2.2.2.2++([a1]:Li)).length) c106,5,1,nums .u8 (a0.2.2.2.2.2++([a1]:Li))⟩,rfl,⟨_,_,_,_,_,_,rfl,(upc _ _ _ _ (fun _ z=>z.2) ho3_0),rfl,rfl,(upn (fun _ z=>z.1) (rno hfq131 (M.oks 0))),⟨_,_,rfl,fun _ _=>Rd.nil _ _⟩⟩,(.inr ⟨_,_,rfl,rfl⟩),(M.pm [2,3] [[0],[1]])⟩
  refine .kn 51 c111<| .gq 6 ?_
  rcases ift h with ⟨c132,h⟩ | ⟨c132,h⟩
  ·refine .kn 68 c132<| .gq 6<| .lv M 1 rfl 4 rfl<| .gq 3 ?_
   let y133:Bool:=((((a0.2.2.2.2.1.take ((a0.2.2.2.2.1.length:Int):Int).toNat).drop (1:Int).toNat).length:Int)==0)
   replace h:=bz (y:=y133) h rfl
   rcases ift h with ⟨c134,h⟩ | ⟨c134,h⟩
   ·refine .kn 75 c134<| .gq 6<| .lv M 1 rfl 5 rfl<| .gq 2<| .vf 3 (.slice A105 ((a0.2.2.2.2.2++([a1]:Li)).length) c106) M 1 rfl fun W135 M=> .gq 7 ?_
    obtain ⟨Fq136,hfq136,M⟩:=M.fs 2
    replace M:=M.n1 5
    obtain rfl:=sj h
    exact .ret func73 ⟨[uo3_0,.i a0.2.1,.bool a0.2.2.1,.slice A105 ((a0.2.2.2.2.2++([a1]:Li)).length) c106,.slice A96 (((a0.2.2.2.2.1.take ((a0.2.2.2.2.1.length:Int):Int).toNat).drop (1:Int).toNat).length) c97,.slice A105 ((a0.2.2.2.2.2++([a1]:Li)).length) c106],Fq136,⟨.slice none 0 0,5,1,nums .u8 []⟩,rfl,⟨_,_,_,_,_,_,rfl,(upc _ _ _ _ (fun _ z=>z.2) ho3_0),rfl,rfl,(upn (fun _ z=>z.1) (rno hfq136 (M.oks 0))),(upn (fun _ z=>z.2) (rno (fun _ z=>hs98 _ (ho3_4 _ z)) (zl M hZm 1)))⟩,(.inl (nil_of c134)),(M.pm [2,0] [[0],[1]])⟩
   refine .kn 75 c134<| .gq 8 ?_
   obtain rfl:=sj h
   exact .ret func73 ⟨[uo3_0,.i a0.2.1,.bool a0.2.2.1,.slice Ao3_3 a0.2.2.2.1.length co3_3,.slice A96 (((a0.2.2.2.2.1.take ((a0.2.2.2.2.1.length:Int):Int).toNat).drop (1:Int).toNat).length) c97,.slice A105 ((a0.2.2.2.2.2++([a1]:Li)).length) c106],([]:List Ent),⟨.slice A105 ((a0.2.2.2.2.2++([a1]:Li)).length) c106,5,1,nums .u8 (a0.2.2.2.2.2++([a1]:Li))⟩,rfl,⟨_,_,_,_,_,_,rfl,(upc _ _ _ _ (fun _ z=>z.2) ho3_0),rfl,rfl,(upn (fun _ z=>z.2) (rno ho3_3 (zl M hZm 0))),(upn (fun _ z=>z.2) (rno (fun _ z=>hs98 _ (ho3_4 _ z)) (zl M hZm 0)))⟩,(.inr ⟨_,_,rfl,rfl⟩),(M.pm [1,2] [[],[0]])⟩
  refine .kn 68 c132<| .gq 8 ?_
  obtain rfl:=sj h
  exact .ret func73 ⟨[uo3_0,.i a0.2.1,.bool a0.2.2.1,.slice Ao3_3 a0.2.2.2.1.length co3_3,.slice A96 (((a0.2.2.2.2.1.take ((a0.2.2.2.2.1.length:Int):Int).toNat).drop (1:Int).toNat).length) c97,.slice A105 ((a0.2.2.2.2.2++([a1]:Li)).length) c106],([]:List Ent),⟨.slice A105 ((a0.2.2.2.2.2++([a1]:Li)).length) c106,5,1,nums .u8 (a0.2.2.2.2.2++([a1]:Li))⟩,rfl,⟨_,_,_,_,_,_,rfl,(upc _ _ _ _ (fun _ z=>z.2) ho3_0),rfl,rfl,(upn (fun _ z=>z.2) (rno ho3_3 (zl M hZm 0))),(upn (fun _ z=>z.2) (rno (fun _ z=>hs98 _ (ho3_4 _ z)) (zl M hZm 0)))⟩,(.inr ⟨_,_,rfl,rfl⟩),(M.pm [1,2] [[],[0]])⟩
 refine .kn 35 c100<| .gq 8 ?_
 obtain ⟨Aq138,cq138,eq138,rfl⟩:=hq5.resolve_left (pos_ne c94)
 obtain rfl:=sj eq138
 refine .lv M 0 rfl 5 rfl<| .gq 1<| .new 5 1 1 (nums .u8 [bxor .u8 a1 (rd a0.2.2.2.2.1 0)]) M fun g139 W140 M=> ?_
 obtain ⟨c145,h⟩:=ifd h
 refine .an M 2 rfl (M.or 0) c145 fun A142 c143 W144 M=> .gq 2<| .vf 5 (.slice A142 ((a0.2.2.2.2.2++([bxor .u8 a1 (rd a0.2.2.2.2.1 0)]:Li)).length) c143) M 1 rfl fun W147 M=> .gq 7<| .lv M 1 rfl 1 rfl<| .gq 7 ?_
 rcases ift h with ⟨c148,h⟩ | ⟨c148,h⟩
 ·refine .kn 51 c148<| .gq 7<| .lv M 1 rfl 3 rfl ?_
  obtain ⟨c149,h⟩:=ifd h
  refine .ct 1 (a0.2.2.2.1.length:Int) (ho3_3 _ (zl M hZm 0)) fun A150 c151 hs152=> ?_
  obtain ⟨t154,ht154,h⟩:=bs h
  refine .ca (Yz.calls (hs152 _ (ho3_3 _ (zl M hZm 0))) ht154) ?_
  rintro _ W153 ⟨A155,c156,rfl,M_⟩
  replace M:=M.cg M_
  refine .gq 1<| .new 5 1 1 (nums .u8 [bxor .u8 a1 (rd a0.2.2.2.2.1 0)]) M fun g158 W159 M=> ?_
  obtain ⟨c164,h⟩:=ifd h
  refine .an M 1 rfl (M.or 0) c164 fun A161 c162 W163 M=> .gq 2<| .vf 3 (.slice A161 ((t154++([bxor .u8 a1 (rd a0.2.2.2.2.1 0)]:Li)).length) c162) M 3 rfl fun W166 M=> .gq 5<| .vf 4 (.slice none 0 0) M 3 rfl fun W167 M=> .gq 7 ?_
  obtain ⟨Fq168,hfq168,M⟩:=M.fs 1
  obtain rfl:=sj h
  exact .ret func73 ⟨[uo3_0,.i a0.2.1,.bool a0.2.2.1,.slice A161 ((t154++([bxor .u8 a1 (rd a0.2.2.2.2.1 0)]:Li)).length) c162,.slice none 0 0,.slice A142 ((a0.2.2.2.2.2++([bxor .u8 a1 (rd a0.2.2.2.2.1 0)]:Li)).length) c143],Fq168,⟨.slice A142 ((a0.2.2.2.2.2++([bxor .u8 a1 (rd a0.2.2.2.2.1 0)]:Li)).length) c143,5,1,nums .u8 (a0.2.2.2.2.2++([bxor .u8 a1 (rd a0.2.2.2.2.1 0)]:Li))⟩,rfl,⟨_,_,_,_,_,_,rfl,(upc _ _ _ _ (fun _ z=>z.2) ho3_0),rfl,rfl,(upn (fun _ z=>z.1) (rno hfq168 (M.oks 0))),⟨_,_,rfl,fun _ _=>Rd.nil _ _⟩⟩,(.inr ⟨_,_,rfl,rfl⟩),(M.pm [2,3] [[0],[1]])⟩
 refine .kn 51 c148<| .gq 6 ?_
 rcases ift h with ⟨c169,h⟩ | ⟨c169,h⟩
 ·refine .kn 68 c169<| .gq 6<| .lv M 1 rfl 4 rfl<| .gq 3 ?_
  let y170:Bool:=((((a0.2.2.2.2.1.take ((a0.2.2.2.2.1.length:Int):Int).toNat).drop (1:Int).toNat).length:Int)==0)
  replace h:=bz (y:=y170) h rfl
  rcases ift h with ⟨c171,h⟩ | ⟨c171,h⟩
  ·refine .kn 75 c171<| .gq 6<| .lv M 1 rfl 5 rfl<| .gq 2<| .vf 3 (.slice A142 ((a0.2.2.2.2.2++([bxor .u8 a1 (rd a0.2.2.2.2.1 0)]:Li)).length) c143) M 1 rfl fun W172 M=> .gq 7 ?_
   obtain ⟨Fq173,hfq173,M⟩:=M.fs 2
   replace M:=M.n1 5
   obtain rfl:=sj h
   exact .ret func73 ⟨[uo3_0,.i a0.2.1,.bool a0.2.2.1,.slice A142 ((a0.2.2.2.2.2++([bxor .u8 a1 (rd a0.2.2.2.2.1 0)]:Li)).length) c143,.slice A96 (((a0.2.2.2.2.1.take ((a0.2.2.2.2.1.length:Int):Int).toNat).drop (1:Int).toNat).length) c97,.slice A142 ((a0.2.2.2.2.2++([bxor .u8 a1 (rd a0.2.2.2.2.1 0)]:Li)).length) c143],Fq173,⟨.slice none 0 0,5,1,nums .u8 []⟩,rfl,⟨_,_,_,_,_,_,rfl,(upc _ _ _ _ (fun _ z=>z.2) ho3_0),rfl,rfl,(upn (fun _ z=>z.1) (rno hfq173 (M.oks 0))),(upn (fun _ z=>z.2) (rno (fun _ z=>hs98 _ (ho3_4 _ z)) (zl M hZm 1)))⟩,(.inl (nil_of c171)),(M.pm [2,0] [[0],[1]])⟩
  refine .kn 75 c171<| .gq 8 ?_
  obtain rfl:=sj h
  exact .ret func73 ⟨[uo3_0,.i a0.2.1,.bool a0.2.2.1,.slice Ao3_3 a0.2.2.2.1.length co3_3,.slice A96 (((a0.2.2.2.2.1.take ((a0.2.2.2.2.1.length:Int):Int).toNat).drop (1:Int).toNat).length) c97,.slice A142 ((a0.2.2.2.2.2++([bxor .u8 a1 (rd a0.2.2.2.2.1 0)]:Li)).length) c143],([]:List Ent),⟨.slice A142 ((a0.2.2.2.2.2++([bxor .u8 a1 (rd a0.2.2.2.2.1 0)]:Li)).length) c143,5,1,nums .u8 (a0.2.2.2.2.2++([bxor .u8 a1 (rd a0.2.2.2.2.1 0)]:Li))⟩,rfl,⟨_,_,_,_,_,_,rfl,(upc _ _ _ _ (fun _ z=>z.2) ho3_0),rfl,rfl,(upn (fun _ z=>z.2) (rno ho3_3 (zl M hZm 0))),(upn (fun _ z=>z.2) (rno (fun _ z=>hs98 _ (ho3_4 _ z)) (zl M hZm 0)))⟩,(.inr ⟨_,_,rfl,rfl⟩),(M.pm [1,2] [[],[0]])⟩
 refine .kn 68 c169<| .gq 8 ?_
 obtain rfl:=sj h
 exact .ret func73 ⟨[uo3_0,.i a0.2.1,.bool a0.2.2.1,.slice Ao3_3 a0.2.2.2.1.length co3_3,.slice A96 (((a0.2.2.2.2.1.take ((a0.2.2.2.2.1.length:Int):Int).toNat).drop (1:Int).toNat).length) c97,.slice A142 ((a0.2.2.2.2.2++([bxor .u8 a1 (rd a0.2.2.2.2.1 0)]:Li)).length) c143],([]:List Ent),⟨.slice A142 ((a0.2.2.2.2.2++([bxor .u8 a1 (rd a0.2.2.2.2.1 0)]:Li)).length) c143,5,1,nums .u8 (a0.2.2.2.2.2++([bxor .u8 a1 (rd a0.2.2.2.2.1 0)]:Li))⟩,rfl,⟨_,_,_,_,_,_,rfl,(upc _ _ _ _ (fun _ z=>z.2) ho3_0),rfl,rfl,(upn (fun _ z=>z.2) (rno ho3_3 (zl M hZm 0))),(upn (fun _ z=>z.2) (rno (fun _ z=>hs98 _ (ho3_4 _ z)) (zl M hZm 0)))⟩,(.inr ⟨_,_,rfl,rfl⟩),(M.pm [1,2] [[],[0]])⟩
def V4.l0:Nat→Int→Mo→Li→Li→Option (Li×Int×Mo)
 | 0,_,_,_,_=>none
 | k+1,t5,x0_0,x1_0,x7_0=>if ((x1_0.length:Int)==0)=true then (some (x7_0,0,x0_0)) else (if (t5==1)=true then (gd (0<(x1_0.length:Int)) ((V7.f k x0_0 (rd x1_0 0)).bind fun t22=>(gd (x7_0.length+([t22.1]:Li).length≤1000000000) (gd (0≤t5) (gd (t5≤(x1_0.length:Int)) (V4.l0 k t5 t22.2 ((x1_0.take ((x1_0.length:Int):Int).toNat).drop (t5:Int).toNat) (x7_0++([t22.1]:Li)))))))) else (gd (0≤t5) (gd (t5≤(x1_0.length:Int)) ((V6.f k x0_0 ((x1_0.take (t5:Int).toNat).drop (0:Int).toNat)).bind fun t46=>(gd (x7_0.length+t46.1.length≤1000000000) (gd (0≤t5) (gd (t5≤(x1_0.length:Int)) (V4.l0 k t5 t46.2 ((x1_0.take ((x1_0.length:Int):Int).toNat).drop (t5:Int).toNat) (x7_0++t46.1)))))))))
def V4.f (k:Nat) (a0:Mo) (a1:Li):Option (Li×Int×Mo):=(V3.f k a0).bind fun t5=>(if (decide (t5=0))=true then (none) else (if (decide ((Int.tmod (a1.length:Int) t5)>0))=true then (some (([]:Li),7,a0)) else (gd (0≤(a1.length:Int)) (gd ((a1.length:Int)≤1000000000) (V4.l0 k t5 a0 a1 (List.replicate 0 (0:Int)))))))
abbrev V4.R (gp0:Nat) (r:Li×Int×Mo) (w0:World) (FT:List Ent) (Zm:Zp):Value→World→Prop:=fun v w'=> ∃A0' c0',∃(cs':List Value) (F':List Ent) (eq5':Ent),v= .tuple #[.slice A0' r.1.length c0',.i r.2.1]∧Rs_modes_Mode (andZ (Oks F') Zm) cs' r.2.2∧Own5 eq5' cs' r.2.2∧Mem w0 w' (Gs [⟨.slice A0' r.1.length c0',5,1,nums .u8 r.1⟩,⟨.pt gp0,100,0,cs'⟩,eq5'] [F',FT])
theorem V4.calls {gp0:Nat} {csp0:List Value} {a0:Mo} {eq5:Ent} {a1:Li} {r:Li×Int×Mo} (hp0:Rs_modes_Mode Zm csp0 a0) (hq5:Own5 eq5 csp0 a0) (hZm: ∀W,Kept w0 W→Oks FT W→Zm W) (M0:Mem w0 w (Gs [⟨.pt gp0,100,0,csp0⟩,eq5] [FT])) (hr1:RdF Zp1 (.slice Ap1 np1 cp1) (nums .u8 a1)) (hZp1: ∀W,Kept w0 W→Oks FT W→Zp1 W) (h:V4.f k a0 a1=some r):Calls prog 33 #[.pt gp0,(.slice Ap1 np1 cp1)] w (Ret (V4.R gp0 r w0 FT Zm)):=by
 obtain rfl:=(hr1 _ (hZp1 _ M0.kept (M0.oks 0))).ln
 obtain ⟨uo3_0,_,_,_,_,uo3_5,rfl,ho3_0,rfl,rfl,⟨Ao3_3,co3_3,rfl,ho3_3⟩,⟨Ao3_4,co3_4,rfl,ho3_4⟩⟩:=hp0
 unfold V4.f at h
 refine calls_S func33 ?_
 have M:=M0
 refine .gq 9 ?_
 obtain ⟨t5,ht5,h⟩:=bs h
 refine .ca (V3.calls (Zp0:=Kept w) (a0:=a0) ⟨gp0,_,rfl,(M.cellsKept 0 rfl),_,_,_,_,_,_,rfl,(upc _ _ _ _ (zk M hZm 0) ho3_0),rfl,rfl,(upn (zk M hZm 0) (rno ho3_3 (zl M hZm 0))),(upn (zk M hZm 0) (rno ho3_4 (zl M hZm 0)))⟩ (fun _ h_=>h_) ht5) ?_
 rintro _ W4 ⟨rfl,M_⟩
 replace M:=M.cg M_
 refine .gq 8 ?_
 obtain ⟨c6,h⟩:=ifn h
 refine .yt (yl_rem (kd:= .i64) (a1.length:Int) c6)<| .gq 2 ?_
 rcases ift h with ⟨c7,h⟩ | ⟨c7,h⟩
 ·refine .kn 14 c7<| .gq 6 ?_
  replace M:=M.n1 5
  obtain rfl:=sj h
  exact .ret func33 ⟨none,0,[uo3_0,.i a0.2.1,.bool a0.2.2.1,.slice Ao3_3 a0.2.2.2.1.length co3_3,.slice Ao3_4 a0.2.2.2.2.1.length co3_4,uo3_5],([]:List Ent),eq5,rfl,⟨_,_,_,_,_,_,rfl,(upc _ _ _ _ (fun _ z=>z.2) ho3_0),rfl,rfl,(upn (fun _ z=>z.2) (rno ho3_3 (zl M hZm 0))),(upn (fun _ z=>z.2) (rno ho3_4 (zl M hZm 0)))⟩,hq5,(M.pm [0,1,2] [[],[0]])⟩
 refine .kn 14 c7<| .gq 6 ?_
 obtain ⟨c11,h⟩:=ifd h
 obtain ⟨c12,h⟩:=ifd h
 refine .mn 5 .u8 0 (a1.length:Int) M fun g10 W9 M=> .gq 4 ?_
 have l0: ∀k_≤k,∀(cs0_0:List Value) (x0_0:Mo) (F0_0:List Ent) (eq50_0:Ent) (A1_0:Option Addr) (c1_0:Nat) (x1_0:Li) (A7_0:Option Addr) (c7_0:Nat) (x7_0:Li) {W:World} (M:Mem w0 W (Gs [⟨.pt gp0,100,0,cs0_0⟩,eq50_0,⟨.slice A7_0 x7_0.length c7_0,5,1,nums .u8 x7_0⟩] [F0_0,FT])) (hR0_0:Rs_modes_Mode (andZ (Oks F0_0) Zm) cs0_0 x0_0) (hq50_0:Own5 eq50_0 cs0_0 x0_0) (hrx1_0:RdF Zp1 (.slice A1_0 x1_0.length c1_0) (nums .u8 x1_0)) (h:V4.l0 k_ t5 x0_0 x1_0 x7_0=some r),RL 33 f33 (V4.R gp0 r w0 FT Zm) [1,0,1,1,1,1] [(0,.pt gp0),(1,.slice A1_0 x1_0.length c1_0),(6,.i t5),(7,.slice A7_0 x7_0.length c7_0)] W:=by
  refine loopI (by intros;rename_i h;simp [V4.l0] at h) fun k hk ih0 cs0_0 x0_0 F0_0 eq50_0 A1_0 c1_0 x1_0 A7_0 c7_0 x7_0 W M hR0_0 hq50_0 hrx1_0 h=> ?_
  simp only [V4.l0] at h
  obtain ⟨uo16_0,_,_,_,_,uo16_5,rfl,ho16_0,rfl,rfl,⟨Ao16_3,co16_3,rfl,ho16_3⟩,⟨Ao16_4,co16_4,rfl,ho16_4⟩⟩:=hR0_0
  refine .gq 9 ?_
  rcases ift h with ⟨c17,h⟩ | ⟨c17,h⟩
  ·refine .kn 25 c17<| .gq 7 ?_
   obtain rfl:=sj h
   exact .ret func33 ⟨A7_0,c7_0,[uo16_0,.i x0_0.2.1,.bool x0_0.2.2.1,.slice Ao16_3 x0_0.2.2.2.1.length co16_3,.slice Ao16_4 x0_0.2.2.2.2.1.length co16_4,uo16_5],F0_0,eq50_0,rfl,⟨_,_,_,_,_,_,rfl,(upc _ _ _ _ (fun _ z=>(ai z.1 z.2)) ho16_0),rfl,rfl,(upn (fun _ z=>(ai z.1 z.2)) (rno ho16_3 (ai (M.oks 0) (zl M hZm 1)))),(upn (fun _ z=>(ai z.1 z.2)) (rno ho16_4 (ai (M.oks 0) (zl M hZm 1))))⟩,hq50_0,(M.pm [2,0,1] [[0],[1]])⟩
  refine .kn 25 c17<| .gq 7 ?_
  rcases ift h with ⟨c18,h⟩ | ⟨c18,h⟩
  ·refine .kn 30 c18<| .gq 5 ?_
   obtain ⟨c20,h⟩:=ifd h
   obtain ⟨pq19,Cq19⟩:=(hrx1_0 _ (zl M hZp1 1)).na (i:=0) (by omega) c20
   refine .ix Cq19<| .lc Cq19 ?_
   have hs23:Rs_modes_Mode (andZ (Oks F0_0) Zm) [uo16_0,.i x0_0.2.1,.bool x0_0.2.2.1,.slice Ao16_3 x0_0.2.2.2.1.length co16_3,.slice Ao16_4 x0_0.2.2.2.2.1.length co16_4,uo16_5] x0_0:=⟨_,_,_,_,_,_,rfl,(upc _ _ _ _ (fun _ z=>(ai z.1 z.2)) ho16_0),rfl,rfl,(upn (fun _ z=>(ai z.1 z.2)) (rno ho16_3 (ai (M.oks 0) (zl M hZm 1)))),(upn (fun _ z=>(ai z.1 z.2)) (rno ho16_4 (ai (M.oks 0) (zl M hZm 1))))⟩
   obtain ⟨t22,ht22,h⟩:=bs h
   refine .ca (V7.calls (hp0:=hs23) (hq5:=hq50_0) (hZm:=fun _ hk_ hT_=>(ai (hT_.fg 0 rfl) (hZm _ hk_ (hT_.fg 1 rfl)))) (M0:=M.fm [0,1] [2] [0,1] rfl rfl rfl) (h:=ht22)) ?_
   rintro _ W21 ⟨cst22,Ft22,eq5t22,rfl,hRt22,hq5t22,M_⟩
   have hr24:Rs_modes_Mode (andZ (Oks Ft22) (andZ (Oks F0_0) Zm)) cst22 t22.2:=hRt22
   have hrhr245:Own5 eq5t22 cst22 t22.2:=hq5t22
   replace M:=M_.uf
   obtain ⟨uo26_0,_,_,_,_,uo26_5,rfl,ho26_0,rfl,rfl,⟨Ao26_3,co26_3,rfl,ho26_3⟩,⟨Ao26_4,co26_4,rfl,ho26_4⟩⟩:=hr24
   refine .new 5 1 1 (nums .u8 [t22.1]) M fun g27 W28 M=> ?_
   obtain ⟨c33,h⟩:=ifd h
   refine .an M 3 rfl (M.or 0) c33 fun A30 c31 W32 M=> .gq 7 ?_
   obtain ⟨c35,h⟩:=ifd h
   obtain ⟨c36,h⟩:=ifd h
   exact .ct t5 (x1_0.length:Int) (hrx1_0 _ (zl M hZp1 2)) fun A37 c38 hs39=> .gq 5<| .at (ih0 k (by omega) [uo26_0,.i t22.2.2.1,.bool t22.2.2.2.1,.slice Ao26_3 t22.2.2.2.2.1.length co26_3,.slice Ao26_4 t22.2.2.2.2.2.1.length co26_4,uo26_5] t22.2 (List.flatten [Ft22,F0_0]) eq5t22 A37 c38 ((x1_0.take ((x1_0.length:Int):Int).toNat).drop (t5:Int).toNat) A30 c31 (x7_0++([t22.1]:Li)) (M.pm [1,2,3] [[0,1],[2]]) ⟨_,_,_,_,_,_,rfl,(upc _ _ _ _ (fun _ z=>(ai (Oks.g z.1 0 rfl) (ai (Oks.g z.1 1 rfl) z.2))) ho26_0),rfl,rfl,(upn (fun _ z=>(ai (Oks.g z.1 0 rfl) (ai (Oks.g z.1 1 rfl) z.2))) (rno ho26_3 (ai (M.oks 0) (ai (M.oks 1) (zl M hZm 2))))),(upn (fun _ z=>(ai (Oks.g z.1 0 rfl) (ai (Oks.g z.1 1 rfl) z.2))) (rno ho26_4 (ai (M.oks 0) (ai (M.oks 1) (zl M hZm 2)))))⟩ hrhr245 (fun _ z=>hs39 _ (hrx1_0 _ z)) h)
  refine .kn 30 c18<| .gq 6 ?_
  obtain ⟨c40,h⟩:=ifd h
  obtain ⟨c41,h⟩:=ifd h
  refine .ct 0 t5 (hrx1_0 _ (zl M hZp1 1)) fun A42 c43 hs44=> ?_
  have hs47:Rs_modes_Mode (andZ (Oks F0_0) Zm) [uo16_0,.i x0_0.2.1,.bool x0_0.2.2.1,.slice Ao16_3 x0_0.2.2.2.1.length co16_3,.slice Ao16_4 x0_0.2.2.2.2.1.length co16_4,uo16_5] x0_0:=⟨_,_,_,_,_,_,rfl,(upc _ _ _ _ (fun _ z=>(ai z.1 z.2)) ho16_0),rfl,rfl,(upn (fun _ z=>(ai z.1 z.2)) (rno ho16_3 (ai (M.oks 0) (zl M hZm 1)))),(upn (fun _ z=>(ai z.1 z.2)) (rno ho16_4 (ai (M.oks 0) (zl M hZm 1))))⟩
  obtain ⟨t46,ht46,h⟩:=bs h
  refine .ca (V6.calls (hp0:=hs47) (hq5:=hq50_0) (hZm:=fun _ hk_ hT_=>(ai (hT_.fg 0 rfl) (hZm _ hk_ (hT_.fg 1 rfl)))) (M0:=M.fm [0,1] [2] [0,1] rfl rfl rfl) (Zp1:=fun W_=>Rd W_ (.slice A42 (((x1_0.take (t5:Int).toNat).drop (0:Int).toNat).length) c43) (nums .u8 ((x1_0.take (t5:Int).toNat).drop (0:Int).toNat))) (hr1:=fun _ h_=>h_) (hZp1:=fun _ hk_ hT_=>(hs44 _ (hrx1_0 _ (hZp1 _ hk_ (hT_.fg 1 rfl))))) (h:=ht46)) ?_
  rintro _ W45 ⟨A48,c49,cst46,Ft46,eq5t46,rfl,hRt46,hq5t46,M_⟩
  have hr51:Rs_modes_Mode (andZ (Oks Ft46) (andZ (Oks F0_0) Zm)) cst46 t46.2:=hRt46
  have hrhr515:Own5 eq5t46 cst46 t46.2:=hq5t46
  replace M:=M_.uf
  obtain ⟨uo53_0,_,_,_,_,uo53_5,rfl,ho53_0,rfl,rfl,⟨Ao53_3,co53_3,rfl,ho53_3⟩,⟨Ao53_4,co53_4,rfl,ho53_4⟩⟩:=hr51
  obtain ⟨c57,h⟩:=ifd h
  refine .an M 3 rfl (M.or 0) c57 fun A54 c55 W56 M=> .gq 7 ?_
  obtain ⟨c59,h⟩:=ifd h
  obtain ⟨c60,h⟩:=ifd h
  exact .ct t5 (x1_0.length:Int) (hrx1_0 _ (zl M hZp1 2)) fun A61 c62 hs63=> .gq 5<| .at (ih0 k (by omega) [uo53_0,.i t46.2.2.1,.bool t46.2.2.2.1,.slice Ao53_3 t46.2.2.2.2.1.length co53_3,.slice Ao53_4 t46.2.2.2.2.2.1.length co53_4,uo53_5] t46.2 (List.flatten [Ft46,F0_0]) eq5t46 A61 c62 ((x1_0.take ((x1_0.length:Int):Int).toNat).drop (t5:Int).toNat) A54 c55 (x7_0++t46.1) (M.pm [1,2,3] [[0,1],[2]]) ⟨_,_,_,_,_,_,rfl,(upc _ _ _ _ (fun _ z=>(ai (Oks.g z.1 0 rfl) (ai (Oks.g z.1 1 rfl) z.2))) ho53_0),rfl,rfl,(upn (fun _ z=>(ai (Oks.g z.1 0 rfl) (ai (Oks.g z.1 1 rfl) z.2))) (rno ho53_3 (ai (M.oks 0) (ai (M.oks 1) (zl M hZm 2))))),(upn (fun _ z=>(ai (Oks.g z.1 0 rfl) (ai (Oks.g z.1 1 rfl) z.2))) (rno ho53_4 (ai (M.oks 0) (ai (M.oks 1) (zl M hZm 2)))))⟩ hrhr515 (fun _ z=>hs63 _ (hrx1_0 _ z)) h)
 exact .at (l0 k k.le_refl [uo3_0,.i a0.2.1,.bool a0.2.2.1,.slice Ao3_3 a0.2.2.2.1.length co3_3,.slice Ao3_4 a0.2.2.2.2.1.length co3_4,uo3_5] a0 ([]:List Ent) eq5 Ap1 cp1 a1 (pa g10) (((a1.length:Int):Int).toNat) (List.replicate 0 (0:Int)) (M.pm [1,2,0] [[],[0]]) ⟨_,_,_,_,_,_,rfl,(upc _ _ _ _ (fun _ z=>z.2) ho3_0),rfl,rfl,(upn (fun _ z=>z.2) (rno ho3_3 (zl M hZm 0))),(upn (fun _ z=>z.2) (rno ho3_4 (zl M hZm 0)))⟩ hq5 hr1 h)
end Go.Scr.S

namespace Go.Scr.S
variable {k np0 cp0 np1 cp1 np2 cp2 np3 cp3 np4 cp4:Nat} {Ap0 Ap1 Ap2 Ap3 Ap4:Option Addr} {w w0:World} {FT:List Ent} {Zm Zp0 Zp1 Zp2 Zp3:Zp}
open Go.RowKit (Below)
open Go.Proofs.Tryz (prog f29 func29)
def V8.f (k:Nat) (a0:Ci) (a1:Int) (a2:Bool) (a3:Li):Option (Mo×Int):=(Qy.f k a0).bind fun t3=>(if (a1==1)=true then (if ((a3.length:Int) != 0)=true then (none) else ((Yz.f k a3).bind fun t7=>(some (((some a0),a1,a2,t7,([]:Li),([]:Li)),0)))) else (if (a1==2)=true then (if ((a3.length:Int) != t3)=true then (none) else ((Yz.f k a3).bind fun t18=>(some (((some a0),a1,a2,t18,([]:Li),([]:Li)),0)))) else (if (a1==3)=true then (if ((a3.length:Int) != t3)=true then (none) else ((Yz.f k a3).bind fun t29=>(some (((some a0),a1,a2,t29,([]:Li),([]:Li)),0)))) else (if (a1==4)=true then (if ((a3.length:Int) != t3)=true then (none) else ((Yz.f k a3).bind fun t40=>(some (((some a0),a1,a2,t40,([]:Li),([]:Li)),0)))) else (if (a1==5)=true then (if ((a3.length:Int) != t3)=true then (none) else ((Yz.f k a3).bind fun t51=>(some (((some a0),a1,a2,t51,([]:Li),([]:Li)),0)))) else (if (a1==6)=true then (if ((a3.length:Int) != t3)=true then (none) else ((Yz.f k a3).bind fun t62=>(some (((some a0),a1,a2,t62,([]:Li),([]:Li)),0)))) else (none)))))))
theorem V8.calls {vp0:Value} {a0:Ci} {a1:Int} {a2:Bool} {a3:Li} {r:Mo×Int} (hr3:Rd w (.slice Ap3 np3 cp3) (nums .u8 a3)) (hp0:(rPtr Rs_cipher_Cipher) Zp0 vp0 a0) (hZp0: ∀W,Kept w W→Zp0 W) (h:V8.f k a0 a1 a2 a3=some r):Calls prog 29 #[vp0,.i a1,.bool a2,(.slice Ap3 np3 cp3)] w (Ret fun v w'=> ∃(g0':Nat) (cs0':List Value) (F0':List Ent),v= .tuple #[.pointer (some ⟨g0',0,none⟩),.i r.2]∧Rs_modes_Mode (andZ (Oks F0') Zp0) cs0' r.1∧r.1.2.2.2.2.1=[]∧Mem w w' (Gs [⟨.pointer (some ⟨g0',0,none⟩),100,0,cs0'⟩] [F0'])):=by
 obtain rfl:=hr3.ln
 obtain ⟨gp0,_,rfl,hco1,_,uo1_1,rfl,rfl,ho1_1⟩:=id hp0
 unfold V8.f at h
 refine calls_S func29 ?_
 have M:=Mem.r0 w
 refine .gq 8 ?_
 obtain ⟨t3,ht3,h⟩:=bs h
 refine .ca (Qy.calls hp0 (zp M hZp0) ht3) ?_
 rintro _ W2 ⟨rfl,M_⟩
 replace M:=M.cg M_
 refine .gq 19 ?_
 rcases ift h with ⟨c4,h⟩ | ⟨c4,h⟩
 ·refine .kn 14 c4<| .gq 15 ?_
  obtain ⟨c5,h⟩:=ifz h
  refine .kn 25 c5<| .gq 8 ?_
  obtain ⟨t7,ht7,h⟩:=bs h
  refine .ca (Yz.calls (hr3.mono M.below) ht7) ?_
  rintro _ W6 ⟨A8,c9,rfl,M_⟩
  replace M:=M.cg M_
  obtain ⟨Fq11,hfq11,M⟩:=M.fs 0
  refine .gq 1<| .nw 100 ([.pt gp0,.i a1,.bool a2,.slice A8 t7.length c9,.slice none 0 0,.slice none 0 0]) M fun g12 W13 M=> .gq 3 ?_
  obtain rfl:=sj h
  exact .ret func29 ⟨g12,[.pt gp0,.i a1,.bool a2,.slice A8 t7.length c9,.slice none 0 0,.slice none 0 0],Fq11,rfl,⟨_,_,_,_,_,_,rfl,(upc _ _ _ _ (fun _ z=>z.2) (.inr ⟨a0,rfl,hp0⟩)),rfl,rfl,(upn (fun _ z=>z.1) (rno hfq11 (M.oks 0))),⟨_,_,rfl,fun _ _=>Rd.nil _ _⟩⟩,rfl,(M.pm [0] [[0]])⟩
 refine .kn 14 c4<| .gq 8 ?_
 rcases ift h with ⟨c15,h⟩ | ⟨c15,h⟩
 ·refine .kn 16 c15<| .gq 13 ?_
  obtain ⟨c16,h⟩:=ifz h
  refine .kn 25 c16<| .gq 8 ?_
  obtain ⟨t18,ht18,h⟩:=bs h
  refine .ca (Yz.calls (hr3.mono M.below) ht18) ?_
  rintro _ W17 ⟨A19,c20,rfl,M_⟩
  replace M:=M.cg M_
  obtain ⟨Fq22,hfq22,M⟩:=M.fs 0
  refine .gq 1<| .nw 100 ([.pt gp0,.i a1,.bool a2,.slice A19 t18.length c20,.slice none 0 0,.slice none 0 0]) M fun g23 W24 M=> .gq 3 ?_
  obtain rfl:=sj h
  exact .ret func29 ⟨g23,[.pt gp0,.i a1,.bool a2,.slice A19 t18.length c20,.slice none 0 0,.slice none 0 0],Fq22,rfl,⟨_,_,_,_,_,_,rfl,(upc _ _ _ _ (fun _ z=>z.2) (.inr ⟨a0,rfl,hp0⟩)),rfl,rfl,(upn (fun _ z=>z.1) (rno hfq22 (M.oks 0))),⟨_,_,rfl,fun _ _=>Rd.nil _ _⟩⟩,rfl,(M.pm [0] [[0]])⟩
 refine .kn 16 c15<| .gq 6 ?_
 rcases ift h with ⟨c26,h⟩ | ⟨c26,h⟩
 ·refine .kn 16 c26<| .gq 13 ?_
  obtain ⟨c27,h⟩:=ifz h
  refine .kn 25 c27<| .gq 8 ?_
  obtain ⟨t29,ht29,h⟩:=bs h
  refine .ca (Yz.calls (hr3.mono M.below) ht29) ?_
  rintro _ W28 ⟨A30,c31,rfl,M_⟩
  replace M:=M.cg M_
  obtain ⟨Fq33,hfq33,M⟩:=M.fs 0
  refine .gq 1<| .nw 100 ([.pt gp0,.i a1,.bool a2,.slice A30 t29.length c31,.slice none 0 0,.slice none 0 0]) M fun g34 W35 M=> .gq 3 ?_
  obtain rfl:=sj h
  exact .ret func29 ⟨g34,[.pt gp0,.i a1,.bool a2,.slice A30 t29.length c31,.slice none 0 0,.slice none 0 0],Fq33,rfl,⟨_,_,_,_,_,_,rfl,(upc _ _ _ _ (fun _ z=>z.2) (.inr ⟨a0,rfl,hp0⟩)),rfl,rfl,(upn (fun _ z=>z.1) (rno hfq33 (M.oks 0))),⟨_,_,rfl,fun _ _=>Rd.nil _ _⟩⟩,rfl,(M.pm [0] [[0]])⟩
 refine .kn 16 c26<| .gq 6 ?_
 rcases ift h with ⟨c37,h⟩ | ⟨c37,h⟩
 ·refine .kn 16 c37<| .gq 13 ?_
  obtain ⟨c38,h⟩:=ifz h
  refine .kn 25 c38<| .gq 8 ?_
  obtain ⟨t40,ht40,h⟩:=bs h
  refine .ca (Yz.calls (hr3.mono M.below) ht40) ?_
  rintro _ W39 ⟨A41,c42,rfl,M_⟩
  replace M:=M.cg M_
  obtain ⟨Fq44,hfq44,M⟩:=M.fs 0
  refine .gq 1<| .nw 100 ([.pt gp0,.i a1,.bool a2,.slice A41 t40.length c42,.slice none 0 0,.slice none 0 0]) M fun g45 W46 M=> .gq 3 ?_
  obtain rfl:=sj h
  exact .ret func29 ⟨g45,[.pt gp0,.i a1,.bool a2,.slice A41 t40.length c42,.slice none 0 0,.slice none 0 0],Fq44,rfl,⟨_,_,_,_,_,_,rfl,(upc _ _ _ _ (fun _ z=>z.2) (.inr ⟨a0,rfl,hp0⟩)),rfl,rfl,(upn (fun _ z=>z.1) (rno hfq44 (M.oks 0))),⟨_,_,rfl,fun _ _=>Rd.nil _ _⟩⟩,rfl,(M.pm [0] [[0]])⟩
 refine .kn 16 c37<| .gq 6 ?_
 rcases ift h with ⟨c48,h⟩ | ⟨c48,h⟩
 ·refine .kn 16 c48<| .gq 13 ?_
  obtain ⟨c49,h⟩:=ifz h
  refine .kn 25 c49<| .gq 8 ?_
  obtain ⟨t51,ht51,h⟩:=bs h
  refine .ca (Yz.calls (hr3.mono M.below) ht51) ?_
  rintro _ W50 ⟨A52,c53,rfl,M_⟩
  replace M:=M.cg M_
  obtain ⟨Fq55,hfq55,M⟩:=M.fs 0
  refine .gq 1<| .nw 100 ([.pt gp0,.i a1,.bool a2,.slice A52 t51.length c53,.slice none 0 0,.slice none 0 0]) M fun g56 W57 M=> .gq 3 ?_
  obtain rfl:=sj h
  exact .ret func29 ⟨g56,[.pt gp0,.i a1,.bool a2,.slice A52 t51.length c53,.slice none 0 0,.slice none 0 0],Fq55,rfl,⟨_,_,_,_,_,_,rfl,(upc _ _ _ _ (fun _ z=>z.2) (.inr ⟨a0,rfl,hp0⟩)),rfl,rfl,(upn (fun _ z=>z.1) (rno hfq55 (M.oks 0))),⟨_,_,rfl,fun _ _=>Rd.nil _ _⟩⟩,rfl,(M.pm [0] [[0]])⟩
 refine .kn 16 c48<| .gq 5 ?_
 obtain ⟨c59,h⟩:=ifs h
 refine .kn 16 c59<| .gq 11 ?_
 obtain ⟨c60,h⟩:=ifz h
 refine .kn 25 c60<| .gq 8 ?_
 obtain ⟨t62,ht62,h⟩:=bs h
 refine .ca (Yz.calls (hr3.mono M.below) ht62) ?_
 rintro _ W61 ⟨A63,c64,rfl,M_⟩
 replace M:=M.cg M_
 obtain ⟨Fq66,hfq66,M⟩:=M.fs 0
 refine .gq 1<| .nw 100 ([.pt gp0,.i a1,.bool a2,.slice A63 t62.length c64,.slice none 0 0,.slice none 0 0]) M fun g67 W68 M=> .gq 3 ?_
 obtain rfl:=sj h
 exact .ret func29 ⟨g67,[.pt gp0,.i a1,.bool a2,.slice A63 t62.length c64,.slice none 0 0,.slice none 0 0],Fq66,rfl,⟨_,_,_,_,_,_,rfl,(upc _ _ _ _ (fun _ z=>z.2) (.inr ⟨a0,rfl,hp0⟩)),rfl,rfl,(upn (fun _ z=>z.1) (rno hfq66 (M.oks 0))),⟨_,_,rfl,fun _ _=>Rd.nil _ _⟩⟩,rfl,(M.pm [0] [[0]])⟩
end Go.Scr.S

namespace Go.Scr.S
variable {k np0 cp0 np1 cp1 np2 cp2 np3 cp3 np4 cp4:Nat} {Ap0 Ap1 Ap2 Ap3 Ap4:Option Addr} {w w0:World} {FT:List Ent} {Zm Zp0 Zp1 Zp2 Zp3:Zp}
open Go.RowKit (Below)
open Go.Proofs.Tryz (prog f28 func28)
def Yy.l0:Nat→Ci→Cf→Li→Li→Int→Int→Option (Li×Int)
 | 0,_,_,_,_,_,_=>none
 | k+1,a0,a1,a2,a3,t6,x11_0=>(some (decide ((I64 ((a3.length:Int)-x11_0))>(I64 (2*t6))):Bool)).bind fun y9=>(if y9=true then (Yy.l0 k a0 a1 a2 a3 t6 (I64 (x11_0+t6))) else ((V8.f k a0 2 a1.2.2.2 a2).bind fun t12=>(gd (0≤x11_0) (gd (x11_0≤(a3.length:Int)) ((V4.f k t12.1 ((a3.take (x11_0:Int).toNat).drop (0:Int).toNat)).bind fun t21=>(if (decide (x11_0>0))=true then (gd (0≤(I64 (x11_0-t6))) (gd ((I64 (x11_0-t6))≤(t21.1.length:Int)) (if a1.2.2.2=true then (gd (0≤(I64 (x11_0-t6))) (gd ((I64 (x11_0-t6))≤x11_0) (gd (x11_0≤(a3.length:Int)) (gd (0≤x11_0) (gd (x11_0≤(a3.length:Int)) ((Ko.f k a0 a1.2.1 a1.2.2.2 ((a3.take (x11_0:Int).toNat).drop (I64 (x11_0-t6):Int).toNat) ((a3.take ((a3.length:Int):Int).toNat).drop (x11_0:Int).toNat)).bind fun t50=>((Y3.f k ([t21.1,t50.1]:Lj)).bind fun t62=>(some (t62,t50.2))))))))) else (gd (0≤x11_0) (gd (x11_0≤(a3.length:Int)) ((Ko.f k a0 a1.2.1 a1.2.2.2 ((t21.1.take ((t21.1.length:Int):Int).toNat).drop (I64 (x11_0-t6):Int).toNat) ((a3.take ((a3.length:Int):Int).toNat).drop (x11_0:Int).toNat)).bind fun t73=>((Y3.f k ([t21.1,t73.1]:Lj)).bind fun t85=>(some (t85,t73.2))))))))) else (gd (0≤x11_0) (gd (x11_0≤(a3.length:Int)) ((Ko.f k a0 a1.2.1 a1.2.2.2 a2 ((a3.take ((a3.length:Int):Int).toNat).drop (x11_0:Int).toNat)).bind fun t96=>((Y3.f k ([t21.1,t96.1]:Lj)).bind fun t108=>(some (t108,t96.2))))))))))))
def Yy.f (k:Nat) (a0:Ci) (a1:Int×Int×Int×Bool) (a2:Li) (a3:Li):Option (Li×Int):=(Qy.f k a0).bind fun t6=>(if (decide ((a3.length:Int)<t6))=true then (some (([]:Li),7)) else (Yy.l0 k a0 a1 a2 a3 t6 0))
abbrev Yy.R (r:Li×Int) (w:World):Value→World→Prop:=fun v w'=> ∃A0' c0',v= .tuple #[.slice A0' r.1.length c0',.i r.2]∧Mem w w' (Gs [⟨.slice A0' r.1.length c0',5,1,nums .u8 r.1⟩] [])
theorem Yy.calls {vp0:Value} {a0:Ci} {a1:Int×Int×Int×Bool} {a2:Li} {a3:Li} {r:Li×Int} (hr2:Rd w (.slice Ap2 np2 cp2) (nums .u8 a2)) (hr3:Rd w (.slice Ap3 np3 cp3) (nums .u8 a3)) (hp0:(rPtr Rs_cipher_Cipher) Zp0 vp0 a0) (hZp0: ∀W,Kept w W→Zp0 W) (h:Yy.f k a0 a1 a2 a3=some r):Calls prog 28 #[vp0,.agg #[.i a1.1,.i a1.2.1,.i a1.2.2.1,.bool a1.2.2.2],(.slice Ap2 np2 cp2),(.slice Ap3 np3 cp3)] w (Ret (Yy.R r w)):=by
 obtain rfl:=hr2.ln
 obtain rfl:=hr3.ln
 obtain ⟨gp0,_,rfl,hco1,_,uo1_1,rfl,rfl,ho1_1⟩:=id hp0
 unfold Yy.f at h
 refine calls_S func28 ?_
 have M:=Mem.r0 w
 refine .gq 2<| .nw 27 ([.i a1.1,.i a1.2.1,.i a1.2.2.1,.bool a1.2.2.2]) M fun g2 W3 M=> .gq 6 ?_
 obtain ⟨t6,ht6,h⟩:=bs h
 refine .ca (Qy.calls hp0 (zp M hZp0) ht6) ?_
 rintro _ W5 ⟨rfl,M_⟩
 replace M:=M.cg M_
 refine .gq 10 ?_
 rcases ift h with ⟨c7,h⟩ | ⟨c7,h⟩
 ·refine .kn 24 c7<| .gq 6 ?_
  replace M:=M.n1 5
  obtain rfl:=sj h
  exact .ret func28 ⟨none,0,rfl,(M.pm [0] [])⟩
 refine .kn 24 c7<| .gq 9 ?_
 have l0: ∀k_≤k,∀(x11_0:Int) {W:World} (M:Mem w W (Gs [⟨.pt g2,27,0,[.i a1.1,.i a1.2.1,.i a1.2.2.1,.bool a1.2.2.2]⟩] [])) (h:Yy.l0 k_ a0 a1 a2 a3 t6 x11_0=some r),RL 28 f28 (Yy.R r w) [1,1,1,1,0,0,0] [(0,.pt gp0),(2,.slice Ap2 a2.length cp2),(3,.slice Ap3 a3.length cp3),(5,.pt g2),(10,.i t6),(11,.i x11_0)] W:=by
  refine loopI (by intros;rename_i h;simp [Yy.l0] at h) fun k hk ih0 x11_0 W M h=> ?_
  simp only [Yy.l0] at h
  refine .gq 11 ?_
  let y9:Bool:=decide ((I64 ((a3.length:Int)-x11_0))>(I64 (2*t6)))
  replace h:=bz (y:=y9) h rfl
  rcases ift h with ⟨c10,h⟩ | ⟨c10,h⟩
  ·exact .kn 31 c10<| .gq 11<| .at (ih0 k (by omega) (I64 (x11_0+t6)) (M.pm [0] []) h)
  refine .kn 31 c10<| .gq 6<| .lv M 0 rfl 3 rfl<| .gq 1 ?_
  obtain ⟨t12,ht12,h⟩:=bs h
  refine .ca (V8.calls (hr2.mono M.below) hp0 (zp M hZp0) ht12) ?_
  rintro _ W11 ⟨gt12_0,cst12_0,Ft12_0,rfl,hRt12_0,hzt12_0,M_⟩
  obtain ⟨uo13_0,_,_,_,_,uo13_5,rfl,ho13_0,rfl,rfl,⟨Ao13_3,co13_3,rfl,ho13_3⟩,⟨Ao13_4,co13_4,rfl,ho13_4⟩⟩:=hRt12_0
  replace M:=M.cg M_
  refine .gq 11 ?_
  obtain ⟨c15,h⟩:=ifd h
  obtain ⟨c16,h⟩:=ifd h
  refine .ct 0 x11_0 (hr3.mono M.below) fun A17 c18 hs19=> ?_
  replace M:=M.n1 5
  have hs23:Rs_modes_Mode (andZ (Oks Ft12_0) Zp0) [uo13_0,.i t12.1.2.1,.bool t12.1.2.2.1,.slice Ao13_3 t12.1.2.2.2.1.length co13_3,.slice Ao13_4 t12.1.2.2.2.2.1.length co13_4,uo13_5] t12.1:=⟨_,_,_,_,_,_,rfl,(upc _ _ _ _ (fun _ z=>(ai z.1 z.2)) ho13_0),rfl,rfl,(upn (fun _ z=>(ai z.1 z.2)) (rno ho13_3 (ai (M.oks 0) (hZp0 _ M.kept)))),(upn (fun _ z=>(ai z.1 z.2)) (rno ho13_4 (ai (M.oks 0) (hZp0 _ M.kept))))⟩
  obtain ⟨t21,ht21,h⟩:=bs h
  refine .ca (V4.calls (hp0:=hs23) (hq5:=(.inl hzt12_0)) (hZm:=fun _ hk_ hT_=>(ai (hT_.fg 0 rfl) (hZp0 _ hk_))) (M0:=M.fm [1,0] [2] [0] rfl rfl rfl) (Zp1:=fun W_=>Rd W_ (.slice A17 (((a3.take (x11_0:Int).toNat).drop (0:Int).toNat).length) c18) (nums .u8 ((a3.take (x11_0:Int).toNat).drop (0:Int).toNat))) (hr1:=fun _ h_=>h_) (hZp1:=fun _ hk_ hT_=>(hs19 _ (hr3.kept hk_))) (h:=ht21)) ?_
  rintro _ W20 ⟨A24,c25,cst21,Ft21,eq5t21,rfl,hRt21,hq5t21,M_⟩
  have hr27:Rs_modes_Mode (andZ (Oks Ft21) (andZ (Oks Ft12_0) Zp0)) cst21 t21.2.2:=hRt21
  have hrhr275:Own5 eq5t21 cst21 t21.2.2:=hq5t21
  replace M:=M_.uf
  obtain ⟨uo29_0,_,_,_,_,uo29_5,rfl,ho29_0,rfl,rfl,⟨Ao29_3,co29_3,rfl,ho29_3⟩,⟨Ao29_4,co29_4,rfl,ho29_4⟩⟩:=hr27
  refine .gq 17 ?_
  rcases ift h with ⟨c30,h⟩ | ⟨c30,h⟩
  ·refine .kn 53 c30<| .gq 7 ?_
   obtain ⟨c31,h⟩:=ifd h
   obtain ⟨c32,h⟩:=ifd h
   refine .ct (I64 (x11_0-t6)) (t21.1.length:Int) (M.or 0) fun A33 c34 hs35=> .gq 5<| .lv M 3 rfl 3 rfl<| .gq 1 ?_
   rcases ift h with ⟨c36,h⟩ | ⟨c36,h⟩
   ·refine .kn 60 c36<| .gq 7 ?_
    obtain ⟨c37,h⟩:=ifd h
    obtain ⟨c38,h⟩:=ifd h
    obtain ⟨c39,h⟩:=ifd h
    refine .ct (I64 (x11_0-t6)) x11_0 (hr3.mono M.below) fun A40 c41 hs42=> .gq 3<| .at (show RL 28 f28 (Yy.R r w) [1,1,1,1,1,1,1,1,1,0] [(0,.pt gp0),(3,.slice Ap3 a3.length cp3),(5,.pt g2),(11,.i x11_0),(14,.slice A24 t21.1.length c25),(16,.slice A40 (((a3.take (x11_0:Int).toNat).drop (I64 (x11_0-t6):Int).toNat).length) c41)] _ from .dr [] M fun W43 M=> ?_)
    refine .pz tr [0,1]<| .lv tr 2 M 3 rfl 1 rfl<| .pz tr [3]<| .lv tr 4 M 3 rfl 3 rfl<| .pz tr [5,6,7] ?_
    obtain ⟨c44,h⟩:=ifd h
    obtain ⟨c45,h⟩:=ifd h
    refine .ct tr 8 x11_0 (a3.length:Int) (hr3.mono M.below) fun A46 c47 hs48=> ?_
    obtain ⟨t50,ht50,h⟩:=bs h
    refine .a1 tr 9<| .ca (Ko.calls (hs42 _ (hr3.mono M.below)) (hs48 _ (hr3.mono M.below)) hp0 (zp M hZp0) ht50) ?_
    rintro _ W49 ⟨A51,c52,rfl,M_⟩
    refine .ca M_ [] ?_
    replace M:=M.cg M_
    refine .pz tr [10,11,12,13,14]<| .dn tr<| .gq 4 ?_
    obtain ⟨Fq54,hfq54,M⟩:=M.fs 1
    obtain ⟨Fq55,hfq55,M⟩:=M.fs 0
    have hqq56:Each2 ((rNums .u8) (andZ (Oks Fq54) (Oks Fq55))) [.slice A24 t21.1.length c25,.slice A51 t50.1.length c52] ([t21.1,t50.1]:Lj):=(.cons (rno (RdF.up hfq54 (fun _ z=>z.1)) (ai (M.oks 1) (M.oks 0))) (.cons (rno (RdF.up hfq55 (fun _ z=>z.2)) (ai (M.oks 1) (M.oks 0))) (Each2.nil _)))
    refine .new 22 1 2 ([.slice A24 t21.1.length c25,.slice A51 t50.1.length c52]) M (fun g57 W58 M=> ?_) rfl
    obtain ⟨Fq60,hfq60,M⟩:=M.fs 0
    obtain ⟨t62,ht62,h⟩:=bs h
    refine .ca (Y3.calls ⟨_,_,_,rfl,(hfq60.up (fun _ z=>z.1)),(Each2.up (up_nums .u8) hqq56 (fun _ z=>(ai z.2.1 z.2.2)))⟩ (fun _ z=>(ai ((M.oks 0).kept z) (ai ((M.oks 2).kept z) ((M.oks 1).kept z)))) ht62) ?_
    rintro _ W61 ⟨A63,c64,rfl,M_⟩
    replace M:=M.cg M_
    refine .gq 4 ?_
    obtain rfl:=sj h
    exact .ret func28 ⟨A63,c64,rfl,(M.pm [0] [])⟩
   refine .kn 60 c36<| .gq 3<| .at (show RL 28 f28 (Yy.R r w) [1,1,1,1,1,1,1,1,1,0] [(0,.pt gp0),(3,.slice Ap3 a3.length cp3),(5,.pt g2),(11,.i x11_0),(14,.slice A24 t21.1.length c25),(16,.slice A33 (((t21.1.take ((t21.1.length:Int):Int).toNat).drop (I64 (x11_0-t6):Int).toNat).length) c34)] _ from .dr [] M fun W66 M=> ?_)
   refine .pz tr [0,1]<| .lv tr 2 M 3 rfl 1 rfl<| .pz tr [3]<| .lv tr 4 M 3 rfl 3 rfl<| .pz tr [5,6,7] ?_
   obtain ⟨c67,h⟩:=ifd h
   obtain ⟨c68,h⟩:=ifd h
   refine .ct tr 8 x11_0 (a3.length:Int) (hr3.mono M.below) fun A69 c70 hs71=> ?_
   obtain ⟨t73,ht73,h⟩:=bs h
   refine .a1 tr 9<| .ca (Ko.calls (hs35 _ (M.or 0)) (hs71 _ (hr3.mono M.below)) hp0 (zp M hZp0) ht73) ?_
   rintro _ W72 ⟨A74,c75,rfl,M_⟩
   refine .ca M_ [] ?_
   replace M:=M.cg M_
   refine .pz tr [10,11,12,13,14]<| .dn tr<| .gq 4 ?_
   obtain ⟨Fq77,hfq77,M⟩:=M.fs 1
   obtain ⟨Fq78,hfq78,M⟩:=M.fs 0
   have hqq79:Each2 ((rNums .u8) (andZ (Oks Fq77) (Oks Fq78))) [.slice A24 t21.1.length c25,.slice A74 t73.1.length c75] ([t21.1,t73.1]:Lj):=(.cons (rno (RdF.up hfq77 (fun _ z=>z.1)) (ai (M.oks 1) (M.oks 0))) (.cons (rno (RdF.up hfq78 (fun _ z=>z.2)) (ai (M.oks 1) (M.oks 0))) (Each2.nil _)))
   refine .new 22 1 2 ([.slice A24 t21.1.length c25,.slice A74 t73.1.length c75]) M (fun g80 W81 M=> ?_) rfl
   obtain ⟨Fq83,hfq83,M⟩:=M.fs 0
   obtain ⟨t85,ht85,h⟩:=bs h
   refine .ca (Y3.calls ⟨_,_,_,rfl,(hfq83.up (fun _ z=>z.1)),(Each2.up (up_nums .u8) hqq79 (fun _ z=>(ai z.2.1 z.2.2)))⟩ (fun _ z=>(ai ((M.oks 0).kept z) (ai ((M.oks 2).kept z) ((M.oks 1).kept z)))) ht85) ?_
   rintro _ W84 ⟨A86,c87,rfl,M_⟩
   replace M:=M.cg M_
   refine .gq 4 ?_
   obtain rfl:=sj h
   exact .ret func28 ⟨A86,c87,rfl,(M.pm [0] [])⟩
  refine .kn 53 c30<| .gq 3<| .at (show RL 28 f28 (Yy.R r w) [1,1,1,1,1,1,1,1,1,0] [(0,.pt gp0),(3,.slice Ap3 a3.length cp3),(5,.pt g2),(11,.i x11_0),(14,.slice A24 t21.1.length c25),(16,.slice Ap2 a2.length cp2)] _ from .dr [] M fun W89 M=> ?_)
  refine .pz tr [0,1]<| .lv tr 2 M 3 rfl 1 rfl<| .pz tr [3]<| .lv tr 4 M 3 rfl 3 rfl<| .pz tr [5,6,7] ?_
  obtain ⟨c90,h⟩:=ifd h
  obtain ⟨c91,h⟩:=ifd h
  refine .ct tr 8 x11_0 (a3.length:Int) (hr3.mono M.below) fun A92 c93 hs94=> ?_
  obtain ⟨t96,ht96,h⟩:=bs h
  refine .a1 tr 9<| .ca (Ko.calls (hr2.mono M.below) (hs94 _ (hr3.mono M.below)) hp0 (zp M hZp0) ht96) ?_
  rintro _ W95 ⟨A97,c98,rfl,M_⟩
  refine .ca M_ [] ?_
  replace M:=M.cg M_
  refine .pz tr [10,11,12,13,14]<| .dn tr<| .gq 4 ?_
  obtain ⟨Fq100,hfq100,M⟩:=M.fs 1
  obtain ⟨Fq101,hfq101,M⟩:=M.fs 0
  have hqq102:Each2 ((rNums .u8) (andZ (Oks Fq100) (Oks Fq101))) [.slice A24 t21.1.length c25,.slice A97 t96.1.length c98] ([t21.1,t96.1]:Lj):=(.cons (rno (RdF.up hfq100 (fun _ z=>z.1)) (ai (M.oks 1) (M.oks 0))) (.cons (rno (RdF.up hfq101 (fun _ z=>z.2)) (ai (M.oks 1) (M.oks 0))) (Each2.nil _)))
  refine .new 22 1 2 ([.slice A24 t21.1.length c25,.slice A97 t96.1.length c98]) M (fun g103 W104 M=> ?_) rfl
  obtain ⟨Fq106,hfq106,M⟩:=M.fs 0
  obtain ⟨t108,ht108,h⟩:=bs h
  refine .ca (Y3.calls ⟨_,_,_,rfl,(hfq106.up (fun _ z=>z.1)),(Each2.up (up_nums .u8) hqq102 (fun _ z=>(ai z.2.1 z.2.2)))⟩ (fun _ z=>(ai ((M.oks 0).kept z) (ai ((M.oks 2).kept z) ((M.oks 1).kept z)))) ht108) ?_
  rintro _ W107 ⟨A109,c110,rfl,M_⟩
  replace M:=M.cg M_
  refine .gq 4 ?_
  obtain rfl:=sj h
  exact .ret func28 ⟨A109,c110,rfl,(M.pm [0] [])⟩
 exact .at (l0 k k.le_refl 0 (M.pm [0] []) h)
end Go.Scr.S

namespace Go.Scr.S
variable {k np0 cp0 np1 cp1 np2 cp2 np3 cp3 np4 cp4:Nat} {Ap0 Ap1 Ap2 Ap3 Ap4:Option Addr} {w w0:World} {FT:List Ent} {Zm Zp0 Zp1 Zp2 Zp3:Zp}
open Go.RowKit (Below)
open Go.Proofs.Tryz (prog f9 func9)
def Yv.f (k:Nat) (a0:Int×Int×Int×Bool) (a1:Li) (a2:Li) (a3:Li):Option (Li×Int):=(Yx.f k a0 a1 a2).bind fun t5=>(if (t5.2 != 0)=true then (some (([]:Li),t5.2)) else ((Yw.f k a0.2.1).bind fun t9=>(if (t9==3)=true then ((t5.1).bind fun s11=>((Yy.f k s11 a0 a2 a3).bind fun t15=>(some (t15.1,t15.2)))) else (none))))
theorem Yv.calls {a0:Int×Int×Int×Bool} {a1:Li} {a2:Li} {a3:Li} {r:Li×Int} (hr1:Rd w (.slice Ap1 np1 cp1) (nums .u8 a1)) (hr2:Rd w (.slice Ap2 np2 cp2) (nums .u8 a2)) (hr3:Rd w (.slice Ap3 np3 cp3) (nums .u8 a3)) (hG1:Rg w 1 (nums .u8 [1,2,4,8,16,32,64,128])) (h:Yv.f k a0 a1 a2 a3=some r):Calls prog 9 #[.agg #[.i a0.1,.i a0.2.1,.i a0.2.2.1,.bool a0.2.2.2],(.slice Ap1 np1 cp1),(.slice Ap2 np2 cp2),(.slice Ap3 np3 cp3)] w (Ret fun v w'=> ∃A0' c0',v= .tuple #[.slice A0' r.1.length c0',.i r.2]∧Mem w w' (Gs [⟨.slice A0' r.1.length c0',5,1,nums .u8 r.1⟩] [])):=by
 obtain rfl:=hr1.ln
 obtain rfl:=hr2.ln
 obtain rfl:=hr3.ln
 unfold Yv.f at h
 refine calls_S func9 ?_
 have M:=Mem.r0 w
 refine .gq 2<| .nw 27 ([.i a0.1,.i a0.2.1,.i a0.2.2.1,.bool a0.2.2.2]) M fun g1 W2 M=> .gq 6<| .y (yl_ldp (g:=g1) (off:=0) 4 [.i a0.1,.i a0.2.1,.i a0.2.2.1,.bool a0.2.2.2] rfl) (fun i_ u_ hu_=>match i_,hu_ with | 0,h_=>(M.var_at 0 rfl (i:=0) (u:=u_) h_).1 | 1,h_=>(M.var_at 0 rfl (i:=1) (u:=u_) h_).1 | 2,h_=>(M.var_at 0 rfl (i:=2) (u:=u_) h_).1 | 3,h_=>(M.var_at 0 rfl (i:=3) (u:=u_) h_).1 | _+4,h_=>by cases h_)<| .gq 2 ?_
 obtain ⟨t5,ht5,h⟩:=bs h
 refine .ca (Yx.calls (hr1.mono M.below) (hr2.mono M.below) (hG1.mono M.below) ht5) ?_
 rintro _ W4 ⟨vt5_0,Ft5_0,rfl,hRt5_0,M_⟩
 replace M:=M.cg M_
 refine .gq 12 ?_
 rcases ift h with ⟨c6,h⟩ | ⟨c6,h⟩
 ·refine .kn 29 c6<| .gq 7 ?_
  replace M:=M.n1 5
  obtain rfl:=sj h
  exact .ret func9 ⟨none,0,rfl,(M.pm [0] [])⟩
 refine .kn 29 c6<| .gq 6<| .lv M 0 rfl 1 rfl ?_
 obtain ⟨t9,ht9,h⟩:=bs h
 refine .ca (Yw.calls ht9) ?_
 rintro _ W8 ⟨rfl,M_⟩
 replace M:=M.cg M_
 refine .gq 2 ?_
 obtain ⟨c10,h⟩:=ifs h
 refine .kn 34 c10<| .gq 4<| .y (yl_ldp (g:=g1) (off:=0) 4 [.i a0.1,.i a0.2.1,.i a0.2.2.1,.bool a0.2.2.2] rfl) (fun i_ u_ hu_=>match i_,hu_ with | 0,h_=>(M.var_at 0 rfl (i:=0) (u:=u_) h_).1 | 1,h_=>(M.var_at 0 rfl (i:=1) (u:=u_) h_).1 | 2,h_=>(M.var_at 0 rfl (i:=2) (u:=u_) h_).1 | 3,h_=>(M.var_at 0 rfl (i:=3) (u:=u_) h_).1 | _+4,h_=>by cases h_)<| .gq 2 ?_
 obtain ⟨s11,hx_,h⟩:=bs h
 have hps11:=rOpt.some hRt5_0 hx_
 obtain ⟨g12,_,rfl,hco13,_,uo13_1,rfl,rfl,ho13_1⟩:=id hps11
 obtain ⟨t15,ht15,h⟩:=bs h
 refine .ca (Yy.calls (hr2.mono M.below) (hr3.mono M.below) hps11 (fun _ z=>((M.oks 0).kept z)) ht15) ?_
 rintro _ W14 ⟨A16,c17,rfl,M_⟩
 replace M:=M.cg M_
 refine .gq 5 ?_
 obtain rfl:=sj h
 exact .ret func9 ⟨A16,c17,rfl,(M.pm [0] [])⟩
end Go.Scr.S

namespace Go.Scr.S
variable {k np0 cp0 np1 cp1 np2 cp2 np3 cp3 np4 cp4:Nat} {Ap0 Ap1 Ap2 Ap3 Ap4:Option Addr} {w w0:World} {FT:List Ent} {Zm Zp0 Zp1 Zp2 Zp3:Zp}
open Go.RowKit (Below)
open Go.Proofs.Tryz (prog f11 func11)
def Rs_ctx_Ctx (Z:Zp) (cs:List Value) (x:Cx):Prop:= ∃(u0:Value) (u1:Value) (u2:Value) (u3:Value) (u4:Value) (u5:Value) (u6:Value) (u7:Value) (u8:Value) (u9:Value) (u10:Value),cs=[u0,u1,u2,u3,u4,u5,u6,u7,u8,u9,u10]∧rBool Z u0 x.1∧rBool Z u1 x.2.1∧(rInt .i64) Z u2 x.2.2.1∧(rInt .i64) Z u3 x.2.2.2.1∧(rInt .i64) Z u4 x.2.2.2.2.1∧rBool Z u5 x.2.2.2.2.2.1∧(rOpt (rPtr Rs_cipher_Cipher)) Z u6 x.2.2.2.2.2.2.1∧(rNums .u8) Z u7 x.2.2.2.2.2.2.2.1∧(rOpt (rPtr Rs_modes_Mode)) Z u8 x.2.2.2.2.2.2.2.2.1∧(rNums .u8) Z u9 x.2.2.2.2.2.2.2.2.2.1∧(rNums .u8) Z u10 x.2.2.2.2.2.2.2.2.2.2
theorem up_Rs_ctx_Ctx (Z Y:Zp) (cs:List Value) (x:Cx) (hs: ∀W,Y W→Z W):Rs_ctx_Ctx Z cs x→Rs_ctx_Ctx Y cs x:=fun ⟨u0,u1,u2,u3,u4,u5,u6,u7,u8,u9,u10,e,h0,h1,h2,h3,h4,h5,h6,h7,h8,h9,h10⟩=>⟨u0,u1,u2,u3,u4,u5,u6,u7,u8,u9,u10,e,up_bool _ _ _ _ hs h0,up_bool _ _ _ _ hs h1,(up_int .i64) _ _ _ _ hs h2,(up_int .i64) _ _ _ _ hs h3,(up_int .i64) _ _ _ _ hs h4,up_bool _ _ _ _ hs h5,upc _ _ _ _ hs h6,upn hs h7,(up_opt (up_ptr up_Rs_modes_Mode)) _ _ _ _ hs h8,upn hs h9,upn hs h10⟩
def MxA_ctx_Ctx (Z:Zp) (vx8:Value) (vx9:Value) (cs:List Value) (x:Cy):Prop:= ∃(u0:Value) (u1:Value) (u2:Value) (u3:Value) (u4:Value) (u5:Value) (u6:Value) (u7:Value) (u10:Value),cs=[u0,u1,u2,u3,u4,u5,u6,u7,vx8,vx9,u10]∧rBool Z u0 x.1∧rBool Z u1 x.2.1∧(rInt .i64) Z u2 x.2.2.1∧(rInt .i64) Z u3 x.2.2.2.1∧(rInt .i64) Z u4 x.2.2.2.2.1∧rBool Z u5 x.2.2.2.2.2.1∧(rOpt (rPtr Rs_cipher_Cipher)) Z u6 x.2.2.2.2.2.2.1∧(rNums .u8) Z u7 x.2.2.2.2.2.2.2.1∧(rNums .u8) Z u10 x.2.2.2.2.2.2.2.2.2.2
theorem up_MxA_ctx_Ctx (Z Y:Zp) (vx8:Value) (vx9:Value) (cs:List Value) (x:Cy) (hs: ∀W,Y W→Z W):MxA_ctx_Ctx Z vx8 vx9 cs x→MxA_ctx_Ctx Y vx8 vx9 cs x:=fun ⟨u0,u1,u2,u3,u4,u5,u6,u7,u10,e,h0,h1,h2,h3,h4,h5,h6,h7,h10⟩=>⟨u0,u1,u2,u3,u4,u5,u6,u7,u10,e,up_bool _ _ _ _ hs h0,up_bool _ _ _ _ hs h1,(up_int .i64) _ _ _ _ hs h2,(up_int .i64) _ _ _ _ hs h3,(up_int .i64) _ _ _ _ hs h4,up_bool _ _ _ _ hs h5,upc _ _ _ _ hs h6,upn hs h7,upn hs h10⟩
def Vc.f (k:Nat):Option Cx:=some (false,false,0,0,0,false,none,([]:Li),none,([]:Li),([]:Li))
theorem Vc.calls {r:Cx} (h:Vc.f k=some r):Calls prog 11 #[] w (Ret fun v w'=> ∃(g0':Nat) (cs0':List Value) (F0':List Ent),v= .pointer (some ⟨g0',0,none⟩)∧Rs_ctx_Ctx (Oks F0') cs0' r∧Mem w w' (Gs [⟨.pointer (some ⟨g0',0,none⟩),72,0,cs0'⟩] [F0'])):=by
 unfold Vc.f at h
 refine calls_S func11 ?_
 have M:=Mem.r0 w
 refine .gq 7<| .nw 72 ([.bool false,.bool false,.i 0,.i 0,.i 0,.bool false,.pointer none,.slice none 0 0,.pointer none,.slice none 0 0,.slice none 0 0]) M fun g1 W2 M=> .gq 2 ?_
 obtain rfl:=sj h
 exact .ret func11 ⟨g1,[.bool false,.bool false,.i 0,.i 0,.i 0,.bool false,.pointer none,.slice none 0 0,.pointer none,.slice none 0 0,.slice none 0 0],([]:List Ent),rfl,⟨_,_,_,_,_,_,_,_,_,_,_,rfl,rfl,rfl,rfl,rfl,rfl,rfl,(.inl ⟨rfl,rfl⟩),⟨_,_,rfl,fun _ _=>Rd.nil _ _⟩,(.inl ⟨rfl,rfl⟩),⟨_,_,rfl,fun _ _=>Rd.nil _ _⟩,⟨_,_,rfl,fun _ _=>Rd.nil _ _⟩⟩,(M.pm [0] [[]])⟩
end Go.Scr.S

namespace Go.Scr.S
variable {k np0 cp0 np1 cp1 np2 cp2 np3 cp3 np4 cp4:Nat} {Ap0 Ap1 Ap2 Ap3 Ap4:Option Addr} {w w0:World} {FT:List Ent} {Zm Zp0 Zp1 Zp2 Zp3:Zp}
open Go.RowKit (Below)
open Go.Proofs.Tryz (prog f48 func48 f49 func49 f87 func87 f88 func88)
def Ve.f (k:Nat) (a0:Int):Option (Unit):=if (a0 != 0)=true then (none) else (some ())
theorem Ve.calls {a0:Int} {r:Unit} (h:Ve.f k a0=some r):Calls prog 88 #[.i a0] w (Ret fun v w'=>v= .tuple #[]∧Mem w w' (Gs [] [])):=by
 unfold Ve.f at h
 refine calls_S func88 ?_
 have M:=Mem.r0 w
 refine .gq 5 ?_
 obtain ⟨c1,h⟩:=ifz h
 refine .kn 3 c1<| .gq 2 ?_
 obtain rfl:=sj h
 exact .ret func88 ⟨rfl,(M.pm [] [])⟩
def Q9.f (k:Nat) (a0:Cx):Option (Unit):=if (!a0.2.1)=true then ((Ve.f k 6).bind fun t4=>(some ())) else (some ())
theorem Q9.calls {vp0:Value} {a0:Cx} {r:Unit} (hp0:(rPtr Rs_ctx_Ctx) Zp0 vp0 a0) (hZp0: ∀W,Kept w W→Zp0 W) (h:Q9.f k a0=some r):Calls prog 48 #[vp0] w (Ret fun v w'=>v= .tuple #[]∧Mem w w' (Gs [] [])):=by
 obtain ⟨gp0,_,rfl,hco1,_,_,_,_,_,_,uo1_6,_,uo1_8,_,_,rfl,rfl,rfl,rfl,rfl,rfl,rfl,ho1_6,⟨Ao1_7,co1_7,rfl,ho1_7⟩,ho1_8,⟨Ao1_9,co1_9,rfl,ho1_9⟩,⟨Ao1_10,co1_10,rfl,ho1_10⟩⟩:=id hp0
 unfold Q9.f at h
 refine calls_S func48 ?_
 have M:=Mem.r0 w
 refine .gq 5<| .ld (hco1 _ (hZp0 _ M.kept) 1 _ rfl)<| .gq 2 ?_
 rcases ift h with ⟨c2,h⟩ | ⟨c2,h⟩
 ·refine .kn 6 c2<| .gq 2 ?_
  obtain ⟨t4,ht4,h⟩:=bs h
  refine .ca (Ve.calls ht4) ?_
  rintro _ W3 ⟨rfl,M_⟩
  replace M:=M.cg M_
  refine .gq 1 ?_
  obtain rfl:=sj h
  exact .ret func48 ⟨rfl,(M.pm [] [])⟩
 refine .kn 6 c2<| .gq 2 ?_
 obtain rfl:=sj h
 exact .ret func48 ⟨rfl,(M.pm [] [])⟩
def Va.f (k:Nat) (a0:Cx):Option (Bool):=if (decide (a0.2.2.2.1≥7))=true then (some (decide (a0.2.2.2.1≤9))) else (some false)
theorem Va.calls {vp0:Value} {a0:Cx} {r:Bool} (hp0:(rPtr Rs_ctx_Ctx) Zp0 vp0 a0) (hZp0: ∀W,Kept w W→Zp0 W) (h:Va.f k a0=some r):Calls prog 87 #[vp0] w (Ret fun v w'=>v= .bool r∧Mem w w' (Gs [] [])):=by
 obtain ⟨gp0,_,rfl,hco1,_,_,_,_,_,_,uo1_6,_,uo1_8,_,_,rfl,rfl,rfl,rfl,rfl,rfl,rfl,ho1_6,⟨Ao1_7,co1_7,rfl,ho1_7⟩,ho1_8,⟨Ao1_9,co1_9,rfl,ho1_9⟩,⟨Ao1_10,co1_10,rfl,ho1_10⟩⟩:=id hp0
 unfold Va.f at h
 refine calls_S func87 ?_
 have M:=Mem.r0 w
 refine .gq 10<| .ld (hco1 _ (hZp0 _ M.kept) 3 _ rfl)<| .gq 2 ?_
 rcases ift h with ⟨c2,h⟩ | ⟨c2,h⟩
 ·refine .kn 9 c2<| .gq 4<| .ld (hco1 _ (hZp0 _ M.kept) 3 _ rfl)<| .gq 4 ?_
  obtain rfl:=sj h
  exact .ret func87 ⟨rfl,(M.pm [] [])⟩
 refine .kn 9 c2<| .gq 9 ?_
 obtain rfl:=sj h
 exact .ret func87 ⟨rfl,(M.pm [] [])⟩
def Q8.f (k:Nat) (a0:Cx):Option (Int):=(a0.2.2.2.2.2.2.1).bind fun s2=>((Qy.f k s2).bind fun t6=>((a0.2.2.2.2.2.2.2.2.1).bind fun s7=>((V3.f k s7).bind fun t11=>(if (t11==1)=true then (some 0) else ((Va.f k a0).bind fun t14=>(if t14=true then (some (I64 (2*t6))) else (if (a0.2.2.2.2.1 != 4)=true then (if a0.2.2.2.2.2.1=true then (some t6) else (some (I64 (t6-1)))) else (some (I64 (t6-1))))))))))
theorem Q8.calls {vp0:Value} {a0:Cx} {r:Int} (hp0:(rPtr Rs_ctx_Ctx) Zp0 vp0 a0) (hZp0: ∀W,Kept w W→Zp0 W) (h:Q8.f k a0=some r):Calls prog 49 #[vp0] w (Ret fun v w'=>v= .i r∧Mem w w' (Gs [] [])):=by
 obtain ⟨gp0,_,rfl,hco1,_,_,_,_,_,_,uo1_6,_,uo1_8,_,_,rfl,rfl,rfl,rfl,rfl,rfl,rfl,ho1_6,⟨Ao1_7,co1_7,rfl,ho1_7⟩,ho1_8,⟨Ao1_9,co1_9,rfl,ho1_9⟩,⟨Ao1_10,co1_10,rfl,ho1_10⟩⟩:=id hp0
 unfold Q8.f at h
 refine calls_S func49 ?_
 have M:=Mem.r0 w
 refine .gq 9<| .ld (hco1 _ (hZp0 _ M.kept) 6 _ rfl) ?_
 obtain ⟨s2,hx_,h⟩:=bs h
 have hps2:=rOpt.some ho1_6 hx_
 obtain ⟨g3,_,rfl,hco4,_,uo4_1,rfl,rfl,ho4_1⟩:=id hps2
 obtain ⟨t6,ht6,h⟩:=bs h
 refine .ca (Qy.calls hps2 (zp M hZp0) ht6) ?_
 rintro _ W5 ⟨rfl,M_⟩
 replace M:=M.cg M_
 refine .gq 9<| .ld (hco1 _ (hZp0 _ M.kept) 8 _ rfl) ?_
 obtain ⟨s7,hx_,h⟩:=bs h
 have hps7:=rOpt.some ho1_8 hx_
 obtain ⟨g8,_,rfl,hco9,uo9_0,_,_,_,_,uo9_5,rfl,ho9_0,rfl,rfl,⟨Ao9_3,co9_3,rfl,ho9_3⟩,⟨Ao9_4,co9_4,rfl,ho9_4⟩⟩:=id hps7
 obtain ⟨t11,ht11,h⟩:=bs h
 refine .ca (V3.calls hps7 (zp M hZp0) ht11) ?_
 rintro _ W10 ⟨rfl,M_⟩
 replace M:=M.cg M_
 refine .gq 3 ?_
 rcases ift h with ⟨c12,h⟩ | ⟨c12,h⟩
 ·refine .kn 9 c12<| .gq 5 ?_
  obtain rfl:=sj h
  exact .ret func49 ⟨rfl,(M.pm [] [])⟩
 refine .kn 9 c12<| .gq 4 ?_
 obtain ⟨t14,ht14,h⟩:=bs h
 refine .ca (Va.calls hp0 (zp M hZp0) ht14) ?_
 rintro _ W13 ⟨rfl,M_⟩
 replace M:=M.cg M_
 refine .gq 2 ?_
 rcases ift h with ⟨c15,h⟩ | ⟨c15,h⟩
 ·refine .kn 16 c15<| .gq 7 ?_
  obtain rfl:=sj h
  exact .ret func49 ⟨rfl,(M.pm [] [])⟩
 refine .kn 16 c15<| .gq 7<| .ld (hco1 _ (hZp0 _ M.kept) 4 _ rfl)<| .gq 2 ?_
 rcases ift h with ⟨c16,h⟩ | ⟨c16,h⟩
 ·refine .kn 28 c16<| .gq 4<| .ld (hco1 _ (hZp0 _ M.kept) 5 _ rfl)<| .gq 3 ?_
  rcases ift h with ⟨c17,h⟩ | ⟨c17,h⟩
  ·refine .kn 21 c17<| .gq 6 ?_
   obtain rfl:=sj h
   exact .ret func49 ⟨rfl,(M.pm [] [])⟩
  refine .kn 21 c17<| .gq 9 ?_
  obtain rfl:=sj h
  exact .ret func49 ⟨rfl,(M.pm [] [])⟩
 refine .kn 28 c16<| .gq 17 ?_
 obtain rfl:=sj h
 exact .ret func49 ⟨rfl,(M.pm [] [])⟩
end Go.Scr.S

namespace Go.Scr.S
variable {k np0 cp0 np1 cp1 np2 cp2 np3 cp3 np4 cp4:Nat} {Ap0 Ap1 Ap2 Ap3 Ap4:Option Addr} {w w0:World} {FT:List Ent} {Zm Zp0 Zp1 Zp2 Zp3:Zp}
open Go.RowKit (Below)
open Go.Proofs.Tryz (prog f45 func45)
def Q6.f (k:Nat) (a0:Cx):Option Cy:=(Va.f k a0).bind fun t4=>(if t4=true then ((a0.2.2.2.2.2.2.1).bind fun s9=>((V8.f k s9 2 a0.2.2.2.2.2.1 a0.2.2.2.2.2.2.2.1).bind fun t13=>((Yz.f k a0.2.2.2.2.2.2.2.1).bind fun t18=>(some (a0.1,true,a0.2.2.1,a0.2.2.2.1,a0.2.2.2.2.1,a0.2.2.2.2.2.1,(some s9),a0.2.2.2.2.2.2.2.1,t13.1,([]:Li),t18))))) else ((a0.2.2.2.2.2.2.1).bind fun s43=>((V8.f k s43 a0.2.2.2.1 a0.2.2.2.2.2.1 a0.2.2.2.2.2.2.2.1).bind fun t47=>((Yz.f k a0.2.2.2.2.2.2.2.1).bind fun t52=>(some (a0.1,true,a0.2.2.1,a0.2.2.2.1,a0.2.2.2.2.1,a0.2.2.2.2.2.1,(some s43),a0.2.2.2.2.2.2.2.1,t47.1,([]:Li),t52))))))
abbrev Q6.R (gp0:Nat) (r:Cy) (w0:World) (FT:List Ent) (Zm:Zp):Value→World→Prop:=fun v w'=> ∃(cs':List Value) (F':List Ent) (gq8':Nat) (csq8':List Value) (eq85':Ent) (Aq9':Option Addr) (nq9' cq9':Nat),v= .tuple #[]∧MxA_ctx_Ctx (andZ (Oks F') Zm) (.pointer (some ⟨gq8',0,none⟩)) (.slice Aq9' nq9' cq9') cs' r∧Rs_modes_Mode (andZ (Oks F') Zm) csq8' r.2.2.2.2.2.2.2.2.1∧Own5 eq85' csq8' r.2.2.2.2.2.2.2.2.1∧Mem w0 w' (Gs [⟨.pt gp0,72,0,cs'⟩,⟨(.pointer (some ⟨gq8',0,none⟩)),100,0,csq8'⟩,eq85',⟨(.slice Aq9' nq9' cq9'),5,1,nums .u8 r.2.2.2.2.2.2.2.2.2.1⟩] [F',FT])
theorem Q6.calls {gp0:Nat} {csp0:List Value} {a0:Cx} {r:Cy} (hp0:Rs_ctx_Ctx Zm csp0 a0) (hZm: ∀W,Kept w0 W→Oks FT W→Zm W) (M0:Mem w0 w (Gs [⟨.pt gp0,72,0,csp0⟩] [FT])) (h:Q6.f k a0=some r):Calls prog 45 #[.pt gp0] w (Ret (Q6.R gp0 r w0 FT Zm)):=by
 obtain ⟨_,_,_,_,_,_,uo2_6,_,uo2_8,_,_,rfl,rfl,rfl,rfl,rfl,rfl,rfl,ho2_6,⟨Ao2_7,co2_7,rfl,ho2_7⟩,ho2_8,⟨Ao2_9,co2_9,rfl,ho2_9⟩,⟨Ao2_10,co2_10,rfl,ho2_10⟩⟩:=hp0
 unfold Q6.f at h
 refine calls_S func45 ?_
 have M:=M0
 refine .gq 6<| .lv M 0 rfl 3 rfl<| .gq 6 ?_
 obtain ⟨t4,ht4,h⟩:=bs h
 refine .ca (Va.calls (Zp0:=Kept w) (a0:=a0) ⟨gp0,_,rfl,(M.cellsKept 0 rfl),_,_,_,_,_,_,_,_,_,_,_,rfl,rfl,rfl,rfl,rfl,rfl,rfl,(upc _ _ _ _ (zk M hZm 0) ho2_6),(upn (zk M hZm 0) (rno ho2_7 (zl M hZm 0))),((up_opt (up_ptr up_Rs_modes_Mode)) _ _ _ _ (zk M hZm 0) ho2_8),(upn (zk M hZm 0) (rno ho2_9 (zl M hZm 0))),(upn (zk M hZm 0) (rno ho2_10 (zl M hZm 0)))⟩ (fun _ h_=>h_) ht4) ?_
 rintro _ W3 ⟨rfl,M_⟩
 replace M:=M.cg M_
 refine .gq 1 ?_
 rcases ift h with ⟨c5,h⟩ | ⟨c5,h⟩
 ·refine .kn 9 c5<| .gq 5<| .at (show RL 45 f45 (Q6.R gp0 r w0 FT Zm) [1,1,0] [(0,.pt gp0),(2,.i 2)] _ from .dr [0] M fun W6 M=> ?_)
  refine .pz tr [0,1,2,3,5,6,7,8,9,11,12,13] ?_
  have J7:RJ 45 f45 (Q6.R gp0 r w0 FT Zm) [1,1,0] w0 [⟨.pt gp0,72,0,[.bool a0.1,.bool a0.2.1,.i a0.2.2.1,.i a0.2.2.2.1,.i a0.2.2.2.2.1,.bool a0.2.2.2.2.2.1,uo2_6,.slice Ao2_7 a0.2.2.2.2.2.2.2.1.length co2_7,uo2_8,.slice Ao2_9 a0.2.2.2.2.2.2.2.2.2.1.length co2_9,.slice Ao2_10 a0.2.2.2.2.2.2.2.2.2.2.length co2_10]⟩] [FT] [0] ([0,1,2,3,5,6,7,8,9,11,12,13,4,10,14],[(0,.pt gp0),(2,.i 2),(11,.pt gp0),(15,uo2_6),(16,.i 2),(21,.bool a0.2.2.2.2.2.1),(25,.slice Ao2_7 a0.2.2.2.2.2.2.2.1.length co2_7)]):=by
   intro W8 M
   obtain ⟨s9,hx_,h⟩:=bs h
   have hps9:=rOpt.some ho2_6 hx_
   obtain ⟨g10,_,rfl,hco11,_,uo11_1,rfl,rfl,ho11_1⟩:=id hps9
   obtain ⟨t13,ht13,h⟩:=bs h
   refine .a1 tr 15<| .ca (V8.calls (ho2_7 _ (zl M hZm 0)) hps9 (zk M hZm 0) ht13) ?_
   rintro _ W12 ⟨gt13_0,cst13_0,Ft13_0,rfl,hRt13_0,hzt13_0,M_⟩
   obtain ⟨uo14_0,_,_,_,_,uo14_5,rfl,ho14_0,rfl,rfl,⟨Ao14_3,co14_3,rfl,ho14_3⟩,⟨Ao14_4,co14_4,rfl,ho14_4⟩⟩:=hRt13_0
   refine .ca M_ [1] ?_
   replace M:=M.cg M_
   refine .pz tr [16,17,18,19,20]<| .a1 tr 21<| .vf 8 (.pt gt13_0) M 1 rfl fun W16 M=> .dn tr<| .gq 7<| .lv M 1 rfl 7 rfl ?_
   obtain ⟨t18,ht18,h⟩:=bs h
   refine .ca (Yz.calls (ho2_7 _ (zl M hZm 1)) ht18) ?_
   rintro _ W17 ⟨A19,c20,rfl,M_⟩
   replace M:=M.cg M_
   refine .gq 2<| .vf 1 (.bool true) M 2 rfl fun W22 M=> .gq 2<| .vf 9 (.slice none 0 0) M 2 rfl fun W23 M=> .gq 2<| .vf 10 (.slice A19 t18.length c20) M 2 rfl fun W24 M=> .gq 1 ?_
   replace M:=M.n1 5
   replace M:=M.n1 5
   obtain ⟨Fq27,hfq27,M⟩:=M.fs 2
   obtain rfl:=sj h
   exact .ret func45 ⟨[.bool a0.1,.bool true,.i a0.2.2.1,.i a0.2.2.2.1,.i a0.2.2.2.2.1,.bool a0.2.2.2.2.2.1,.pt g10,.slice Ao2_7 a0.2.2.2.2.2.2.2.1.length co2_7,.pt gt13_0,.slice none 0 0,.slice A19 t18.length c20],(List.flatten [Fq27,Ft13_0]),gt13_0,[uo14_0,.i t13.1.2.1,.bool t13.1.2.2.1,.slice Ao14_3 t13.1.2.2.2.1.length co14_3,.slice Ao14_4 t13.1.2.2.2.2.1.length co14_4,uo14_5],⟨.slice none 0 0,5,1,nums .u8 []⟩,none,0,0,rfl,⟨_,_,_,_,_,_,_,_,_,rfl,rfl,rfl,rfl,rfl,rfl,rfl,(upc _ _ _ _ (fun _ z=>z.2) (.inr ⟨s9,rfl,hps9⟩)),(upn (fun _ z=>z.2) (rno ho2_7 (zl M hZm 2))),(upn (fun _ z=>(Oks.g z.1 0 rfl)) (rno hfq27 (M.oks 0)))⟩,⟨_,_,_,_,_,_,rfl,(upc _ _ _ _ (fun _ z=>(ai (Oks.g z.1 1 rfl) z.2)) ho14_0),rfl,rfl,(upn (fun _ z=>(ai (Oks.g z.1 1 rfl) z.2)) (rno ho14_3 (ai (M.oks 1) (zl M hZm 2)))),(upn (fun _ z=>(ai (Oks.g z.1 1 rfl) z.2)) (rno ho14_4 (ai (M.oks 1) (zl M hZm 2))))⟩,(.inl hzt13_0),(M.pm [3,2,1,0] [[0,1],[2]])⟩
  have J28:RJ 45 f45 (Q6.R gp0 r w0 FT Zm) [1,1,0] w0 [⟨.pt gp0,72,0,[.bool a0.1,.bool a0.2.1,.i a0.2.2.1,.i a0.2.2.2.1,.i a0.2.2.2.2.1,.bool a0.2.2.2.2.2.1,uo2_6,.slice Ao2_7 a0.2.2.2.2.2.2.2.1.length co2_7,uo2_8,.slice Ao2_9 a0.2.2.2.2.2.2.2.2.2.1.length co2_9,.slice Ao2_10 a0.2.2.2.2.2.2.2.2.2.2.length co2_10]⟩] [FT] [0] ([0,1,2,3,5,6,7,8,9,11,12,13,10,14],[(0,.pt gp0),(2,.i 2),(11,.pt gp0),(14,.pointer (some ⟨gp0,6,none⟩)),(16,.i 2),(21,.bool a0.2.2.2.2.2.1),(25,.slice Ao2_7 a0.2.2.2.2.2.2.2.1.length co2_7)]):=by
   intro W29 M
   exact .a1 tr 4<| .lv M 0 rfl 6 rfl<| .jn M [0] [[0]] (J7) rfl rfl
  have J30:RJ 45 f45 (Q6.R gp0 r w0 FT Zm) [1,1,0] w0 [⟨.pt gp0,72,0,[.bool a0.1,.bool a0.2.1,.i a0.2.2.1,.i a0.2.2.2.1,.i a0.2.2.2.2.1,.bool a0.2.2.2.2.2.1,uo2_6,.slice Ao2_7 a0.2.2.2.2.2.2.2.1.length co2_7,uo2_8,.slice Ao2_9 a0.2.2.2.2.2.2.2.2.2.1.length co2_9,.slice Ao2_10 a0.2.2.2.2.2.2.2.2.2.2.length co2_10]⟩] [FT] [0] ([0,1,2,3,5,6,7,8,9,11,12,13,4,14],[(0,.pt gp0),(2,.i 2),(11,.pt gp0),(15,uo2_6),(16,.i 2),(20,.pointer (some ⟨gp0,5,none⟩)),(25,.slice Ao2_7 a0.2.2.2.2.2.2.2.1.length co2_7)]):=by
   intro W31 M
   exact .a1 tr 10<| .lv M 0 rfl 5 rfl<| .jn M [0] [[0]] (J7) rfl rfl
  have J32:RJ 45 f45 (Q6.R gp0 r w0 FT Zm) [1,1,0] w0 [⟨.pt gp0,72,0,[.bool a0.1,.bool a0.2.1,.i a0.2.2.1,.i a0.2.2.2.1,.i a0.2.2.2.2.1,.bool a0.2.2.2.2.2.1,uo2_6,.slice Ao2_7 a0.2.2.2.2.2.2.2.1.length co2_7,uo2_8,.slice Ao2_9 a0.2.2.2.2.2.2.2.2.2.1.length co2_9,.slice Ao2_10 a0.2.2.2.2.2.2.2.2.2.2.length co2_10]⟩] [FT] [0] ([0,1,2,3,5,6,7,8,9,11,12,13,4,10],[(0,.pt gp0),(2,.i 2),(11,.pt gp0),(15,uo2_6),(16,.i 2),(21,.bool a0.2.2.2.2.2.1),(24,.pointer (some ⟨gp0,7,none⟩))]):=by
   intro W33 M
   exact .a1 tr 14<| .lv M 0 rfl 7 rfl<| .jn M [0] [[0]] (J7) rfl rfl
  have J34:RJ 45 f45 (Q6.R gp0 r w0 FT Zm) [1,1,0] w0 [⟨.pt gp0,72,0,[.bool a0.1,.bool a0.2.1,.i a0.2.2.1,.i a0.2.2.2.1,.i a0.2.2.2.2.1,.bool a0.2.2.2.2.2.1,uo2_6,.slice Ao2_7 a0.2.2.2.2.2.2.2.1.length co2_7,uo2_8,.slice Ao2_9 a0.2.2.2.2.2.2.2.2.2.1.length co2_9,.slice Ao2_10 a0.2.2.2.2.2.2.2.2.2.2.length co2_10]⟩] [FT] [0] ([0,1,2,3,5,6,7,8,9,11,12,13,14],[(0,.pt gp0),(2,.i 2),(11,.pt gp0),(14,.pointer (some ⟨gp0,6,none⟩)),(16,.i 2),(20,.pointer (some ⟨gp0,5,none⟩)),(25,.slice Ao2_7 a0.2.2.2.2.2.2.2.1.length co2_7)]):=by
   intro W35 M
   refine .a2 tr 4 10 ?_ ?_
   ·exact .lv M 0 rfl 6 rfl<| .jn M [0] [[0]] (J30) rfl rfl
   ·exact .lv M 0 rfl 5 rfl<| .jn M [0] [[0]] (J28) rfl rfl
  have J36:RJ 45 f45 (Q6.R gp0 r w0 FT Zm) [1,1,0] w0 [⟨.pt gp0,72,0,[.bool a0.1,.bool a0.2.1,.i a0.2.2.1,.i a0.2.2.2.1,.i a0.2.2.2.2.1,.bool a0.2.2.2.2.2.1,uo2_6,.slice Ao2_7 a0.2.2.2.2.2.2.2.1.length co2_7,uo2_8,.slice Ao2_9 a0.2.2.2.2.2.2.2.2.2.1.length co2_9,.slice Ao2_10 a0.2.2.2.2.2.2.2.2.2.2.length co2_10]⟩] [FT] [0] ([0,1,2,3,5,6,7,8,9,11,12,13,10],[(0,.pt gp0),(2,.i 2),(11,.pt gp0),(14,.pointer (some ⟨gp0,6,none⟩)),(16,.i 2),(21,.bool a0.2.2.2.2.2.1),(24,.pointer (some ⟨gp0,7,none⟩))]):=by
   intro W37 M
   refine .a2 tr 4 14 ?_ ?_
   ·exact .lv M 0 rfl 6 rfl<| .jn M [0] [[0]] (J32) rfl rfl
   ·exact .lv M 0 rfl 7 rfl<| .jn M [0] [[0]] (J28) rfl rfl
  have J38:RJ 45 f45 (Q6.R gp0 r w0 FT Zm) [1,1,0] w0 [⟨.pt gp0,72,0,[.bool a0.1,.bool a0.2.1,.i a0.2.2.1,.i a0.2.2.2.1,.i a0.2.2.2.2.1,.bool a0.2.2.2.2.2.1,uo2_6,.slice Ao2_7 a0.2.2.2.2.2.2.2.1.length co2_7,uo2_8,.slice Ao2_9 a0.2.2.2.2.2.2.2.2.2.1.length co2_9,.slice Ao2_10 a0.2.2.2.2.2.2.2.2.2.2.length co2_10]⟩] [FT] [0] ([0,1,2,3,5,6,7,8,9,11,12,13,4],[(0,.pt gp0),(2,.i 2),(11,.pt gp0),(15,uo2_6),(16,.i 2),(20,.pointer (some ⟨gp0,5,none⟩)),(24,.pointer (some ⟨gp0,7,none⟩))]):=by
   intro W39 M
   refine .a2 tr 10 14 ?_ ?_
   ·exact .lv M 0 rfl 5 rfl<| .jn M [0] [[0]] (J32) rfl rfl
   ·exact .lv M 0 rfl 7 rfl<| .jn M [0] [[0]] (J30) rfl rfl
  refine .a3 tr 4 10 14 ?_ ?_ ?_
  ·exact .lv M 0 rfl 6 rfl<| .jn M [0] [[0]] (J38) rfl rfl
  ·exact .lv M 0 rfl 5 rfl<| .jn M [0] [[0]] (J36) rfl rfl
  ·exact .lv M 0 rfl 7 rfl<| .jn M [0] [[0]] (J34) rfl rfl
 refine .kn 9 c5<| .gq 3<| .at (show RL 45 f45 (Q6.R gp0 r w0 FT Zm) [1,1,0] [(0,.pt gp0),(2,.i a0.2.2.2.1)] _ from .dr [0] M fun W40 M=> ?_)
 refine .pz tr [0,1,2,3,5,6,7,8,9,11,12,13] ?_
 have J41:RJ 45 f45 (Q6.R gp0 r w0 FT Zm) [1,1,0] w0 [⟨.pt gp0,72,0,[.bool a0.1,.bool a0.2.1,.i a0.2.2.1,.i a0.2.2.2.1,.i a0.2.2.2.2.1,.bool a0.2.2.2.2.2.1,uo2_6,.slice Ao2_7 a0.2.2.2.2.2.2.2.1.length co2_7,uo2_8,.slice Ao2_9 a0.2.2.2.2.2.2.2.2.2.1.length co2_9,.slice Ao2_10 a0.2.2.2.2.2.2.2.2.2.2.length co2_10]⟩] [FT] [0] ([0,1,2,3,5,6,7,8,9,11,12,13,4,10,14],[(0,.pt gp0),(2,.i a0.2.2.2.1),(11,.pt gp0),(15,uo2_6),(16,.i a0.2.2.2.1),(21,.bool a0.2.2.2.2.2.1),(25,.slice Ao2_7 a0.2.2.2.2.2.2.2.1.length co2_7)]):=by
  intro W42 M
  obtain ⟨s43,hx_,h⟩:=bs h
  have hps43:=rOpt.some ho2_6 hx_
  obtain ⟨g44,_,rfl,hco45,_,uo45_1,rfl,rfl,ho45_1⟩:=id hps43
  obtain ⟨t47,ht47,h⟩:=bs h
  refine .a1 tr 15<| .ca (V8.calls (ho2_7 _ (zl M hZm 0)) hps43 (zk M hZm 0) ht47) ?_
  rintro _ W46 ⟨gt47_0,cst47_0,Ft47_0,rfl,hRt47_0,hzt47_0,M_⟩
  obtain ⟨uo48_0,_,_,_,_,uo48_5,rfl,ho48_0,rfl,rfl,⟨Ao48_3,co48_3,rfl,ho48_3⟩,⟨Ao48_4,co48_4,rfl,ho48_4⟩⟩:=hRt47_0
  refine .ca M_ [1] ?_
  replace M:=M.cg M_
  refine .pz tr [16,17,18,19,20]<| .a1 tr 21<| .vf 8 (.pt gt47_0) M 1 rfl fun W50 M=> .dn tr<| .gq 7<| .lv M 1 rfl 7 rfl ?_
  obtain ⟨t52,ht52,h⟩:=bs h
  refine .ca (Yz.calls (ho2_7 _ (zl M hZm 1)) ht52) ?_
  rintro _ W51 ⟨A53,c54,rfl,M_⟩
  replace M:=M.cg M_
  refine .gq 2<| .vf 1 (.bool true) M 2 rfl fun W56 M=> .gq 2<| .vf 9 (.slice none 0 0) M 2 rfl fun W57 M=> .gq 2<| .vf 10 (.slice A53 t52.length c54) M 2 rfl fun W58 M=> .gq 1 ?_
  replace M:=M.n1 5
  replace M:=M.n1 5
  obtain ⟨Fq61,hfq61,M⟩:=M.fs 2
  obtain rfl:=sj h
  exact .ret func45 ⟨[.bool a0.1,.bool true,.i a0.2.2.1,.i a0.2.2.2.1,.i a0.2.2.2.2.1,.bool a0.2.2.2.2.2.1,.pt g44,.slice Ao2_7 a0.2.2.2.2.2.2.2.1.length co2_7,.pt gt47_0,.slice none 0 0,.slice A53 t52.length c54],(List.flatten [Fq61,Ft47_0]),gt47_0,[uo48_0,.i t47.1.2.1,.bool t47.1.2.2.1,.slice Ao48_3 t47.1.2.2.2.1.length co48_3,.slice Ao48_4 t47.1.2.2.2.2.1.length co48_4,uo48_5],⟨.slice none 0 0,5,1,nums .u8 []⟩,none,0,0,rfl,⟨_,_,_,_,_,_,_,_,_,rfl,rfl,rfl,rfl,rfl,rfl,rfl,(upc _ _ _ _ (fun _ z=>z.2) (.inr ⟨s43,rfl,hps43⟩)),(upn (fun _ z=>z.2) (rno ho2_7 (zl M hZm 2))),(upn (fun _ z=>(Oks.g z.1 0 rfl)) (rno hfq61 (M.oks 0)))⟩,⟨_,_,_,_,_,_,rfl,(upc _ _ _ _ (fun _ z=>(ai (Oks.g z.1 1 rfl) z.2)) ho48_0),rfl,rfl,(upn (fun _ z=>(ai (Oks.g z.1 1 rfl) z.2)) (rno ho48_3 (ai (M.oks 1) (zl M hZm 2)))),(upn (fun _ z=>(ai (Oks.g z.1 1 rfl) z.2)) (rno ho48_4 (ai (M.oks 1) (zl M hZm 2))))⟩,(.inl hzt47_0),(M.pm [3,2,1,0] [[0,1],[2]])⟩
 have J62:RJ 45 f45 (Q6.R gp0 r w0 FT Zm) [1,1,0] w0 [⟨.pt gp0,72,0,[.bool a0.1,.bool a0.2.1,.i a0.2.2.1,.i a0.2.2.2.1,.i a0.2.2.2.2.1,.bool a0.2.2.2.2.2.1,uo2_6,.slice Ao2_7 a0.2.2.2.2.2.2.2.1.length co2_7,uo2_8,.slice Ao2_9 a0.2.2.2.2.2.2.2.2.2.1.length co2_9,.slice Ao2_10 a0.2.2.2.2.2.2.2.2.2.2.length co2_10]⟩] [FT] [0] ([0,1,2,3,5,6,7,8,9,11,12,13,10,14],[(0,.pt gp0),(2,.i a0.2.2.2.1),(11,.pt gp0),(14,.pointer (some ⟨gp0,6,none⟩)),(16,.i a0.2.2.2.1),(21,.bool a0.2.2.2.2.2.1),(25,.slice Ao2_7 a0.2.2.2.2.2.2.2.1.length co2_7)]):=by
  intro W63 M
  exact .a1 tr 4<| .lv M 0 rfl 6 rfl<| .jn M [0] [[0]] (J41) rfl rfl
 have J64:RJ 45 f45 (Q6.R gp0 r w0 FT Zm) [1,1,0] w0 [⟨.pt gp0,72,0,[.bool a0.1,.bool a0.2.1,.i a0.2.2.1,.i a0.2.2.2.1,.i a0.2.2.2.2.1,.bool a0.2.2.2.2.2.1,uo2_6,.slice Ao2_7 a0.2.2.2.2.2.2.2.1.length co2_7,uo2_8,.slice Ao2_9 a0.2.2.2.2.2.2.2.2.2.1.length co2_9,.slice Ao2_10 a0.2.2.2.2.2.2.2.2.2.2.length co2_10]⟩] [FT] [0] ([0,1,2,3,5,6,7,8,9,11,12,13,4,14],[(0,.pt gp0),(2,.i a0.2.2.2.1),(11,.pt gp0),(15,uo2_6),(16,.i a0.2.2.2.1),(20,.pointer (some ⟨gp0,5,none⟩)),(25,.slice Ao2_7 a0.2.2.2.2.2.2.2.1.length co2_7)]):=by
  intro W65 M
  exact .a1 tr 10<| .lv M 0 rfl 5 rfl<| .jn M [0] [[0]] (J41) rfl rfl
 have J66:RJ 45 f45 (Q6.R gp0 r w0 FT Zm) [1,1,0] w0 [⟨.pt gp0,72,0,[.bool a0.1,.bool a0.2.1,.i a0.2.2.1,.i a0.2.2.2.1,.i a0.2.2.2.2.1,.bool a0.2.2.2.2.2.1,uo2_6,.slice Ao2_7 a0.2.2.2.2.2.2.2.1.length co2_7,uo2_8,.slice Ao2_9 a0.2.2.2.2.2.2.2.2.2.1.length co2_9,.slice Ao2_10 a0.2.2.2.2.2.2.2.2.2.2.length co2_10]⟩] [FT] [0] ([0,1,2,3,5,6,7,8,9,11,12,13,4,10],[(0,.pt gp0),(2,.i a0.2.2.2.1),(11,.pt gp0),(15,uo2_6),(16,.i a0.2.2.2.1),(21,.bool a0.2.2.2.2.2.1),(24,.pointer (some ⟨gp0,7,none⟩))]):=by
  intro W67 M
  exact .a1 tr 14<| .lv M 0 rfl 7 rfl<| .jn M [0] [[0]] (J41) rfl rfl
 have J68:RJ 45 f45 (Q6.R gp0 r w0 FT Zm) [1,1,0] w0 [⟨.pt gp0,72,0,[.bool a0.1,.bool a0.2.1,.i a0.2.2.1,.i a0.2.2.2.1,.i a0.2.2.2.2.1,.bool a0.2.2.2.2.2.1,uo2_6,.slice Ao2_7 a0.2.2.2.2.2.2.2.1.length co2_7,uo2_8,.slice Ao2_9 a0.2.2.2.2.2.2.2.2.2.1.length co2_9,.slice Ao2_10 a0.2.2.2.2.2.2.2.2.2.2.length co2_10]⟩] [FT] [0] ([0,1,2,3,5,6,7,8,9,11,12,13,14],[(0,.pt gp0),(2,.i a0.2.2.2.1),(11,.pt gp0),(14,.pointer (some ⟨gp0,6,none⟩)),(16,.i a0.2.2.2.1),(20,.pointer (some ⟨gp0,5,none⟩)),(25,.slice Ao2_7 a0.2.2.2.2.2.2.2.1.length co2_7)]):=by
  intro W69 M
  refine .a2 tr 4 10 ?_ ?_
  ·exact .lv M 0 rfl 6 rfl<| .jn M [0] [[0]] (J64) rfl rfl
  ·exact .lv M 0 rfl 5 rfl<| .jn M [0] [[0]] (J62) rfl rfl
 have J70:RJ 45 f45 (Q6.R gp0 r w0 FT Zm) [1,1,0] w0 [⟨.pt gp0,72,0,[.bool a0.1,.bool a0.2.1,.i a0.2.2.1,.i a0.2.2.2.1,.i a0.2.2.2.2.1,.bool a0.2.2.2.2.2.1,uo2_6,.slice Ao2_7 a0.2.2.2.2.2.2.2.1.length co2_7,uo2_8,.slice Ao2_9 a0.2.2.2.2.2.2.2.2.2.1.length co2_9,.slice Ao2_10 a0.2.2.2.2.2.2.2.2.2.2.length co2_10]⟩] [FT] [0] ([0,1,2,3,5,6,7,8,9,11,12,13,10],[(0,.pt gp0),(2,.i a0.2.2.2.1),(11,.pt gp0),(14,.pointer (some ⟨gp0,6,none⟩)),(16,.i a0.2.2.2.1),(21,.bool a0.2.2.2.2.2.1),(24,.pointer (some ⟨gp0,7,none⟩))]):=by
  intro W71 M
  refine .a2 tr 4 14 ?_ ?_
  ·exact .lv M 0 rfl 6 rfl<| .jn M [0] [[0]] (J66) rfl rfl
  ·exact .lv M 0 rfl 7 rfl<| .jn M [0] [[0]] (J62) rfl rfl
 have J72:RJ 45 f45 (Q6.R gp0 r w0 FT Zm) [1,1,0] w0 [⟨.pt gp0,72,0,[.bool a0.1,.bool a0.2.1,.i a0.2.2.1,.i a0.2.2.2.1,.i a0.2.2.2.2.1,.bool a0.2.2.2.2.2.1,uo2_6,.slice Ao2_7 a0.2.2.2.2.2.2.2.1.length co2_7,uo2_8,.slice Ao2_9 a0.2.2.2.2.2.2.2.2.2.1.length co2_9,.slice Ao2_10 a0.2.2.2.2.2.2.2.2.2.2.length co2_10]⟩] [FT] [0] ([0,1,2,3,5,6,7,8,9,11,12,13,4],[(0,.pt gp0),(2,.i a0.2.2.2.1),(11,.pt gp0),(15,uo2_6),(16,.i a0.2.2.2.1),(20,.pointer (some ⟨gp0,5,none⟩)),(24,.pointer (some ⟨gp0,7,none⟩))]):=by
  intro W73 M
  refine .a2 tr 10 14 ?_ ?_
  ·exact .lv M 0 rfl 5 rfl<| .jn M [0] [[0]] (J66) rfl rfl
  ·exact .lv M 0 rfl 7 rfl<| .jn M [0] [[0]] (J64) rfl rfl
 refine .a3 tr 4 10 14 ?_ ?_ ?_
 ·exact .lv M 0 rfl 6 rfl<| .jn M [0] [[0]] (J72) rfl rfl
 ·exact .lv M 0 rfl 5 rfl<| .jn M [0] [[0]] (J70) rfl rfl
 ·exact .lv M 0 rfl 7 rfl<| .jn M [0] [[0]] (J68) rfl rfl
end Go.Scr.S

namespace Go.Scr.S
variable {k np0 cp0 np1 cp1 np2 cp2 np3 cp3 np4 cp4:Nat} {Ap0 Ap1 Ap2 Ap3 Ap4:Option Addr} {w w0:World} {FT:List Ent} {Zm Zp0 Zp1 Zp2 Zp3:Zp}
open Go.RowKit (Below)
open Go.Proofs.Tryz (prog f12 func12)
def Q4.f (k:Nat) (a0:Cx) (a1:Int×Int×Int×Bool) (a2:Li) (a3:Li):Option (Int×Cy):=(Yu.f k a1 a2 a3).bind fun t7=>(if (t7 != 0)=true then (none) else ((Q1.f k a1.1 a2).bind fun t10=>((t10.1).bind fun s12=>((Yz.f k a3).bind fun t18=>((Q6.f k (true,a0.2.1,a1.1,a1.2.1,a1.2.2.1,a1.2.2.2,(some s12),t18,a0.2.2.2.2.2.2.2.2.1,a0.2.2.2.2.2.2.2.2.2.1,a0.2.2.2.2.2.2.2.2.2.2)).bind fun t26=>(some (0,t26)))))))
abbrev Q4.R (gp0:Nat) (r:Int×Cy) (w0:World) (FT:List Ent) (Zm:Zp):Value→World→Prop:=fun v w'=> ∃(cs':List Value) (F':List Ent) (gq8':Nat) (csq8':List Value) (eq85':Ent) (Aq9':Option Addr) (nq9' cq9':Nat),v= .i r.1∧MxA_ctx_Ctx (andZ (Oks F') Zm) (.pointer (some ⟨gq8',0,none⟩)) (.slice Aq9' nq9' cq9') cs' r.2∧Rs_modes_Mode (andZ (Oks F') Zm) csq8' r.2.2.2.2.2.2.2.2.2.1∧Own5 eq85' csq8' r.2.2.2.2.2.2.2.2.2.1∧Mem w0 w' (Gs [⟨.pt gp0,72,0,cs'⟩,⟨(.pointer (some ⟨gq8',0,none⟩)),100,0,csq8'⟩,eq85',⟨(.slice Aq9' nq9' cq9'),5,1,nums .u8 r.2.2.2.2.2.2.2.2.2.2.1⟩] [F',FT])
theorem Q4.calls {gp0:Nat} {csp0:List Value} {a0:Cx} {a1:Int×Int×Int×Bool} {a2:Li} {a3:Li} {r:Int×Cy} (hp0:Rs_ctx_Ctx Zm csp0 a0) (hZm: ∀W,Kept w0 W→Oks FT W→Zm W) (M0:Mem w0 w (Gs [⟨.pt gp0,72,0,csp0⟩] [FT])) (hr2:RdF Zp2 (.slice Ap2 np2 cp2) (nums .u8 a2)) (hZp2: ∀W,Kept w0 W→Oks FT W→Zp2 W) (hr3:RdF Zp3 (.slice Ap3 np3 cp3) (nums .u8 a3)) (hZp3: ∀W,Kept w0 W→Oks FT W→Zp3 W) (hG1:Rg w0 1 (nums .u8 [1,2,4,8,16,32,64,128])) (h:Q4.f k a0 a1 a2 a3=some r):Calls prog 12 #[.pt gp0,.agg #[.i a1.1,.i a1.2.1,.i a1.2.2.1,.bool a1.2.2.2],(.slice Ap2 np2 cp2),(.slice Ap3 np3 cp3)] w (Ret (Q4.R gp0 r w0 FT Zm)):=by
 obtain rfl:=(hr2 _ (hZp2 _ M0.kept (M0.oks 0))).ln
 obtain rfl:=(hr3 _ (hZp3 _ M0.kept (M0.oks 0))).ln
 obtain ⟨_,_,_,_,_,_,uo2_6,_,uo2_8,_,_,rfl,rfl,rfl,rfl,rfl,rfl,rfl,ho2_6,⟨Ao2_7,co2_7,rfl,ho2_7⟩,ho2_8,⟨Ao2_9,co2_9,rfl,ho2_9⟩,⟨Ao2_10,co2_10,rfl,ho2_10⟩⟩:=hp0
 unfold Q4.f at h
 refine calls_S func12 ?_
 have M:=M0
 refine .gq 2<| .nw 27 ([.i a1.1,.i a1.2.1,.i a1.2.2.1,.bool a1.2.2.2]) M fun g3 W4 M=> .gq 5<| .y (yl_ldp (g:=g3) (off:=0) 4 [.i a1.1,.i a1.2.1,.i a1.2.2.1,.bool a1.2.2.2] rfl) (fun i_ u_ hu_=>match i_,hu_ with | 0,h_=>(M.var_at 0 rfl (i:=0) (u:=u_) h_).1 | 1,h_=>(M.var_at 0 rfl (i:=1) (u:=u_) h_).1 | 2,h_=>(M.var_at 0 rfl (i:=2) (u:=u_) h_).1 | 3,h_=>(M.var_at 0 rfl (i:=3) (u:=u_) h_).1 | _+4,h_=>by cases h_)<| .gq 2 ?_
 obtain ⟨t7,ht7,h⟩:=bs h
 refine .ca (Yu.calls (hr2 _ (zl M hZp2 0)) (hr3 _ (zl M hZp3 0)) (hG1.kept M.kept) ht7) ?_
 rintro _ W6 ⟨rfl,M_⟩
 replace M:=M.cg M_
 refine .gq 7 ?_
 obtain ⟨c8,h⟩:=ifz h
 refine .kn 15 c8<| .gq 6<| .lv M 0 rfl 0 rfl<| .gq 1 ?_
 obtain ⟨t10,ht10,h⟩:=bs h
 refine .ca (Q1.calls (hr2 _ (zl M hZp2 0)) (hG1.kept M.kept) ht10) ?_
 rintro _ W9 ⟨vt10_0,Ft10_0,rfl,hRt10_0,M_⟩
 replace M:=M.cg M_
 refine .gq 5 ?_
 obtain ⟨s12,hx_,h⟩:=bs h
 have hps12:=rOpt.some hRt10_0 hx_
 obtain ⟨g13,_,rfl,hco14,_,uo14_1,rfl,rfl,ho14_1⟩:=id hps12
 refine .vf 6 (.pt g13) M 1 rfl fun W15 M=> .gq 2<| .at (show RL 12 f12 (Q4.R gp0 r w0 FT Zm) [1,1,1,0] [(0,.pt gp0),(3,.slice Ap3 a3.length cp3),(5,.pt g3)] _ from .dr [1] M fun W16 M=> ?_)
 refine .pz tr [0,1,2]<| .y tr 3 (yl_ldp (g:=g3) (off:=0) 4 [.i a1.1,.i a1.2.1,.i a1.2.2.1,.bool a1.2.2.2] rfl) (fun _ hs=>(fun i_ u_ hu_=>match i_,hu_ with | 0,h_=>M.vs hs 0 rfl 0 h_ | 1,h_=>M.vs hs 0 rfl 1 h_ | 2,h_=>M.vs hs 0 rfl 2 h_ | 3,h_=>M.vs hs 0 rfl 3 h_ | _+4,h_=>by cases h_))<| .pz tr [4] ?_
 obtain ⟨t18,ht18,h⟩:=bs h
 refine .a1 tr 5<| .ca (Yz.calls (hr3 _ (zl M hZp3 1)) ht18) ?_
 rintro _ W17 ⟨A19,c20,rfl,M_⟩
 refine .ca M_ [2] ?_
 replace M:=M.cg M_
 refine .pz tr [6,7]<| .a1 tr 8<| .sp (off:=2) 4 [.i a1.1,.i a1.2.1,.i a1.2.2.1,.bool a1.2.2.2] M 2 rfl rfl (Nat.le_of_ble_eq_true rfl) (by simp [Value.oneCell']) rfl fun W22 M=> .pz tr [9,10]<| .a1 tr 11<| .vf 7 (.slice A19 t18.length c20) M 2 rfl fun W23 M=> .pz tr [12,13]<| .a1 tr 14<| .vf 0 (.bool true) M 2 rfl fun W24 M=> .dn tr<| .gq 3 ?_
 obtain ⟨Fq27,hfq27,M⟩:=M.fs 0
 have hs28:Rs_ctx_Ctx (andZ (Oks Ft10_0) (andZ (Oks Fq27) Zm)) [.bool true,.bool a0.2.1,.i a1.1,.i a1.2.1,.i a1.2.2.1,.bool a1.2.2.2,.pt g13,.slice A19 t18.length c20,uo2_8,.slice Ao2_9 a0.2.2.2.2.2.2.2.2.2.1.length co2_9,.slice Ao2_10 a0.2.2.2.2.2.2.2.2.2.2.length co2_10] (true,a0.2.1,a1.1,a1.2.1,a1.2.2.1,a1.2.2.2,(some s12),t18,a0.2.2.2.2.2.2.2.2.1,a0.2.2.2.2.2.2.2.2.2.1,a0.2.2.2.2.2.2.2.2.2.2):=⟨_,_,_,_,_,_,_,_,_,_,_,rfl,rfl,rfl,rfl,rfl,rfl,rfl,(upc _ _ _ _ (fun _ z=>z.1) (.inr ⟨s12,rfl,hps12⟩)),(upn (fun _ z=>z.2.1) (rno hfq27 (M.oks 0))),((up_opt (up_ptr up_Rs_modes_Mode)) _ _ _ _ (fun _ z=>z.2.2) ho2_8),(upn (fun _ z=>z.2.2) (rno ho2_9 (zl M hZm 2))),(upn (fun _ z=>z.2.2) (rno ho2_10 (zl M hZm 2)))⟩
 obtain ⟨t26,ht26,h⟩:=bs h
 refine .ca (Q6.calls (hp0:=hs28) (hZm:=fun _ hk_ hT_=>(ai (hT_.fg 1 rfl) (ai (hT_.fg 0 rfl) (hZm _ hk_ (hT_.fg 2 rfl))))) (M0:=M.fm [1] [0] [0,1,2] rfl rfl rfl) (h:=ht26)) ?_
 rintro _ W25 ⟨cst26,Ft26,gq8t26,csq8t26,eq85t26,Aq9t26,nq9t26,cq9t26,rfl,hRt26,hq8t26,hq85t26,M_⟩
 have hr29:MxA_ctx_Ctx (andZ (Oks Ft26) (andZ (Oks Ft10_0) (andZ (Oks Fq27) Zm))) (.pt gq8t26) (.slice Aq9t26 nq9t26 cq9t26) cst26 t26:=hRt26
 have hrhr298:Rs_modes_Mode (andZ (Oks Ft26) (andZ (Oks Ft10_0) (andZ (Oks Fq27) Zm))) csq8t26 t26.2.2.2.2.2.2.2.2.1:=hq8t26
 have hrhr2985:Own5 eq85t26 csq8t26 t26.2.2.2.2.2.2.2.2.1:=hq85t26
 replace M:=M_.uf
 obtain rfl:=(M_.or 3).ln
 obtain ⟨uo31_0,_,_,_,_,uo31_5,rfl,ho31_0,rfl,rfl,⟨Ao31_3,co31_3,rfl,ho31_3⟩,⟨Ao31_4,co31_4,rfl,ho31_4⟩⟩:=hrhr298
 obtain ⟨_,_,_,_,_,_,uo34_6,_,_,rfl,rfl,rfl,rfl,rfl,rfl,rfl,ho34_6,⟨Ao34_7,co34_7,rfl,ho34_7⟩,⟨Ao34_10,co34_10,rfl,ho34_10⟩⟩:=hr29
 refine .gq 5 ?_
 obtain rfl:=sj h
 exact .ret func12 ⟨[.bool t26.1,.bool t26.2.1,.i t26.2.2.1,.i t26.2.2.2.1,.i t26.2.2.2.2.1,.bool t26.2.2.2.2.2.1,uo34_6,.slice Ao34_7 t26.2.2.2.2.2.2.2.1.length co34_7,.pt gq8t26,.slice Aq9t26 t26.2.2.2.2.2.2.2.2.2.1.length cq9t26,.slice Ao34_10 t26.2.2.2.2.2.2.2.2.2.2.length co34_10],(List.flatten [Ft26,Fq27,Ft10_0]),gq8t26,[uo31_0,.i t26.2.2.2.2.2.2.2.2.1.2.1,.bool t26.2.2.2.2.2.2.2.2.1.2.2.1,.slice Ao31_3 t26.2.2.2.2.2.2.2.2.1.2.2.2.1.length co31_3,.slice Ao31_4 t26.2.2.2.2.2.2.2.2.1.2.2.2.2.1.length co31_4,uo31_5],eq85t26,Aq9t26,t26.2.2.2.2.2.2.2.2.2.1.length,cq9t26,rfl,⟨_,_,_,_,_,_,_,_,_,rfl,rfl,rfl,rfl,rfl,rfl,rfl,(upc _ _ _ _ (fun _ z=>(ai (Oks.g z.1 0 rfl) (ai (Oks.g z.1 2 rfl) (ai (Oks.g z.1 1 rfl) z.2)))) ho34_6),(upn (fun _ z=>(ai (Oks.g z.1 0 rfl) (ai (Oks.g z.1 2 rfl) (ai (Oks.g z.1 1 rfl) z.2)))) (rno ho34_7 (ai (M.oks 0) (ai (M.oks 2) (ai (M.oks 1) (zl M hZm 3)))))),(upn (fun _ z=>(ai (Oks.g z.1 0 rfl) (ai (Oks.g z.1 2 rfl) (ai (Oks.g z.1 1 rfl) z.2)))) (rno ho34_10 (ai (M.oks 0) (ai (M.oks 2) (ai (M.oks 1) (zl M hZm 3))))))⟩,⟨_,_,_,_,_,_,rfl,(upc _ _ _ _ (fun _ z=>(ai (Oks.g z.1 0 rfl) (ai (Oks.g z.1 2 rfl) (ai (Oks.g z.1 1 rfl) z.2)))) ho31_0),rfl,rfl,(upn (fun _ z=>(ai (Oks.g z.1 0 rfl) (ai (Oks.g z.1 2 rfl) (ai (Oks.g z.1 1 rfl) z.2)))) (rno ho31_3 (ai (M.oks 0) (ai (M.oks 2) (ai (M.oks 1) (zl M hZm 3)))))),(upn (fun _ z=>(ai (Oks.g z.1 0 rfl) (ai (Oks.g z.1 2 rfl) (ai (Oks.g z.1 1 rfl) z.2)))) (rno ho31_4 (ai (M.oks 0) (ai (M.oks 2) (ai (M.oks 1) (zl M hZm 3))))))⟩,hrhr2985,(M.pm [0,1,2,3] [[0,1,2],[3]])⟩
end Go.Scr.S
