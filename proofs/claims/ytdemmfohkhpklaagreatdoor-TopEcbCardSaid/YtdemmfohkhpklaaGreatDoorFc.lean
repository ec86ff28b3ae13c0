/- Functions that the law reaches, as plain functions, and that each call answers so: stolen ends, modes, contexts. -/
import Derived.Test.YtdemmfohkhpklaaGreatDoorXF
import Derived.Test.YtdemmfohkhpklaaGreatDoorFa
import Derived.Test.YtdemmfohkhpklaaGreatDoorFb
set_option linter.unusedVariables false
set_option linter.unusedSimpArgs false
set_option maxRecDepth 100000
set_option maxHeartbeats 8000000
namespace Go.Scr.S
variable {k np0 cp0 np1 cp1 np2 cp2 np3 cp3 np4 cp4:Nat} {Ap0 Ap1 Ap2 Ap3 Ap4:Option Addr} {w w0:World} {FT:List Ent} {Zm Zp0 Zp1 Zp2 Zp3:Zp}
open Go.RowKit (Below)
open Go.Proofs.Tryz (prog f44 func44 f68 func68 f117 func117 f118 func118 f119 func119 f161 func161)
def slices_Clone_byte_byte.f (k:Nat) (a0:Li):Option Li:=gd (([]:Li).length+a0.length≤1000000000) (some (([]:Li)++a0))
theorem slices_Clone_byte_byte.calls {a0:Li} {r:Li} (hr0:Rd w (.slice Ap0 np0 cp0) (nums .u8 a0)) (h:slices_Clone_byte_byte.f k a0=some r):Calls prog 44 #[(.slice Ap0 np0 cp0)] w (Ret fun v w'=> ∃A0' c0',v= .slice A0' r.length c0'∧Mem w w' (Gs [⟨.slice A0' r.length c0',5,1,nums .u8 r⟩] [])):=by
 obtain rfl:=hr0.ln
 unfold slices_Clone_byte_byte.f at h
 refine calls_S func44 ?_
 have hM:=Mem.r0 w
 refine .gq 8 ?_
 rcases (hr0.mono hM.below).isnil with ⟨rfl,hn_⟩ | ⟨a1,rfl⟩
 ·obtain rfl:a0=[]:=by simpa [nums,bools,strs,ones] using hn_
  replace h:(some ([]:Li))=some r:=by simpa using h
  refine .gq 7 ?_
  replace hM:=hM.n1 5
  obtain rfl:=sj h
  exact .ret func44 ⟨none,0,rfl,(hM.pm [0] [])⟩
 ·refine .gq 6<| .new 5 1 0 (nums .u8 []) hM fun g2 W3 hM=> .gq 1 ?_
  obtain ⟨c8,h⟩:=ifd h
  refine .an hM 0 rfl (hr0.mono hM.below) c8 fun A5 c6 W7 hM=> .gq 2 ?_
  obtain rfl:=sj h
  exact .ret func44 ⟨A5,c6,rfl,(hM.pm [0] [])⟩
mutual
def steal_plus.l0:Nat→Li→Li→Li→Int→Option Li
 | 0,_,_,_,_=>none
 | k+1,a0,t4,x5_0,x19_0=>if (decide (x19_0<(a0.length:Int)))=true then (gd (0≤x19_0) (gd (x19_0<(a0.length:Int)) (gd (0≤x19_0) (gd (x19_0<(t4.length:Int)) (gd (0≤x19_0) (gd (x19_0<(t4.length:Int)) (steal_plus.l0 k a0 t4 (x5_0.set (x19_0:Int).toNat (bxor .u8 (rd x5_0 x19_0) (rd a0 x19_0))) (I64 (x19_0+1))))))))) else (some x5_0)
def steal_plus.l1:Nat→Li→Li→Li→Int→Option Li
 | 0,_,_,_,_=>none
 | k+1,a1,t20,x5_1,x19_1=>if (decide (x19_1<(a1.length:Int)))=true then (gd (0≤x19_1) (gd (x19_1<(a1.length:Int)) (gd (0≤x19_1) (gd (x19_1<(t20.length:Int)) (gd (0≤x19_1) (gd (x19_1<(t20.length:Int)) (steal_plus.l1 k a1 t20 (x5_1.set (x19_1:Int).toNat (bxor .u8 (rd x5_1 x19_1) (rd a1 x19_1))) (I64 (x19_1+1))))))))) else (some x5_1)
end
def steal_plus.f (k:Nat) (a0:Li) (a1:Li):Option Li:=(some (decide ((a0.length:Int)<(a1.length:Int)):Bool)).bind fun y1=>(if y1=true then ((slices_Clone_byte_byte.f k a1).bind fun t4=>(steal_plus.l0 k a0 t4 t4 0)) else ((slices_Clone_byte_byte.f k a0).bind fun t20=>(steal_plus.l1 k a1 t20 t20 0)))
abbrev steal_plus.R (r:Li) (w:World):Value→World→Prop:=fun v w'=> ∃A0' c0',v= .slice A0' r.length c0'∧Mem w w' (Gs [⟨.slice A0' r.length c0',5,1,nums .u8 r⟩] [])
theorem steal_plus.calls {a0:Li} {a1:Li} {r:Li} (hr0:Rd w (.slice Ap0 np0 cp0) (nums .u8 a0)) (hr1:Rd w (.slice Ap1 np1 cp1) (nums .u8 a1)) (h:steal_plus.f k a0 a1=some r):Calls prog 161 #[(.slice Ap0 np0 cp0),(.slice Ap1 np1 cp1)] w (Ret (steal_plus.R r w)):=by
 obtain rfl:=hr0.ln
 obtain rfl:=hr1.ln
 unfold steal_plus.f at h
 refine calls_S func161 ?_
 have hM:=Mem.r0 w
 refine .gq 13 ?_
 let y1:Bool:=decide ((a0.length:Int)<(a1.length:Int))
 replace h:=bz (y:=y1) h rfl
 rcases ift h with ⟨c2,h⟩ | ⟨c2,h⟩
 ·refine .kn 12 c2<| .gq 10 ?_
  obtain ⟨t4,ht4,h⟩:=bs h
  refine .ca (slices_Clone_byte_byte.calls (hr1.mono hM.below) ht4) ?_
  rintro _ W3 ⟨A5,c6,rfl,hM_⟩
  replace hM:=hM.cg hM_
  refine .gq 11 ?_
  have l0: ∀k_≤k,∀(x5_0:Li) (x19_0:Int) {W:World} (hM:Mem w W (Gs [⟨.slice A5 t4.length c6,5,1,nums .u8 x5_0⟩] [])) (h:steal_plus.l0 k_ a0 t4 x5_0 x19_0=some r),RL 161 f161 (steal_plus.R r w) [1,1,1,0,1,0,0] [(5,.slice A5 t4.length c6),(17,.slice Ap0 a0.length cp0),(18,.i (a0.length:Int)),(19,.i x19_0)] W:=by
   refine loopI (by intros;rename_i h;simp [steal_plus.l0] at h) fun k hk ih0 x5_0 x19_0 W hM h=> ?_
   simp only [steal_plus.l0] at h
   refine .gq 5 ?_
   rcases ift h with ⟨c8,h⟩ | ⟨c8,h⟩
   ·refine .kn 20 c8<| .gq 7 ?_
    obtain ⟨c10,h⟩:=ifd h
    obtain ⟨c11,h⟩:=ifd h
    obtain ⟨pq9,Cq9⟩:=(hr0.mono hM.below).na c10 c11
    refine .ix Cq9<| .lc Cq9<| .gq 6 ?_
    obtain ⟨c13,h⟩:=ifd h
    obtain ⟨c14,h⟩:=ifd h
    obtain ⟨pq12,Cq12⟩:=hM.na 0 rfl c13 c14
    refine .ix Cq12<| .lc Cq12<| .gq 2 ?_
    obtain ⟨c16,h⟩:=ifd h
    obtain ⟨c17,h⟩:=ifd h
    obtain ⟨pq15,Cq15⟩:=hM.na 0 rfl c16 c17
    exact .ix Cq15<| .sn (bxor .u8 (rd x5_0 x19_0) (rd a0 x19_0)) Cq15 hM 0 rfl fun W18 hM=> .gq 7<| .at (ih0 k (by omega) (x5_0.set (x19_0:Int).toNat (bxor .u8 (rd x5_0 x19_0) (rd a0 x19_0))) (I64 (x19_0+1)) (hM.pm [0] []) h)
   refine .kn 20 c8<| .gq 7 ?_
   obtain rfl:=sj h
   have hn0_:=(hM.or 0).ln
   exact .ret (v:= .slice A5 t4.length c6) func161 ⟨A5,c6,(by rw [hn0_]),by rw [hn0_];exact (hM.pm [0] [])⟩
  exact .at (l0 k k.le_refl t4 0 (hM.pm [0] []) h)
 refine .kn 12 c2<| .gq 5 ?_
 obtain ⟨t20,ht20,h⟩:=bs h
 refine .ca (slices_Clone_byte_byte.calls (hr0.mono hM.below) ht20) ?_
 rintro _ W19 ⟨A21,c22,rfl,hM_⟩
 replace hM:=hM.cg hM_
 refine .gq 11 ?_
 have l1: ∀k_≤k,∀(x5_1:Li) (x19_1:Int) {W:World} (hM:Mem w W (Gs [⟨.slice A21 t20.length c22,5,1,nums .u8 x5_1⟩] [])) (h:steal_plus.l1 k_ a1 t20 x5_1 x19_1=some r),RL 161 f161 (steal_plus.R r w) [1,1,1,0,1,0,0] [(5,.slice A21 t20.length c22),(17,.slice Ap1 a1.length cp1),(18,.i (a1.length:Int)),(19,.i x19_1)] W:=by
  refine loopI (by intros;rename_i h;simp [steal_plus.l1] at h) fun k hk ih1 x5_1 x19_1 W hM h=> ?_
  simp only [steal_plus.l1] at h
  refine .gq 5 ?_
  rcases ift h with ⟨c24,h⟩ | ⟨c24,h⟩
  ·refine .kn 20 c24<| .gq 7 ?_
   obtain ⟨c26,h⟩:=ifd h
   obtain ⟨c27,h⟩:=ifd h
   obtain ⟨pq25,Cq25⟩:=(hr1.mono hM.below).na c26 c27
   refine .ix Cq25<| .lc Cq25<| .gq 6 ?_
   obtain ⟨c29,h⟩:=ifd h
   obtain ⟨c30,h⟩:=ifd h
   obtain ⟨pq28,Cq28⟩:=hM.na 0 rfl c29 c30
   refine .ix Cq28<| .lc Cq28<| .gq 2 ?_
   obtain ⟨c32,h⟩:=ifd h
   obtain ⟨c33,h⟩:=ifd h
   obtain ⟨pq31,Cq31⟩:=hM.na 0 rfl c32 c33
   exact .ix Cq31<| .sn (bxor .u8 (rd x5_1 x19_1) (rd a1 x19_1)) Cq31 hM 0 rfl fun W34 hM=> .gq 7<| .at (ih1 k (by omega) (x5_1.set (x19_1:Int).toNat (bxor .u8 (rd x5_1 x19_1) (rd a1 x19_1))) (I64 (x19_1+1)) (hM.pm [0] []) h)
  refine .kn 20 c24<| .gq 7 ?_
  obtain rfl:=sj h
  have hn0_:=(hM.or 0).ln
  exact .ret (v:= .slice A21 t20.length c22) func161 ⟨A21,c22,(by rw [hn0_]),by rw [hn0_];exact (hM.pm [0] [])⟩
 exact .at (l1 k k.le_refl t20 0 (hM.pm [0] []) h)
def steal_begins.f (k:Nat) (a0:Ci) (a1:Bool) (a2:Li) (a3:Li):Option Li:=(cipher_Cipher_Size.f k a0).bind fun t3=>(gd (0≤(I64 ((a3.length:Int)-t3))) (gd ((I64 ((a3.length:Int)-t3))≤(a3.length:Int)) (gd (0≤(I64 ((a3.length:Int)-t3))) (gd ((I64 ((a3.length:Int)-t3))≤(a3.length:Int)) (if a1=true then (gd (0≤t3) (gd (t3≤(a3.length:Int)) (gd (0≤t3) (gd (t3≤(a3.length:Int)) ((cipher_Cipher_Dec.f k a0 ((a3.take (t3:Int).toNat).drop (0:Int).toNat)).bind fun t28=>(gd (0≤(I64 ((a3.length:Int)-t3))) (gd ((I64 ((a3.length:Int)-t3))≤(t28.1.length:Int)) ((steal_plus.f k ((t28.1.take (I64 ((a3.length:Int)-t3):Int).toNat).drop (0:Int).toNat) ((a3.take ((a3.length:Int):Int).toNat).drop (t3:Int).toNat)).bind fun t38=>(gd (0≤(I64 ((a3.length:Int)-t3))) (gd ((I64 ((a3.length:Int)-t3))≤(t28.1.length:Int)) ((slices_Concat_byte_byte.f k ([((a3.take ((a3.length:Int):Int).toNat).drop (t3:Int).toNat),((t28.1.take ((t28.1.length:Int):Int).toNat).drop (I64 ((a3.length:Int)-t3):Int).toNat)]:Lj)).bind fun t54=>((cipher_Cipher_Dec.f k a0 t54).bind fun t59=>((steal_plus.f k t59.1 a2).bind fun t64=>((slices_Concat_byte_byte.f k ([t64,t38]:Lj)).bind fun t76=>(some t76))))))))))))))) else ((cipher_Cipher_Dec.f k a0 ((a3.take ((a3.length:Int):Int).toNat).drop (I64 ((a3.length:Int)-t3):Int).toNat)).bind fun t81=>(gd (0≤(I64 ((a3.length:Int)-t3))) (gd ((I64 ((a3.length:Int)-t3))≤(t81.1.length:Int)) ((steal_plus.f k ((t81.1.take (I64 ((a3.length:Int)-t3):Int).toNat).drop (0:Int).toNat) ((a3.take (I64 ((a3.length:Int)-t3):Int).toNat).drop (0:Int).toNat)).bind fun t91=>(gd (0≤(I64 ((a3.length:Int)-t3))) (gd ((I64 ((a3.length:Int)-t3))≤(t81.1.length:Int)) ((slices_Concat_byte_byte.f k ([((a3.take (I64 ((a3.length:Int)-t3):Int).toNat).drop (0:Int).toNat),((t81.1.take ((t81.1.length:Int):Int).toNat).drop (I64 ((a3.length:Int)-t3):Int).toNat)]:Lj)).bind fun t107=>((cipher_Cipher_Dec.f k a0 t107).bind fun t112=>((steal_plus.f k t112.1 a2).bind fun t117=>((slices_Concat_byte_byte.f k ([t117,t91]:Lj)).bind fun t129=>(some t129))))))))))))))))
abbrev steal_begins.R (r:Li) (w:World):Value→World→Prop:=fun v w'=> ∃A0' c0',v= .slice A0' r.length c0'∧Mem w w' (Gs [⟨.slice A0' r.length c0',5,1,nums .u8 r⟩] [])
theorem steal_begins.calls {vp0:Value} {a0:Ci} {a1:Bool} {a2:Li} {a3:Li} {r:Li} (hr2:Rd w (.slice Ap2 np2 cp2) (nums .u8 a2)) (hr3:Rd w (.slice Ap3 np3 cp3) (nums .u8 a3)) (hp0:(rPtr Rs_cipher_Cipher) Zp0 vp0 a0) (hZp0: ∀W,Kept w W→Zp0 W) (h:steal_begins.f k a0 a1 a2 a3=some r):Calls prog 118 #[vp0,.bool a1,(.slice Ap2 np2 cp2),(.slice Ap3 np3 cp3)] w (Ret (steal_begins.R r w)):=by
 obtain rfl:=hr2.ln
 obtain rfl:=hr3.ln
 obtain ⟨gp0,_,rfl,hco1,_,uo1_1,rfl,rfl,ho1_1⟩:=id hp0
 unfold steal_begins.f at h
 refine calls_S func118 ?_
 have hM:=Mem.r0 w
 refine .gq 7 ?_
 obtain ⟨t3,ht3,h⟩:=bs h
 refine .ca (cipher_Cipher_Size.calls hp0 (zp hM hZp0) ht3) ?_
 rintro _ W2 ⟨rfl,hM_⟩
 replace hM:=hM.cg hM_
 refine .gq 11<| .at (show RL 118 f118 (steal_begins.R r w) [1,1,1,0] [(0,.pointer (pa gp0)),(1,.bool a1),(2,.slice Ap2 a2.length cp2),(3,.slice Ap3 a3.length cp3),(9,.i t3),(10,.i (I64 ((a3.length:Int)-t3)))] _ from .dr [] hM fun W4 hM=> ?_)
 refine .pz tr [0,1] ?_
 obtain ⟨c5,h⟩:=ifd h
 obtain ⟨c6,h⟩:=ifd h
 refine .ct tr 2 0 (I64 ((a3.length:Int)-t3)) (hr3.mono hM.below) fun A7 c8 hs9=> .pz tr [3,4] ?_
 obtain ⟨c10,h⟩:=ifd h
 obtain ⟨c11,h⟩:=ifd h
 refine .ct tr 5 (I64 ((a3.length:Int)-t3)) (a3.length:Int) (hr3.mono hM.below) fun A12 c13 hs14=> .pz tr [6,7]<| .dn tr<| .gq 5 ?_
 rcases ift h with ⟨c15,h⟩ | ⟨c15,h⟩
 ·refine .kn 30 c15<| .gq 1<| .at (show RL 118 f118 (steal_begins.R r w) [1,1,1,1,0,1,0] [(0,.pointer (pa gp0)),(2,.slice Ap2 a2.length cp2),(3,.slice Ap3 a3.length cp3),(9,.i t3),(10,.i (I64 ((a3.length:Int)-t3)))] _ from .dr [] hM fun W16 hM=> ?_)
  refine .pz tr [0,1] ?_
  obtain ⟨c17,h⟩:=ifd h
  obtain ⟨c18,h⟩:=ifd h
  refine .ct tr 2 0 t3 (hr3.mono hM.below) fun A19 c20 hs21=> .pz tr [3,4] ?_
  obtain ⟨c22,h⟩:=ifd h
  obtain ⟨c23,h⟩:=ifd h
  refine .ct tr 5 t3 (a3.length:Int) (hr3.mono hM.below) fun A24 c25 hs26=> .pz tr [6,7]<| .dn tr<| .gq 4 ?_
  obtain ⟨t28,ht28,h⟩:=bs h
  refine .ca (cipher_Cipher_Dec.calls (hs21 _ (hr3.mono hM.below)) hp0 (zp hM hZp0) ht28) ?_
  rintro _ W27 ⟨A29,c30,rfl,hM_⟩
  replace hM:=hM.cg hM_
  refine .gq 10 ?_
  obtain ⟨c32,h⟩:=ifd h
  obtain ⟨c33,h⟩:=ifd h
  refine .ct 0 (I64 ((a3.length:Int)-t3)) (hM.or 0) fun A34 c35 hs36=> .gq 1 ?_
  obtain ⟨t38,ht38,h⟩:=bs h
  refine .ca (steal_plus.calls (hs36 _ (hM.or 0)) (hs26 _ (hr3.mono hM.below)) ht38) ?_
  rintro _ W37 ⟨A39,c40,rfl,hM_⟩
  replace hM:=hM.cg hM_
  refine .gq 8 ?_
  obtain ⟨c42,h⟩:=ifd h
  obtain ⟨c43,h⟩:=ifd h
  refine .ct (I64 ((a3.length:Int)-t3)) (t28.1.length:Int) (hM.or 1) fun A44 c45 hs46=> ?_
  obtain ⟨Fq47,hfq47,hM⟩:=hM.fs 1
  have hqq48:Each2 ((rNums .u8) (andZ (Kept w) (Oks Fq47))) [.slice A24 (((a3.take ((a3.length:Int):Int).toNat).drop (t3:Int).toNat).length) c25,.slice A44 (((t28.1.take ((t28.1.length:Int):Int).toNat).drop (I64 ((a3.length:Int)-t3):Int).toNat).length) c45] ([((a3.take ((a3.length:Int):Int).toNat).drop (t3:Int).toNat),((t28.1.take ((t28.1.length:Int):Int).toNat).drop (I64 ((a3.length:Int)-t3):Int).toNat)]:Lj):=(.cons (rno (RdF.up (RdF.of_rd (hs26 _ hr3)) (fun _ z=>z.1)) (ai hM.kept (hM.oks 0))) (.cons (rno (RdF.up (fun _ z=>hs46 _ (hfq47 _ z)) (fun _ z=>z.2)) (ai hM.kept (hM.oks 0))) (Each2.nil _)))
  refine .new 22 1 2 ([.slice A24 (((a3.take ((a3.length:Int):Int).toNat).drop (t3:Int).toNat).length) c25,.slice A44 (((t28.1.take ((t28.1.length:Int):Int).toNat).drop (I64 ((a3.length:Int)-t3):Int).toNat).length) c45]) hM (fun g49 W50 hM=> ?_) rfl
  obtain ⟨Fq52,hfq52,hM⟩:=hM.fs 0
  obtain ⟨t54,ht54,h⟩:=bs h
  refine .ca (slices_Concat_byte_byte.calls ⟨_,_,_,rfl,(hfq52.up (fun _ z=>z.1)),(Each2.up (up_nums .u8) hqq48 (fun _ z=>(ai z.2.1 z.2.2)))⟩ (fun _ z=>(ai ((hM.oks 0).kept z) (ai (hM.kept.trans z) ((hM.oks 1).kept z)))) ht54) ?_
  rintro _ W53 ⟨A55,c56,rfl,hM_⟩
  replace hM:=hM.cg hM_
  obtain ⟨t59,ht59,h⟩:=bs h
  refine .ca (cipher_Cipher_Dec.calls (hM.or 0) hp0 (zp hM hZp0) ht59) ?_
  rintro _ W58 ⟨A60,c61,rfl,hM_⟩
  replace hM:=hM.cg hM_
  refine .gq 10 ?_
  obtain ⟨t64,ht64,h⟩:=bs h
  refine .ca (steal_plus.calls (hM.or 0) (hr2.mono hM.below) ht64) ?_
  rintro _ W63 ⟨A65,c66,rfl,hM_⟩
  replace hM:=hM.cg hM_
  refine .gq 1 ?_
  obtain ⟨Fq68,hfq68,hM⟩:=hM.fs 0
  obtain ⟨Fq69,hfq69,hM⟩:=hM.fs 2
  have hqq70:Each2 ((rNums .u8) (andZ (Oks Fq68) (Oks Fq69))) [.slice A65 t64.length c66,.slice A39 t38.length c40] ([t64,t38]:Lj):=(.cons (rno (RdF.up hfq68 (fun _ z=>z.1)) (ai (hM.oks 1) (hM.oks 0))) (.cons (rno (RdF.up hfq69 (fun _ z=>z.2)) (ai (hM.oks 1) (hM.oks 0))) (Each2.nil _)))
  refine .new 22 1 2 ([.slice A65 t64.length c66,.slice A39 t38.length c40]) hM (fun g71 W72 hM=> ?_) rfl
  obtain ⟨Fq74,hfq74,hM⟩:=hM.fs 0
  obtain ⟨t76,ht76,h⟩:=bs h
  refine .ca (slices_Concat_byte_byte.calls ⟨_,_,_,rfl,(hfq74.up (fun _ z=>z.1)),(Each2.up (up_nums .u8) hqq70 (fun _ z=>(ai z.2.1 z.2.2)))⟩ (fun _ z=>(ai ((hM.oks 0).kept z) (ai ((hM.oks 2).kept z) ((hM.oks 1).kept z)))) ht76) ?_
  rintro _ W75 ⟨A77,c78,rfl,hM_⟩
  replace hM:=hM.cg hM_
  refine .gq 2 ?_
  obtain rfl:=sj h
  exact .ret func118 ⟨A77,c78,rfl,(hM.pm [0] [])⟩
 refine .kn 30 c15<| .gq 6 ?_
 obtain ⟨t81,ht81,h⟩:=bs h
 refine .ca (cipher_Cipher_Dec.calls (hs14 _ (hr3.mono hM.below)) hp0 (zp hM hZp0) ht81) ?_
 rintro _ W80 ⟨A82,c83,rfl,hM_⟩
 replace hM:=hM.cg hM_
 refine .gq 10 ?_
 obtain ⟨c85,h⟩:=ifd h
 obtain ⟨c86,h⟩:=ifd h
 refine .ct 0 (I64 ((a3.length:Int)-t3)) (hM.or 0) fun A87 c88 hs89=> .gq 1 ?_
 obtain ⟨t91,ht91,h⟩:=bs h
 refine .ca (steal_plus.calls (hs89 _ (hM.or 0)) (hs9 _ (hr3.mono hM.below)) ht91) ?_
 rintro _ W90 ⟨A92,c93,rfl,hM_⟩
 replace hM:=hM.cg hM_
 refine .gq 8 ?_
 obtain ⟨c95,h⟩:=ifd h
 obtain ⟨c96,h⟩:=ifd h
 refine .ct (I64 ((a3.length:Int)-t3)) (t81.1.length:Int) (hM.or 1) fun A97 c98 hs99=> ?_
 obtain ⟨Fq100,hfq100,hM⟩:=hM.fs 1
 have hqq101:Each2 ((rNums .u8) (andZ (Kept w) (Oks Fq100))) [.slice A7 (((a3.take (I64 ((a3.length:Int)-t3):Int).toNat).drop (0:Int).toNat).length) c8,.slice A97 (((t81.1.take ((t81.1.length:Int):Int).toNat).drop (I64 ((a3.length:Int)-t3):Int).toNat).length) c98] ([((a3.take (I64 ((a3.length:Int)-t3):Int).toNat).drop (0:Int).toNat),((t81.1.take ((t81.1.length:Int):Int).toNat).drop (I64 ((a3.length:Int)-t3):Int).toNat)]:Lj):=(.cons (rno (RdF.up (RdF.of_rd (hs9 _ hr3)) (fun _ z=>z.1)) (ai hM.kept (hM.oks 0))) (.cons (rno (RdF.up (fun _ z=>hs99 _ (hfq100 _ z)) (fun _ z=>z.2)) (ai hM.kept (hM.oks 0))) (Each2.nil _)))
 refine .new 22 1 2 ([.slice A7 (((a3.take (I64 ((a3.length:Int)-t3):Int).toNat).drop (0:Int).toNat).length) c8,.slice A97 (((t81.1.take ((t81.1.length:Int):Int).toNat).drop (I64 ((a3.length:Int)-t3):Int).toNat).length) c98]) hM (fun g102 W103 hM=> ?_) rfl
 obtain ⟨Fq105,hfq105,hM⟩:=hM.fs 0
 obtain ⟨t107,ht107,h⟩:=bs h
 refine .ca (slices_Concat_byte_byte.calls ⟨_,_,_,rfl,(hfq105.up (fun _ z=>z.1)),(Each2.up (up_nums .u8) hqq101 (fun _ z=>(ai z.2.1 z.2.2)))⟩ (fun _ z=>(ai ((hM.oks 0).kept z) (ai (hM.kept.trans z) ((hM.oks 1).kept z)))) ht107) ?_
 rintro _ W106 ⟨A108,c109,rfl,hM_⟩
 replace hM:=hM.cg hM_
 obtain ⟨t112,ht112,h⟩:=bs h
 refine .ca (cipher_Cipher_Dec.calls (hM.or 0) hp0 (zp hM hZp0) ht112) ?_
 rintro _ W111 ⟨A113,c114,rfl,hM_⟩
 replace hM:=hM.cg hM_
 refine .gq 10 ?_
 obtain ⟨t117,ht117,h⟩:=bs h
 refine .ca (steal_plus.calls (hM.or 0) (hr2.mono hM.below) ht117) ?_
 rintro _ W116 ⟨A118,c119,rfl,hM_⟩
 replace hM:=hM.cg hM_
 refine .gq 1 ?_
 obtain ⟨Fq121,hfq121,hM⟩:=hM.fs 0
 obtain ⟨Fq122,hfq122,hM⟩:=hM.fs 2
 have hqq123:Each2 ((rNums .u8) (andZ (Oks Fq121) (Oks Fq122))) [.slice A118 t117.length c119,.slice A92 t91.length c93] ([t117,t91]:Lj):=(.cons (rno (RdF.up hfq121 (fun _ z=>z.1)) (ai (hM.oks 1) (hM.oks 0))) (.cons (rno (RdF.up hfq122 (fun _ z=>z.2)) (ai (hM.oks 1) (hM.oks 0))) (Each2.nil _)))
 refine .new 22 1 2 ([.slice A118 t117.length c119,.slice A92 t91.length c93]) hM (fun g124 W125 hM=> ?_) rfl
 obtain ⟨Fq127,hfq127,hM⟩:=hM.fs 0
 obtain ⟨t129,ht129,h⟩:=bs h
 refine .ca (slices_Concat_byte_byte.calls ⟨_,_,_,rfl,(hfq127.up (fun _ z=>z.1)),(Each2.up (up_nums .u8) hqq123 (fun _ z=>(ai z.2.1 z.2.2)))⟩ (fun _ z=>(ai ((hM.oks 0).kept z) (ai ((hM.oks 2).kept z) ((hM.oks 1).kept z)))) ht129) ?_
 rintro _ W128 ⟨A130,c131,rfl,hM_⟩
 replace hM:=hM.cg hM_
 refine .gq 2 ?_
 obtain rfl:=sj h
 exact .ret func118 ⟨A130,c131,rfl,(hM.pm [0] [])⟩
def steal_ends.f (k:Nat) (a0:Ci) (a1:Bool) (a2:Li) (a3:Li):Option Li:=(cipher_Cipher_Size.f k a0).bind fun t3=>(gd (0≤t3) (gd (t3≤(a3.length:Int)) ((steal_plus.f k ((a3.take (t3:Int).toNat).drop (0:Int).toNat) a2).bind fun t10=>((cipher_Cipher_Enc.f k a0 t10).bind fun t15=>(gd (0≤t3) (gd (t3≤(a3.length:Int)) ((steal_plus.f k ((a3.take ((a3.length:Int):Int).toNat).drop (t3:Int).toNat) t15.1).bind fun t25=>((cipher_Cipher_Enc.f k a0 t25).bind fun t30=>(gd (0≤(I64 ((a3.length:Int)-t3))) (gd ((I64 ((a3.length:Int)-t3))≤(t15.1.length:Int)) (if a1=true then ((slices_Concat_byte_byte.f k ([t30.1,((t15.1.take (I64 ((a3.length:Int)-t3):Int).toNat).drop (0:Int).toNat)]:Lj)).bind fun t48=>(some t48)) else ((slices_Concat_byte_byte.f k ([((t15.1.take (I64 ((a3.length:Int)-t3):Int).toNat).drop (0:Int).toNat),t30.1]:Lj)).bind fun t60=>(some t60)))))))))))))
theorem steal_ends.calls {vp0:Value} {a0:Ci} {a1:Bool} {a2:Li} {a3:Li} {r:Li} (hr2:Rd w (.slice Ap2 np2 cp2) (nums .u8 a2)) (hr3:Rd w (.slice Ap3 np3 cp3) (nums .u8 a3)) (hp0:(rPtr Rs_cipher_Cipher) Zp0 vp0 a0) (hZp0: ∀W,Kept w W→Zp0 W) (h:steal_ends.f k a0 a1 a2 a3=some r):Calls prog 119 #[vp0,.bool a1,(.slice Ap2 np2 cp2),(.slice Ap3 np3 cp3)] w (Ret fun v w'=> ∃A0' c0',v= .slice A0' r.length c0'∧Mem w w' (Gs [⟨.slice A0' r.length c0',5,1,nums .u8 r⟩] [])):=by
 obtain rfl:=hr2.ln
 obtain rfl:=hr3.ln
 obtain ⟨gp0,_,rfl,hco1,_,uo1_1,rfl,rfl,ho1_1⟩:=id hp0
 unfold steal_ends.f at h
 refine calls_S func119 ?_
 have hM:=Mem.r0 w
 refine .gq 7 ?_
 obtain ⟨t3,ht3,h⟩:=bs h
 refine .ca (cipher_Cipher_Size.calls hp0 (zp hM hZp0) ht3) ?_
 rintro _ W2 ⟨rfl,hM_⟩
 replace hM:=hM.cg hM_
 refine .gq 7 ?_
 obtain ⟨c4,h⟩:=ifd h
 obtain ⟨c5,h⟩:=ifd h
 refine .ct 0 t3 (hr3.mono hM.below) fun A6 c7 hs8=> .gq 1 ?_
 obtain ⟨t10,ht10,h⟩:=bs h
 refine .ca (steal_plus.calls (hs8 _ (hr3.mono hM.below)) (hr2.mono hM.below) ht10) ?_
 rintro _ W9 ⟨A11,c12,rfl,hM_⟩
 replace hM:=hM.cg hM_
 obtain ⟨t15,ht15,h⟩:=bs h
 refine .ca (cipher_Cipher_Enc.calls (hM.or 0) hp0 (zp hM hZp0) ht15) ?_
 rintro _ W14 ⟨A16,c17,rfl,hM_⟩
 replace hM:=hM.cg hM_
 refine .gq 11 ?_
 obtain ⟨c19,h⟩:=ifd h
 obtain ⟨c20,h⟩:=ifd h
 refine .ct t3 (a3.length:Int) (hr3.mono hM.below) fun A21 c22 hs23=> .gq 1 ?_
 obtain ⟨t25,ht25,h⟩:=bs h
 refine .ca (steal_plus.calls (hs23 _ (hr3.mono hM.below)) (hM.or 0) ht25) ?_
 rintro _ W24 ⟨A26,c27,rfl,hM_⟩
 replace hM:=hM.cg hM_
 obtain ⟨t30,ht30,h⟩:=bs h
 refine .ca (cipher_Cipher_Enc.calls (hM.or 0) hp0 (zp hM hZp0) ht30) ?_
 rintro _ W29 ⟨A31,c32,rfl,hM_⟩
 replace hM:=hM.cg hM_
 refine .gq 13 ?_
 obtain ⟨c34,h⟩:=ifd h
 obtain ⟨c35,h⟩:=ifd h
 refine .ct 0 (I64 ((a3.length:Int)-t3)) (hM.or 2) fun A36 c37 hs38=> .gq 7 ?_
 rcases ift h with ⟨c39,h⟩ | ⟨c39,h⟩
 ·refine .kn 42 c39<| .gq 11 ?_
  obtain ⟨Fq40,hfq40,hM⟩:=hM.fs 0
  obtain ⟨Fq41,hfq41,hM⟩:=hM.fs 1
  have hqq42:Each2 ((rNums .u8) (andZ (Oks Fq40) (Oks Fq41))) [.slice A31 t30.1.length c32,.slice A36 (((t15.1.take (I64 ((a3.length:Int)-t3):Int).toNat).drop (0:Int).toNat).length) c37] ([t30.1,((t15.1.take (I64 ((a3.length:Int)-t3):Int).toNat).drop (0:Int).toNat)]:Lj):=(.cons (rno (RdF.up hfq40 (fun _ z=>z.1)) (ai (hM.oks 1) (hM.oks 0))) (.cons (rno (RdF.up (fun _ z=>hs38 _ (hfq41 _ z)) (fun _ z=>z.2)) (ai (hM.oks 1) (hM.oks 0))) (Each2.nil _)))
  refine .new 22 1 2 ([.slice A31 t30.1.length c32,.slice A36 (((t15.1.take (I64 ((a3.length:Int)-t3):Int).toNat).drop (0:Int).toNat).length) c37]) hM (fun g43 W44 hM=> ?_) rfl
  obtain ⟨Fq46,hfq46,hM⟩:=hM.fs 0
  obtain ⟨t48,ht48,h⟩:=bs h
  refine .ca (slices_Concat_byte_byte.calls ⟨_,_,_,rfl,(hfq46.up (fun _ z=>z.1)),(Each2.up (up_nums .u8) hqq42 (fun _ z=>(ai z.2.1 z.2.2)))⟩ (fun _ z=>(ai ((hM.oks 0).kept z) (ai ((hM.oks 2).kept z) ((hM.oks 1).kept z)))) ht48) ?_
  rintro _ W47 ⟨A49,c50,rfl,hM_⟩
  replace hM:=hM.cg hM_
  refine .gq 2 ?_
  obtain rfl:=sj h
  exact .ret func119 ⟨A49,c50,rfl,(hM.pm [0] [])⟩
 refine .kn 42 c39<| .gq 6 ?_
 obtain ⟨Fq52,hfq52,hM⟩:=hM.fs 2
 obtain ⟨Fq53,hfq53,hM⟩:=hM.fs 0
 have hqq54:Each2 ((rNums .u8) (andZ (Oks Fq52) (Oks Fq53))) [.slice A36 (((t15.1.take (I64 ((a3.length:Int)-t3):Int).toNat).drop (0:Int).toNat).length) c37,.slice A31 t30.1.length c32] ([((t15.1.take (I64 ((a3.length:Int)-t3):Int).toNat).drop (0:Int).toNat),t30.1]:Lj):=(.cons (rno (RdF.up (fun _ z=>hs38 _ (hfq52 _ z)) (fun _ z=>z.1)) (ai (hM.oks 1) (hM.oks 0))) (.cons (rno (RdF.up hfq53 (fun _ z=>z.2)) (ai (hM.oks 1) (hM.oks 0))) (Each2.nil _)))
 refine .new 22 1 2 ([.slice A36 (((t15.1.take (I64 ((a3.length:Int)-t3):Int).toNat).drop (0:Int).toNat).length) c37,.slice A31 t30.1.length c32]) hM (fun g55 W56 hM=> ?_) rfl
 obtain ⟨Fq58,hfq58,hM⟩:=hM.fs 0
 obtain ⟨t60,ht60,h⟩:=bs h
 refine .ca (slices_Concat_byte_byte.calls ⟨_,_,_,rfl,(hfq58.up (fun _ z=>z.1)),(Each2.up (up_nums .u8) hqq54 (fun _ z=>(ai z.2.1 z.2.2)))⟩ (fun _ z=>(ai ((hM.oks 0).kept z) (ai ((hM.oks 2).kept z) ((hM.oks 1).kept z)))) ht60) ?_
 rintro _ W59 ⟨A61,c62,rfl,hM_⟩
 replace hM:=hM.cg hM_
 refine .gq 2 ?_
 obtain rfl:=sj h
 exact .ret func119 ⟨A61,c62,rfl,(hM.pm [0] [])⟩
def steal_swapped.f (k:Nat) (a0:Int) (a1:Bool):Option (Bool×Bool):=if (a0==9)=true then (some (true,true)) else (if (a0==7)=true then (some (false,true)) else (if (a0==8)=true then (some (!a1,true)) else (some (false,false))))
theorem steal_swapped.calls {a0:Int} {a1:Bool} {r:Bool×Bool} (h:steal_swapped.f k a0 a1=some r):Calls prog 117 #[.i a0,.bool a1] w (Ret fun v w'=>v= .tuple #[.bool r.1,.bool r.2]∧Mem w w' (Gs [] [])):=by
 unfold steal_swapped.f at h
 refine calls_S func117 ?_
 have hM:=Mem.r0 w
 refine .gq 24 ?_
 rcases ift h with ⟨c1,h⟩ | ⟨c1,h⟩
 ·refine .kn 7 c1<| .gq 13 ?_
  obtain rfl:=sj h
  exact .ret func117 ⟨rfl,(hM.pm [] [])⟩
 refine .kn 7 c1<| .gq 8 ?_
 rcases ift h with ⟨c2,h⟩ | ⟨c2,h⟩
 ·refine .kn 9 c2<| .gq 9 ?_
  obtain rfl:=sj h
  exact .ret func117 ⟨rfl,(hM.pm [] [])⟩
 refine .kn 9 c2<| .gq 7 ?_
 rcases ift h with ⟨c3,h⟩ | ⟨c3,h⟩
 ·refine .kn 11 c3<| .gq 10 ?_
  obtain rfl:=sj h
  exact .ret func117 ⟨rfl,(hM.pm [] [])⟩
 refine .kn 11 c3<| .gq 8 ?_
 obtain rfl:=sj h
 exact .ret func117 ⟨rfl,(hM.pm [] [])⟩
def steal_Tail.l0:Nat→Ci→Bool→Li→Int→(Bool×Bool)→Li→Option (Li×Int)
 | 0,_,_,_,_,_,_=>none
 | k+1,a0,a2,a3,t3,t5,x4_0=>if ((x4_0.length:Int)==t3)=true then (if a2=true then (none) else (none)) else (if ((x4_0.length:Int)==t3)=true then (none) else (if a2=true then ((steal_begins.f k a0 t5.1 a3 x4_0).bind fun t19=>(some (t19,0))) else ((steal_ends.f k a0 t5.1 a3 x4_0).bind fun t24=>(some (t24,0)))))
def steal_Tail.f (k:Nat) (a0:Ci) (a1:Int) (a2:Bool) (a3:Li) (a4:Li):Option (Li×Int):=(cipher_Cipher_Size.f k a0).bind fun t3=>((steal_swapped.f k a1 ((a4.length:Int)==(I64 (2*t3)))).bind fun t5=>(if (!t5.2)=true then (some (([]:Li),3)) else (if ((a3.length:Int) != t3)=true then (some (([]:Li),5)) else (if (decide ((a4.length:Int)<t3))=true then (some (([]:Li),7)) else (if (decide ((a4.length:Int)>(I64 (2*t3))))=true then (some (([]:Li),7)) else (steal_Tail.l0 k a0 a2 a3 t3 t5 a4))))))
abbrev steal_Tail.R (r:Li×Int) (w:World):Value→World→Prop:=fun v w'=> ∃A0' c0',v= .tuple #[.slice A0' r.1.length c0',.i r.2]∧Mem w w' (Gs [⟨.slice A0' r.1.length c0',5,1,nums .u8 r.1⟩] [])
theorem steal_Tail.calls {vp0:Value} {a0:Ci} {a1:Int} {a2:Bool} {a3:Li} {a4:Li} {r:Li×Int} (hr3:Rd w (.slice Ap3 np3 cp3) (nums .u8 a3)) (hr4:Rd w (.slice Ap4 np4 cp4) (nums .u8 a4)) (hp0:(rPtr Rs_cipher_Cipher) Zp0 vp0 a0) (hZp0: ∀W,Kept w W→Zp0 W) (h:steal_Tail.f k a0 a1 a2 a3 a4=some r):Calls prog 68 #[vp0,.i a1,.bool a2,(.slice Ap3 np3 cp3),(.slice Ap4 np4 cp4)] w (Ret (steal_Tail.R r w)):=by
 obtain rfl:=hr3.ln
 obtain rfl:=hr4.ln
 obtain ⟨gp0,_,rfl,hco1,_,uo1_1,rfl,rfl,ho1_1⟩:=id hp0
 unfold steal_Tail.f at h
 refine calls_S func68 ?_
 have hM:=Mem.r0 w
 refine .gq 9 ?_
 obtain ⟨t3,ht3,h⟩:=bs h
 refine .ca (cipher_Cipher_Size.calls hp0 (zp hM hZp0) ht3) ?_
 rintro _ W2 ⟨rfl,hM_⟩
 replace hM:=hM.cg hM_
 refine .gq 10 ?_
 obtain ⟨t5,ht5,h⟩:=bs h
 refine .ca (steal_swapped.calls ht5) ?_
 rintro _ W4 ⟨rfl,hM_⟩
 replace hM:=hM.cg hM_
 refine .gq 14 ?_
 rcases ift h with ⟨c6,h⟩ | ⟨c6,h⟩
 ·refine .kn 29 c6<| .gq 6 ?_
  replace hM:=hM.n1 5
  obtain rfl:=sj h
  exact .ret func68 ⟨none,0,rfl,(hM.pm [0] [])⟩
 refine .kn 29 c6<| .gq 9 ?_
 rcases ift h with ⟨c8,h⟩ | ⟨c8,h⟩
 ·refine .kn 32 c8<| .gq 6 ?_
  replace hM:=hM.n1 5
  obtain rfl:=sj h
  exact .ret func68 ⟨none,0,rfl,(hM.pm [0] [])⟩
 refine .kn 32 c8<| .gq 10 ?_
 rcases ift h with ⟨c10,h⟩ | ⟨c10,h⟩
 ·refine .kn 37 c10<| .gq 8 ?_
  replace hM:=hM.n1 5
  obtain rfl:=sj h
  exact .ret func68 ⟨none,0,rfl,(hM.pm [0] [])⟩
 refine .kn 37 c10<| .gq 9 ?_
 rcases ift h with ⟨c12,h⟩ | ⟨c12,h⟩
 ·refine .kn 37 c12<| .gq 6 ?_
  replace hM:=hM.n1 5
  obtain rfl:=sj h
  exact .ret func68 ⟨none,0,rfl,(hM.pm [0] [])⟩
 refine .kn 37 c12<| .gq 8 ?_
 have l0: ∀k_≤k,∀(A4_0:Option Addr) (c4_0:Nat) (x4_0:Li) {W:World} (hM:Mem w W (Gs [] [])) (hrx4_0:Rd w (.slice A4_0 x4_0.length c4_0) (nums .u8 x4_0)) (h:steal_Tail.l0 k_ a0 a2 a3 t3 t5 x4_0=some r),RL 68 f68 (steal_Tail.R r w) [1,0,1,1,1,1,0,0,0] [(0,.pointer (pa gp0)),(2,.bool a2),(3,.slice Ap3 a3.length cp3),(4,.slice A4_0 x4_0.length c4_0),(12,.i t3),(13,.bool t5.1)] W:=by
  refine loopI (by intros;rename_i h;simp [steal_Tail.l0] at h) fun k hk ih0 A4_0 c4_0 x4_0 W hM hrx4_0 h=> ?_
  simp only [steal_Tail.l0] at h
  refine .gq 8 ?_
  rcases ift h with ⟨c14,h⟩ | ⟨c14,h⟩
  ·refine .kn 50 c14<| .gq 8 ?_
   rcases ift h with ⟨_,h⟩ | ⟨_,h⟩<;>cases h
  refine .kn 50 c14<| .gq 12 ?_
  obtain ⟨c16,h⟩:=ifz h
  refine .kn 77 c16<| .gq 6 ?_
  rcases ift h with ⟨c17,h⟩ | ⟨c17,h⟩
  ·refine .kn 83 c17<| .gq 7 ?_
   obtain ⟨t19,ht19,h⟩:=bs h
   refine .ca (steal_begins.calls (hr3.mono hM.below) (hrx4_0.mono hM.below) hp0 (zp hM hZp0) ht19) ?_
   rintro _ W18 ⟨A20,c21,rfl,hM_⟩
   replace hM:=hM.cg hM_
   refine .gq 3 ?_
   obtain rfl:=sj h
   exact .ret func68 ⟨A20,c21,rfl,(hM.pm [0] [])⟩
  refine .kn 83 c17<| .gq 9 ?_
  obtain ⟨t24,ht24,h⟩:=bs h
  refine .ca (steal_ends.calls (hr3.mono hM.below) (hrx4_0.mono hM.below) hp0 (zp hM hZp0) ht24) ?_
  rintro _ W23 ⟨A25,c26,rfl,hM_⟩
  replace hM:=hM.cg hM_
  refine .gq 3 ?_
  obtain rfl:=sj h
  exact .ret func68 ⟨A25,c26,rfl,(hM.pm [0] [])⟩
 exact .at (l0 k k.le_refl Ap4 cp4 a4 (hM.pm [] []) hr4 h)
end Go.Scr.S

namespace Go.Scr.S
variable {k np0 cp0 np1 cp1 np2 cp2 np3 cp3 np4 cp4:Nat} {Ap0 Ap1 Ap2 Ap3 Ap4:Option Addr} {w w0:World} {FT:List Ent} {Zm Zp0 Zp1 Zp2 Zp3:Zp}
open Go.RowKit (Below)
open Go.Proofs.Tryz (prog f26 func26 f27 func27 f43 func43)
def shot_kind.f (k:Nat) (a0:Int):Option (Int):=if (a0==1)=true then (some 1) else (if (a0==2)=true then (some 1) else (if (a0==3)=true then (some 2) else (if (a0==4)=true then (some 2) else (if (a0==5)=true then (some 2) else (if (a0==6)=true then (some 2) else (if (a0==7)=true then (some 3) else (if (a0==8)=true then (some 3) else (if (a0==9)=true then (some 3) else (some 0)))))))))
theorem shot_kind.calls {a0:Int} {r:Int} (h:shot_kind.f k a0=some r):Calls prog 27 #[.i a0] w (Ret fun v w'=>v= .i r∧Mem w w' (Gs [] [])):=by
 unfold shot_kind.f at h
 refine calls_S func27 ?_
 have hM:=Mem.r0 w
 refine .gq 25 ?_
 rcases ift h with ⟨c1,h⟩ | ⟨c1,h⟩
 ·refine .kn 4 c1<| .gq 9 ?_
  obtain rfl:=sj h
  exact .ret func27 ⟨rfl,(hM.pm [] [])⟩
 refine .kn 4 c1<| .gq 5 ?_
 rcases ift h with ⟨c2,h⟩ | ⟨c2,h⟩
 ·refine .kn 4 c2<| .gq 7 ?_
  obtain rfl:=sj h
  exact .ret func27 ⟨rfl,(hM.pm [] [])⟩
 refine .kn 4 c2<| .gq 8 ?_
 rcases ift h with ⟨c3,h⟩ | ⟨c3,h⟩
 ·refine .kn 7 c3<| .gq 8 ?_
  obtain rfl:=sj h
  exact .ret func27 ⟨rfl,(hM.pm [] [])⟩
 refine .kn 7 c3<| .gq 9 ?_
 rcases ift h with ⟨c4,h⟩ | ⟨c4,h⟩
 ·refine .kn 9 c4<| .gq 9 ?_
  obtain rfl:=sj h
  exact .ret func27 ⟨rfl,(hM.pm [] [])⟩
 refine .kn 9 c4<| .gq 6 ?_
 rcases ift h with ⟨c5,h⟩ | ⟨c5,h⟩
 ·refine .kn 9 c5<| .gq 9 ?_
  obtain rfl:=sj h
  exact .ret func27 ⟨rfl,(hM.pm [] [])⟩
 refine .kn 9 c5<| .gq 5 ?_
 rcases ift h with ⟨c6,h⟩ | ⟨c6,h⟩
 ·refine .kn 9 c6<| .gq 7 ?_
  obtain rfl:=sj h
  exact .ret func27 ⟨rfl,(hM.pm [] [])⟩
 refine .kn 9 c6<| .gq 8 ?_
 rcases ift h with ⟨c7,h⟩ | ⟨c7,h⟩
 ·refine .kn 13 c7<| .gq 9 ?_
  obtain rfl:=sj h
  exact .ret func27 ⟨rfl,(hM.pm [] [])⟩
 refine .kn 13 c7<| .gq 6 ?_
 rcases ift h with ⟨c8,h⟩ | ⟨c8,h⟩
 ·refine .kn 13 c8<| .gq 9 ?_
  obtain rfl:=sj h
  exact .ret func27 ⟨rfl,(hM.pm [] [])⟩
 refine .kn 13 c8<| .gq 5 ?_
 rcases ift h with ⟨c9,h⟩ | ⟨c9,h⟩
 ·refine .kn 13 c9<| .gq 7 ?_
  obtain rfl:=sj h
  exact .ret func27 ⟨rfl,(hM.pm [] [])⟩
 refine .kn 13 c9<| .gq 7 ?_
 obtain rfl:=sj h
 exact .ret func27 ⟨rfl,(hM.pm [] [])⟩
def shot_open.f (k:Nat) (a0:Int×Int×Int×Bool) (a1:Li) (a2:Li):Option (Option Ci×Int):=(cipher_New.f k a0.1 a1).bind fun t5=>(if (t5.2 != 0)=true then (some (none,t5.2)) else ((shot_kind.f k a0.2.1).bind fun t8=>((t5.1).bind fun s9=>((cipher_Cipher_Size.f k s9).bind fun t13=>(if (a0.2.1==1)=true then (if (t8==0)=true then (some (none,3)) else (if (decide (a0.2.2.1<1))=true then (some (none,3)) else (if (decide (a0.2.2.1>4))=true then (some (none,3)) else (if (a0.2.2.1 != 4)=true then (if (t8 != 1)=true then (some (none,3)) else (if ((a2.length:Int) != 0)=true then (some (none,5)) else (some ((some s9),0)))) else (if ((a2.length:Int) != 0)=true then (some (none,5)) else (some ((some s9),0))))))) else (if (t8==0)=true then (some (none,3)) else (if (decide (a0.2.2.1<1))=true then (some (none,3)) else (if (decide (a0.2.2.1>4))=true then (some (none,3)) else (if (a0.2.2.1 != 4)=true then (if (t8 != 1)=true then (some (none,3)) else (if ((a2.length:Int) != t13)=true then (some (none,5)) else (some ((some s9),0)))) else (if ((a2.length:Int) != t13)=true then (some (none,5)) else (some ((some s9),0))))))))))))
theorem shot_open.calls {a0:Int×Int×Int×Bool} {a1:Li} {a2:Li} {r:Option Ci×Int} (hr1:Rd w (.slice Ap1 np1 cp1) (nums .u8 a1)) (hr2:Rd w (.slice Ap2 np2 cp2) (nums .u8 a2)) (hG1:Rg w 1 (nums .u8 [1,2,4,8,16,32,64,128])) (h:shot_open.f k a0 a1 a2=some r):Calls prog 26 #[.agg #[.i a0.1,.i a0.2.1,.i a0.2.2.1,.bool a0.2.2.2],(.slice Ap1 np1 cp1),(.slice Ap2 np2 cp2)] w (Ret fun v w'=> ∃(v0':Value) (F0':List Ent),v= .tuple #[v0',.i r.2]∧(rOpt (rPtr Rs_cipher_Cipher)) (Oks F0') v0' r.1∧Mem w w' (Gs [] [F0'])):=by
 obtain rfl:=hr1.ln
 obtain rfl:=hr2.ln
 unfold shot_open.f at h
 refine calls_S func26 ?_
 have hM:=Mem.r0 w
 refine .gq 2<| .nw 27 ([.i a0.1,.i a0.2.1,.i a0.2.2.1,.bool a0.2.2.2]) hM fun g1 W2 hM=> .gq 6<| .lv hM 0 rfl 0 rfl<| .gq 1 ?_
 obtain ⟨t5,ht5,h⟩:=bs h
 refine .ca (cipher_New.calls (hr1.mono hM.below) (hG1.mono hM.below) ht5) ?_
 rintro _ W4 ⟨vt5_0,Ft5_0,rfl,hRt5_0,hM_⟩
 replace hM:=hM.cg hM_
 refine .gq 12 ?_
 rcases ift h with ⟨c6,h⟩ | ⟨c6,h⟩
 ·refine .kn 20 c6<| .gq 7 ?_
  obtain rfl:=sj h
  exact .ret func26 ⟨.pointer none,([]:List Ent),rfl,(.inl ⟨rfl,rfl⟩),(hM.pm [] [[]])⟩
 refine .kn 20 c6<| .gq 5<| .lv hM 0 rfl 1 rfl ?_
 obtain ⟨t8,ht8,h⟩:=bs h
 refine .ca (shot_kind.calls ht8) ?_
 rintro _ W7 ⟨rfl,hM_⟩
 replace hM:=hM.cg hM_
 refine .gq 1 ?_
 obtain ⟨s9,hx_,h⟩:=bs h
 have hps9:=rOpt.some hRt5_0 hx_
 obtain ⟨g10,_,rfl,hco11,_,uo11_1,rfl,rfl,ho11_1⟩:=id hps9
 obtain ⟨t13,ht13,h⟩:=bs h
 refine .ca (cipher_Cipher_Size.calls hps9 (fun _ z=>((hM.oks 0).kept z)) ht13) ?_
 rintro _ W12 ⟨rfl,hM_⟩
 replace hM:=hM.cg hM_
 refine .gq 7<| .lv hM 0 rfl 1 rfl<| .gq 2 ?_
 rcases ift h with ⟨c14,h⟩ | ⟨c14,h⟩
 ·refine .kn 29 c14<| .gq 13 ?_
  rcases ift h with ⟨c15,h⟩ | ⟨c15,h⟩
  ·refine .kn 30 c15<| .gq 8 ?_
   obtain rfl:=sj h
   exact .ret func26 ⟨.pointer none,([]:List Ent),rfl,(.inl ⟨rfl,rfl⟩),(hM.pm [] [[]])⟩
  refine .kn 30 c15<| .gq 4<| .lv hM 0 rfl 2 rfl<| .gq 3 ?_
  rcases ift h with ⟨c16,h⟩ | ⟨c16,h⟩
  ·refine .kn 30 c16<| .gq 8 ?_
   obtain rfl:=sj h
   exact .ret func26 ⟨.pointer none,([]:List Ent),rfl,(.inl ⟨rfl,rfl⟩),(hM.pm [] [[]])⟩
  refine .kn 30 c16<| .gq 4<| .lv hM 0 rfl 2 rfl<| .gq 3 ?_
  rcases ift h with ⟨c17,h⟩ | ⟨c17,h⟩
  ·refine .kn 30 c17<| .gq 8 ?_
   obtain rfl:=sj h
   exact .ret func26 ⟨.pointer none,([]:List Ent),rfl,(.inl ⟨rfl,rfl⟩),(hM.pm [] [[]])⟩
  refine .kn 30 c17<| .gq 3<| .lv hM 0 rfl 2 rfl<| .gq 2 ?_
  rcases ift h with ⟨c18,h⟩ | ⟨c18,h⟩
  ·refine .kn 42 c18<| .gq 5 ?_
   rcases ift h with ⟨c19,h⟩ | ⟨c19,h⟩
   ·refine .kn 30 c19<| .gq 6 ?_
    obtain rfl:=sj h
    exact .ret func26 ⟨.pointer none,([]:List Ent),rfl,(.inl ⟨rfl,rfl⟩),(hM.pm [] [[]])⟩
   refine .kn 30 c19<| .gq 9 ?_
   rcases ift h with ⟨c20,h⟩ | ⟨c20,h⟩
   ·refine .kn 46 c20<| .gq 6 ?_
    obtain rfl:=sj h
    exact .ret func26 ⟨.pointer none,([]:List Ent),rfl,(.inl ⟨rfl,rfl⟩),(hM.pm [] [[]])⟩
   refine .kn 46 c20<| .gq 9 ?_
   obtain rfl:=sj h
   exact .ret func26 ⟨.pointer (pa g10),Ft5_0,rfl,(.inr ⟨s9,rfl,hps9⟩),(hM.pm [] [[0]])⟩
  refine .kn 42 c18<| .gq 14 ?_
  rcases ift h with ⟨c21,h⟩ | ⟨c21,h⟩
  ·refine .kn 46 c21<| .gq 6 ?_
   obtain rfl:=sj h
   exact .ret func26 ⟨.pointer none,([]:List Ent),rfl,(.inl ⟨rfl,rfl⟩),(hM.pm [] [[]])⟩
  refine .kn 46 c21<| .gq 9 ?_
  obtain rfl:=sj h
  exact .ret func26 ⟨.pointer (pa g10),Ft5_0,rfl,(.inr ⟨s9,rfl,hps9⟩),(hM.pm [] [[0]])⟩
 refine .kn 29 c14<| .gq 11 ?_
 rcases ift h with ⟨c22,h⟩ | ⟨c22,h⟩
 ·refine .kn 30 c22<| .gq 8 ?_
  obtain rfl:=sj h
  exact .ret func26 ⟨.pointer none,([]:List Ent),rfl,(.inl ⟨rfl,rfl⟩),(hM.pm [] [[]])⟩
 refine .kn 30 c22<| .gq 4<| .lv hM 0 rfl 2 rfl<| .gq 3 ?_
 rcases ift h with ⟨c23,h⟩ | ⟨c23,h⟩
 ·refine .kn 30 c23<| .gq 8 ?_
  obtain rfl:=sj h
  exact .ret func26 ⟨.pointer none,([]:List Ent),rfl,(.inl ⟨rfl,rfl⟩),(hM.pm [] [[]])⟩
 refine .kn 30 c23<| .gq 4<| .lv hM 0 rfl 2 rfl<| .gq 3 ?_
 rcases ift h with ⟨c24,h⟩ | ⟨c24,h⟩
 ·refine .kn 30 c24<| .gq 8 ?_
  obtain rfl:=sj h
  exact .ret func26 ⟨.pointer none,([]:List Ent),rfl,(.inl ⟨rfl,rfl⟩),(hM.pm [] [[]])⟩
 refine .kn 30 c24<| .gq 3<| .lv hM 0 rfl 2 rfl<| .gq 2 ?_
 rcases ift h with ⟨c25,h⟩ | ⟨c25,h⟩
 ·refine .kn 42 c25<| .gq 5 ?_
  rcases ift h with ⟨c26,h⟩ | ⟨c26,h⟩
  ·refine .kn 30 c26<| .gq 6 ?_
   obtain rfl:=sj h
   exact .ret func26 ⟨.pointer none,([]:List Ent),rfl,(.inl ⟨rfl,rfl⟩),(hM.pm [] [[]])⟩
  refine .kn 30 c26<| .gq 9 ?_
  rcases ift h with ⟨c27,h⟩ | ⟨c27,h⟩
  ·refine .kn 46 c27<| .gq 6 ?_
   obtain rfl:=sj h
   exact .ret func26 ⟨.pointer none,([]:List Ent),rfl,(.inl ⟨rfl,rfl⟩),(hM.pm [] [[]])⟩
  refine .kn 46 c27<| .gq 9 ?_
  obtain rfl:=sj h
  exact .ret func26 ⟨.pointer (pa g10),Ft5_0,rfl,(.inr ⟨s9,rfl,hps9⟩),(hM.pm [] [[0]])⟩
 refine .kn 42 c25<| .gq 14 ?_
 rcases ift h with ⟨c28,h⟩ | ⟨c28,h⟩
 ·refine .kn 46 c28<| .gq 6 ?_
  obtain rfl:=sj h
  exact .ret func26 ⟨.pointer none,([]:List Ent),rfl,(.inl ⟨rfl,rfl⟩),(hM.pm [] [[]])⟩
 refine .kn 46 c28<| .gq 9 ?_
 obtain rfl:=sj h
 exact .ret func26 ⟨.pointer (pa g10),Ft5_0,rfl,(.inr ⟨s9,rfl,hps9⟩),(hM.pm [] [[0]])⟩
def shot_Check.f (k:Nat) (a0:Int×Int×Int×Bool) (a1:Li) (a2:Li):Option (Int):=(shot_open.f k (a0.1,a0.2.1,a0.2.2.1,a0.2.2.2) a1 a2).bind fun t5=>(some t5.2)
theorem shot_Check.calls {a0:Int×Int×Int×Bool} {a1:Li} {a2:Li} {r:Int} (hr1:Rd w (.slice Ap1 np1 cp1) (nums .u8 a1)) (hr2:Rd w (.slice Ap2 np2 cp2) (nums .u8 a2)) (hG1:Rg w 1 (nums .u8 [1,2,4,8,16,32,64,128])) (h:shot_Check.f k a0 a1 a2=some r):Calls prog 43 #[.agg #[.i a0.1,.i a0.2.1,.i a0.2.2.1,.bool a0.2.2.2],(.slice Ap1 np1 cp1),(.slice Ap2 np2 cp2)] w (Ret fun v w'=>v= .i r∧Mem w w' (Gs [] [])):=by
 obtain rfl:=hr1.ln
 obtain rfl:=hr2.ln
 unfold shot_Check.f at h
 refine calls_S func43 ?_
 have hM:=Mem.r0 w
 refine .gq 2<| .nw 27 ([.i a0.1,.i a0.2.1,.i a0.2.2.1,.bool a0.2.2.2]) hM fun g1 W2 hM=> .gq 4<| .y (yl_ldp (g:=g1) (off:=0) 4 [.i a0.1,.i a0.2.1,.i a0.2.2.1,.bool a0.2.2.2] rfl) (fun i_ u_ hu_=>match i_,hu_ with | 0,h_=>(hM.var_at 0 rfl (i:=0) (u:=u_) h_).1 | 1,h_=>(hM.var_at 0 rfl (i:=1) (u:=u_) h_).1 | 2,h_=>(hM.var_at 0 rfl (i:=2) (u:=u_) h_).1 | 3,h_=>(hM.var_at 0 rfl (i:=3) (u:=u_) h_).1 | _+4,h_=>by cases h_)<| .gq 2 ?_
 obtain ⟨t5,ht5,h⟩:=bs h
 refine .ca (shot_open.calls (hr1.mono hM.below) (hr2.mono hM.below) (hG1.mono hM.below) ht5) ?_
 rintro _ W4 ⟨vt5_0,Ft5_0,rfl,hRt5_0,hM_⟩
 replace hM:=hM.cg hM_
 refine .gq 11 ?_
 obtain rfl:=sj h
 exact .ret func43 ⟨rfl,(hM.pm [] [])⟩
end Go.Scr.S

namespace Go.Scr.S
variable {k np0 cp0 np1 cp1 np2 cp2 np3 cp3 np4 cp4:Nat} {Ap0 Ap1 Ap2 Ap3 Ap4:Option Addr} {w w0:World} {FT:List Ent} {Zm Zp0 Zp1 Zp2 Zp3:Zp}
open Go.RowKit (Below)
open Go.Proofs.Tryz (prog f74 func74)
def Rs_modes_Mode (Z:Zp) (cs:List Value) (x:Mo):Prop:= ∃(u0:Value) (u1:Value) (u2:Value) (u3:Value) (u4:Value) (u5:Value),cs=[u0,u1,u2,u3,u4,u5]∧(rOpt (rPtr Rs_cipher_Cipher)) Z u0 x.1∧(rInt .i64) Z u1 x.2.1∧rBool Z u2 x.2.2.1∧(rNums .u8) Z u3 x.2.2.2.1∧(rNums .u8) Z u4 x.2.2.2.2.1∧(rNums .u8) Z u5 x.2.2.2.2.2
theorem up_Rs_modes_Mode (Z Y:Zp) (cs:List Value) (x:Mo) (hs: ∀W,Y W→Z W):Rs_modes_Mode Z cs x→Rs_modes_Mode Y cs x:=fun ⟨u0,u1,u2,u3,u4,u5,e,h0,h1,h2,h3,h4,h5⟩=>⟨u0,u1,u2,u3,u4,u5,e,upc _ _ _ _ hs h0,(up_int .i64) _ _ _ _ hs h1,up_bool _ _ _ _ hs h2,upn hs h3,upn hs h4,upn hs h5⟩
def modes_Mode_block.f (k:Nat) (a0:Mo) (a1:Li):Option (Li×Mo):=if (a0.2.1==1)=true then (if a0.2.2.1=true then ((a0.1).bind fun s5=>((cipher_Cipher_Dec.f k s5 a1).bind fun t9=>(some (t9.1,((some s5),a0.2.1,a0.2.2.1,a0.2.2.2.1,a0.2.2.2.2.1,a0.2.2.2.2.2))))) else (if (a0.2.1==1)=true then ((a0.1).bind fun s14=>((cipher_Cipher_Enc.f k s14 a1).bind fun t18=>(some (t18.1,((some s14),a0.2.1,a0.2.2.1,a0.2.2.2.1,a0.2.2.2.2.1,a0.2.2.2.2.2))))) else (if a0.2.2.1=true then ((a0.1).bind fun s23=>((cipher_Cipher_Dec.f k s23 a1).bind fun t27=>(none))) else (none)))) else (if (a0.2.1==1)=true then ((a0.1).bind fun s32=>((cipher_Cipher_Enc.f k s32 a1).bind fun t36=>(some (t36.1,((some s32),a0.2.1,a0.2.2.1,a0.2.2.2.1,a0.2.2.2.2.1,a0.2.2.2.2.2))))) else (if a0.2.2.1=true then ((a0.1).bind fun s41=>((cipher_Cipher_Dec.f k s41 a1).bind fun t45=>(none))) else (none)))
theorem modes_Mode_block.calls {gp0:Nat} {csp0:List Value} {a0:Mo} {a1:Li} {r:Li×Mo} (hp0:Rs_modes_Mode Zm csp0 a0) (hZm: ∀W,Kept w0 W→Oks FT W→Zm W) (hM0:Mem w0 w (Gs [⟨.pointer (pa gp0),100,0,csp0⟩] [FT])) (hr1:RdF Zp1 (.slice Ap1 np1 cp1) (nums .u8 a1)) (hZp1: ∀W,Kept w0 W→Oks FT W→Zp1 W) (h:modes_Mode_block.f k a0 a1=some r):Calls prog 74 #[.pointer (pa gp0),(.slice Ap1 np1 cp1)] w (Ret fun v w'=> ∃A0' c0',∃(cs':List Value) (F':List Ent),v= .slice A0' r.1.length c0'∧Rs_modes_Mode (andZ (Oks F') Zm) cs' r.2∧Mem w0 w' (Gs [⟨.slice A0' r.1.length c0',5,1,nums .u8 r.1⟩,⟨.pointer (pa gp0),100,0,cs'⟩] [F',FT])):=by
 obtain rfl:=(hr1 _ (hZp1 _ hM0.kept (hM0.oks 0))).ln
 obtain ⟨uo2_0,_,_,_,_,_,rfl,ho2_0,rfl,rfl,⟨Ao2_3,co2_3,rfl,ho2_3⟩,⟨Ao2_4,co2_4,rfl,ho2_4⟩,⟨Ao2_5,co2_5,rfl,ho2_5⟩⟩:=hp0
 unfold modes_Mode_block.f at h
 refine calls_S func74 ?_
 have hM:=hM0
 refine .gq 15<| .lv hM 0 rfl 1 rfl<| .gq 2 ?_
 rcases ift h with ⟨c3,h⟩ | ⟨c3,h⟩
 ·refine .kn 35 c3<| .gq 3<| .lv hM 0 rfl 2 rfl<| .gq 3 ?_
  rcases ift h with ⟨c4,h⟩ | ⟨c4,h⟩
  ·refine .kn 29 c4<| .gq 5<| .lv hM 0 rfl 0 rfl<| .gq 1 ?_
   obtain ⟨s5,hx_,h⟩:=bs h
   have hps5:=rOpt.some ho2_0 hx_
   obtain ⟨g6,_,rfl,hco7,_,uo7_1,rfl,rfl,ho7_1⟩:=id hps5
   obtain ⟨t9,ht9,h⟩:=bs h
   refine .ca (cipher_Cipher_Dec.calls (hr1 _ (zl hM hZp1 0)) hps5 (zk hM hZm 0) ht9) ?_
   rintro _ W8 ⟨A10,c11,rfl,hM_⟩
   replace hM:=hM.cg hM_
   refine .gq 11 ?_
   obtain rfl:=sj h
   exact .ret func74 ⟨A10,c11,[.pointer (pa g6),.i a0.2.1,.bool a0.2.2.1,.slice Ao2_3 a0.2.2.2.1.length co2_3,.slice Ao2_4 a0.2.2.2.2.1.length co2_4,.slice Ao2_5 a0.2.2.2.2.2.length co2_5],([]:List Ent),rfl,⟨_,_,_,_,_,_,rfl,(upc _ _ _ _ (fun _ z=>z.2) (.inr ⟨s5,rfl,hps5⟩)),rfl,rfl,(upn (fun _ z=>z.2) (rno ho2_3 (zl hM hZm 0))),(upn (fun _ z=>z.2) (rno ho2_4 (zl hM hZm 0))),(upn (fun _ z=>z.2) (rno ho2_5 (zl hM hZm 0)))⟩,(hM.pm [0,1] [[],[0]])⟩
  refine .kn 29 c4<| .gq 6<| .lv hM 0 rfl 1 rfl<| .gq 3 ?_
  rcases ift h with ⟨c13,h⟩ | ⟨c13,h⟩
  ·refine .kn 50 c13<| .gq 5<| .lv hM 0 rfl 0 rfl<| .gq 1 ?_
   obtain ⟨s14,hx_,h⟩:=bs h
   have hps14:=rOpt.some ho2_0 hx_
   obtain ⟨g15,_,rfl,hco16,_,uo16_1,rfl,rfl,ho16_1⟩:=id hps14
   obtain ⟨t18,ht18,h⟩:=bs h
   refine .ca (cipher_Cipher_Enc.calls (hr1 _ (zl hM hZp1 0)) hps14 (zk hM hZm 0) ht18) ?_
   rintro _ W17 ⟨A19,c20,rfl,hM_⟩
   replace hM:=hM.cg hM_
   refine .gq 11 ?_
   obtain rfl:=sj h
   exact .ret func74 ⟨A19,c20,[.pointer (pa g15),.i a0.2.1,.bool a0.2.2.1,.slice Ao2_3 a0.2.2.2.1.length co2_3,.slice Ao2_4 a0.2.2.2.2.1.length co2_4,.slice Ao2_5 a0.2.2.2.2.2.length co2_5],([]:List Ent),rfl,⟨_,_,_,_,_,_,rfl,(upc _ _ _ _ (fun _ z=>z.2) (.inr ⟨s14,rfl,hps14⟩)),rfl,rfl,(upn (fun _ z=>z.2) (rno ho2_3 (zl hM hZm 0))),(upn (fun _ z=>z.2) (rno ho2_4 (zl hM hZm 0))),(upn (fun _ z=>z.2) (rno ho2_5 (zl hM hZm 0)))⟩,(hM.pm [0,1] [[],[0]])⟩
  refine .kn 50 c13<| .gq 6<| .lv hM 0 rfl 2 rfl<| .gq 2 ?_
  obtain ⟨c22,h⟩:=ifs h
  refine .kn 65 c22<| .gq 6<| .lv hM 0 rfl 0 rfl<| .gq 1 ?_
  obtain ⟨s23,hx_,h⟩:=bs h
  have hps23:=rOpt.some ho2_0 hx_
  obtain ⟨g24,_,rfl,hco25,_,uo25_1,rfl,rfl,ho25_1⟩:=id hps23
  obtain ⟨t27,ht27,h⟩:=bs h
  refine .ca (cipher_Cipher_Dec.calls (hr1 _ (zl hM hZp1 0)) hps23 (zk hM hZm 0) ht27) ?_
  rintro _ W26 ⟨A28,c29,rfl,hM_⟩
  replace hM:=hM.cg hM_
  refine .gq 11<| .lv hM 1 rfl 3 rfl ?_
  cases h
 refine .kn 35 c3<| .gq 13<| .lv hM 0 rfl 1 rfl<| .gq 3 ?_
 rcases ift h with ⟨c31,h⟩ | ⟨c31,h⟩
 ·refine .kn 50 c31<| .gq 5<| .lv hM 0 rfl 0 rfl<| .gq 1 ?_
  obtain ⟨s32,hx_,h⟩:=bs h
  have hps32:=rOpt.some ho2_0 hx_
  obtain ⟨g33,_,rfl,hco34,_,uo34_1,rfl,rfl,ho34_1⟩:=id hps32
  obtain ⟨t36,ht36,h⟩:=bs h
  refine .ca (cipher_Cipher_Enc.calls (hr1 _ (zl hM hZp1 0)) hps32 (zk hM hZm 0) ht36) ?_
  rintro _ W35 ⟨A37,c38,rfl,hM_⟩
  replace hM:=hM.cg hM_
  refine .gq 11 ?_
  obtain rfl:=sj h
  exact .ret func74 ⟨A37,c38,[.pointer (pa g33),.i a0.2.1,.bool a0.2.2.1,.slice Ao2_3 a0.2.2.2.1.length co2_3,.slice Ao2_4 a0.2.2.2.2.1.length co2_4,.slice Ao2_5 a0.2.2.2.2.2.length co2_5],([]:List Ent),rfl,⟨_,_,_,_,_,_,rfl,(upc _ _ _ _ (fun _ z=>z.2) (.inr ⟨s32,rfl,hps32⟩)),rfl,rfl,(upn (fun _ z=>z.2) (rno ho2_3 (zl hM hZm 0))),(upn (fun _ z=>z.2) (rno ho2_4 (zl hM hZm 0))),(upn (fun _ z=>z.2) (rno ho2_5 (zl hM hZm 0)))⟩,(hM.pm [0,1] [[],[0]])⟩
 refine .kn 50 c31<| .gq 6<| .lv hM 0 rfl 2 rfl<| .gq 2 ?_
 obtain ⟨c40,h⟩:=ifs h
 refine .kn 65 c40<| .gq 6<| .lv hM 0 rfl 0 rfl<| .gq 1 ?_
 obtain ⟨s41,hx_,h⟩:=bs h
 have hps41:=rOpt.some ho2_0 hx_
 obtain ⟨g42,_,rfl,hco43,_,uo43_1,rfl,rfl,ho43_1⟩:=id hps41
 obtain ⟨t45,ht45,h⟩:=bs h
 refine .ca (cipher_Cipher_Dec.calls (hr1 _ (zl hM hZp1 0)) hps41 (zk hM hZm 0) ht45) ?_
 rintro _ W44 ⟨A46,c47,rfl,hM_⟩
 replace hM:=hM.cg hM_
 refine .gq 11<| .lv hM 1 rfl 3 rfl ?_
 cases h
end Go.Scr.S

namespace Go.Scr.S
variable {k np0 cp0 np1 cp1 np2 cp2 np3 cp3 np4 cp4:Nat} {Ap0 Ap1 Ap2 Ap3 Ap4:Option Addr} {w w0:World} {FT:List Ent} {Zm Zp0 Zp1 Zp2 Zp3:Zp}
open Go.RowKit (Below)
open Go.Proofs.Tryz (prog f33 func33 f50 func50)
def modes_Mode_Grain.f (k:Nat) (a0:Mo):Option (Int):=if (a0.2.1==1)=true then ((a0.1).bind fun s3=>((cipher_Cipher_Size.f k s3).bind fun t7=>(some t7))) else (if (a0.2.1==2)=true then ((a0.1).bind fun s9=>((cipher_Cipher_Size.f k s9).bind fun t13=>(some t13))) else (some 1))
theorem modes_Mode_Grain.calls {vp0:Value} {a0:Mo} {r:Int} (hp0:(rPtr Rs_modes_Mode) Zp0 vp0 a0) (hZp0: ∀W,Kept w W→Zp0 W) (h:modes_Mode_Grain.f k a0=some r):Calls prog 50 #[vp0] w (Ret fun v w'=>v= .i r∧Mem w w' (Gs [] [])):=by
 obtain ⟨gp0,_,rfl,hco1,uo1_0,_,_,_,_,_,rfl,ho1_0,rfl,rfl,⟨Ao1_3,co1_3,rfl,ho1_3⟩,⟨Ao1_4,co1_4,rfl,ho1_4⟩,⟨Ao1_5,co1_5,rfl,ho1_5⟩⟩:=id hp0
 unfold modes_Mode_Grain.f at h
 refine calls_S func50 ?_
 have hM:=Mem.r0 w
 refine .gq 10<| .ld (hco1 _ (hZp0 _ hM.kept) 1 _ rfl)<| .gq 12 ?_
 rcases ift h with ⟨c2,h⟩ | ⟨c2,h⟩
 ·refine .kn 7 c2<| .gq 9<| .ld (hco1 _ (hZp0 _ hM.kept) 0 _ rfl) ?_
  obtain ⟨s3,hx_,h⟩:=bs h
  have hps3:=rOpt.some ho1_0 hx_
  obtain ⟨g4,_,rfl,hco5,_,uo5_1,rfl,rfl,ho5_1⟩:=id hps3
  obtain ⟨t7,ht7,h⟩:=bs h
  refine .ca (cipher_Cipher_Size.calls hps3 (zp hM hZp0) ht7) ?_
  rintro _ W6 ⟨rfl,hM_⟩
  replace hM:=hM.cg hM_
  refine .gq 2 ?_
  obtain rfl:=sj h
  exact .ret func50 ⟨rfl,(hM.pm [] [])⟩
 refine .kn 7 c2<| .gq 7 ?_
 rcases ift h with ⟨c8,h⟩ | ⟨c8,h⟩
 ·refine .kn 9 c8<| .gq 8<| .ld (hco1 _ (hZp0 _ hM.kept) 0 _ rfl) ?_
  obtain ⟨s9,hx_,h⟩:=bs h
  have hps9:=rOpt.some ho1_0 hx_
  obtain ⟨g10,_,rfl,hco11,_,uo11_1,rfl,rfl,ho11_1⟩:=id hps9
  obtain ⟨t13,ht13,h⟩:=bs h
  refine .ca (cipher_Cipher_Size.calls hps9 (zp hM hZp0) ht13) ?_
  rintro _ W12 ⟨rfl,hM_⟩
  replace hM:=hM.cg hM_
  refine .gq 2 ?_
  obtain rfl:=sj h
  exact .ret func50 ⟨rfl,(hM.pm [] [])⟩
 refine .kn 9 c8<| .gq 7 ?_
 obtain rfl:=sj h
 exact .ret func50 ⟨rfl,(hM.pm [] [])⟩
def modes_Mode_Step.l0:Nat→Int→Mo→Li→Li→Option (Li×Int×Mo)
 | 0,_,_,_,_=>none
 | k+1,t4,x0_0,x1_0,x7_0=>if ((x1_0.length:Int)==0)=true then (some (x7_0,0,(x0_0.1,x0_0.2.1,x0_0.2.2.1,x0_0.2.2.2.1,x0_0.2.2.2.2.1,x0_0.2.2.2.2.2))) else (if (t4==1)=true then (gd (0<(x1_0.length:Int)) (none)) else (gd (0≤t4) (gd (t4≤(x1_0.length:Int)) ((modes_Mode_block.f k (x0_0.1,x0_0.2.1,x0_0.2.2.1,x0_0.2.2.2.1,x0_0.2.2.2.2.1,x0_0.2.2.2.2.2) ((x1_0.take (t4:Int).toNat).drop (0:Int).toNat)).bind fun t25=>(gd (x7_0.length+t25.1.length≤1000000000) (gd (0≤t4) (gd (t4≤(x1_0.length:Int)) (modes_Mode_Step.l0 k t4 (t25.2.1,t25.2.2.1,t25.2.2.2.1,t25.2.2.2.2.1,t25.2.2.2.2.2.1,t25.2.2.2.2.2.2) ((x1_0.take ((x1_0.length:Int):Int).toNat).drop (t4:Int).toNat) (x7_0++t25.1)))))))))
def modes_Mode_Step.f (k:Nat) (a0:Mo) (a1:Li):Option (Li×Int×Mo):=(modes_Mode_Grain.f k (a0.1,a0.2.1,a0.2.2.1,a0.2.2.2.1,a0.2.2.2.2.1,a0.2.2.2.2.2)).bind fun t4=>(if (decide (t4=0))=true then (none) else (if (decide ((Int.tmod (a1.length:Int) t4)>0))=true then (some (([]:Li),7,(a0.1,a0.2.1,a0.2.2.1,a0.2.2.2.1,a0.2.2.2.2.1,a0.2.2.2.2.2))) else (gd (0≤(a1.length:Int)) (gd ((a1.length:Int)≤1000000000) (modes_Mode_Step.l0 k t4 (a0.1,a0.2.1,a0.2.2.1,a0.2.2.2.1,a0.2.2.2.2.1,a0.2.2.2.2.2) a1 (List.replicate 0 (0:Int)))))))
abbrev modes_Mode_Step.R (gp0:Nat) (r:Li×Int×Mo) (w0:World) (FT:List Ent) (Zm:Zp):Value→World→Prop:=fun v w'=> ∃A0' c0',∃(cs':List Value) (F':List Ent),v= .tuple #[.slice A0' r.1.length c0',.i r.2.1]∧Rs_modes_Mode (andZ (Oks F') Zm) cs' r.2.2∧Mem w0 w' (Gs [⟨.slice A0' r.1.length c0',5,1,nums .u8 r.1⟩,⟨.pointer (pa gp0),100,0,cs'⟩] [F',FT])
theorem modes_Mode_Step.calls {gp0:Nat} {csp0:List Value} {a0:Mo} {a1:Li} {r:Li×Int×Mo} (hp0:Rs_modes_Mode Zm csp0 a0) (hZm: ∀W,Kept w0 W→Oks FT W→Zm W) (hM0:Mem w0 w (Gs [⟨.pointer (pa gp0),100,0,csp0⟩] [FT])) (hr1:RdF Zp1 (.slice Ap1 np1 cp1) (nums .u8 a1)) (hZp1: ∀W,Kept w0 W→Oks FT W→Zp1 W) (h:modes_Mode_Step.f k a0 a1=some r):Calls prog 33 #[.pointer (pa gp0),(.slice Ap1 np1 cp1)] w (Ret (modes_Mode_Step.R gp0 r w0 FT Zm)):=by
 obtain rfl:=(hr1 _ (hZp1 _ hM0.kept (hM0.oks 0))).ln
 obtain ⟨uo2_0,_,_,_,_,_,rfl,ho2_0,rfl,rfl,⟨Ao2_3,co2_3,rfl,ho2_3⟩,⟨Ao2_4,co2_4,rfl,ho2_4⟩,⟨Ao2_5,co2_5,rfl,ho2_5⟩⟩:=hp0
 unfold modes_Mode_Step.f at h
 refine calls_S func33 ?_
 have hM:=hM0
 refine .gq 9 ?_
 obtain ⟨t4,ht4,h⟩:=bs h
 refine .ca (modes_Mode_Grain.calls (Zp0:=Kept w) (a0:=(a0.1,a0.2.1,a0.2.2.1,a0.2.2.2.1,a0.2.2.2.2.1,a0.2.2.2.2.2)) ⟨gp0,_,rfl,(hM.cellsKept 0 rfl),_,_,_,_,_,_,rfl,(upc _ _ _ _ (zk hM hZm 0) ho2_0),rfl,rfl,(upn (zk hM hZm 0) (rno ho2_3 (zl hM hZm 0))),(upn (zk hM hZm 0) (rno ho2_4 (zl hM hZm 0))),(upn (zk hM hZm 0) (rno ho2_5 (zl hM hZm 0)))⟩ (fun _ h_=>h_) ht4) ?_
 rintro _ W3 ⟨rfl,hM_⟩
 replace hM:=hM.cg hM_
 refine .gq 8 ?_
 obtain ⟨c5,h⟩:=ifn h
 refine .yt (yl_rem (kd:= .i64) (a1.length:Int) c5)<| .gq 2 ?_
 rcases ift h with ⟨c6,h⟩ | ⟨c6,h⟩
 ·refine .kn 14 c6<| .gq 6 ?_
  replace hM:=hM.n1 5
  obtain rfl:=sj h
  exact .ret func33 ⟨none,0,[uo2_0,.i a0.2.1,.bool a0.2.2.1,.slice Ao2_3 a0.2.2.2.1.length co2_3,.slice Ao2_4 a0.2.2.2.2.1.length co2_4,.slice Ao2_5 a0.2.2.2.2.2.length co2_5],([]:List Ent),rfl,⟨_,_,_,_,_,_,rfl,(upc _ _ _ _ (fun _ z=>z.2) ho2_0),rfl,rfl,(upn (fun _ z=>z.2) (rno ho2_3 (zl hM hZm 0))),(upn (fun _ z=>z.2) (rno ho2_4 (zl hM hZm 0))),(upn (fun _ z=>z.2) (rno ho2_5 (zl hM hZm 0)))⟩,(hM.pm [0,1] [[],[0]])⟩
 refine .kn 14 c6<| .gq 6 ?_
 obtain ⟨c10,h⟩:=ifd h
 obtain ⟨c11,h⟩:=ifd h
 refine .mn 5 .u8 0 (a1.length:Int) hM fun g9 W8 hM=> .gq 4 ?_
 have l0: ∀k_≤k,∀(cs0_0:List Value) (x0_0:Mo) (F0_0:List Ent) (A1_0:Option Addr) (c1_0:Nat) (x1_0:Li) (A7_0:Option Addr) (c7_0:Nat) (x7_0:Li) {W:World} (hM:Mem w0 W (Gs [⟨.pointer (pa gp0),100,0,cs0_0⟩,⟨.slice A7_0 x7_0.length c7_0,5,1,nums .u8 x7_0⟩] [F0_0,FT])) (hR0_0:Rs_modes_Mode (andZ (Oks F0_0) Zm) cs0_0 x0_0) (hrx1_0:RdF Zp1 (.slice A1_0 x1_0.length c1_0) (nums .u8 x1_0)) (h:modes_Mode_Step.l0 k_ t4 x0_0 x1_0 x7_0=some r),RL 33 f33 (modes_Mode_Step.R gp0 r w0 FT Zm) [1,0,1,1,1,1] [(0,.pointer (pa gp0)),(1,.slice A1_0 x1_0.length c1_0),(6,.i t4),(7,.slice A7_0 x7_0.length c7_0)] W:=by
  refine loopI (by intros;rename_i h;simp [modes_Mode_Step.l0] at h) fun k hk ih0 cs0_0 x0_0 F0_0 A1_0 c1_0 x1_0 A7_0 c7_0 x7_0 W hM hR0_0 hrx1_0 h=> ?_
  simp only [modes_Mode_Step.l0] at h
  obtain ⟨uo14_0,_,_,_,_,_,rfl,ho14_0,rfl,rfl,⟨Ao14_3,co14_3,rfl,ho14_3⟩,⟨Ao14_4,co14_4,rfl,ho14_4⟩,⟨Ao14_5,co14_5,rfl,ho14_5⟩⟩:=hR0_0
  refine .gq 9 ?_
  rcases ift h with ⟨c15,h⟩ | ⟨c15,h⟩
  ·refine .kn 25 c15<| .gq 7 ?_
   obtain rfl:=sj h
   exact .ret func33 ⟨A7_0,c7_0,[uo14_0,.i x0_0.2.1,.bool x0_0.2.2.1,.slice Ao14_3 x0_0.2.2.2.1.length co14_3,.slice Ao14_4 x0_0.2.2.2.2.1.length co14_4,.slice Ao14_5 x0_0.2.2.2.2.2.length co14_5],F0_0,rfl,⟨_,_,_,_,_,_,rfl,(upc _ _ _ _ (fun _ z=>(ai z.1 z.2)) ho14_0),rfl,rfl,(upn (fun _ z=>(ai z.1 z.2)) (rno ho14_3 (ai (hM.oks 0) (zl hM hZm 1)))),(upn (fun _ z=>(ai z.1 z.2)) (rno ho14_4 (ai (hM.oks 0) (zl hM hZm 1)))),(upn (fun _ z=>(ai z.1 z.2)) (rno ho14_5 (ai (hM.oks 0) (zl hM hZm 1))))⟩,(hM.pm [1,0] [[0],[1]])⟩
  refine .kn 25 c15<| .gq 7 ?_
  rcases ift h with ⟨c16,h⟩ | ⟨c16,h⟩
  ·refine .kn 30 c16<| .gq 5 ?_
   rcases ift h with ⟨_,h⟩ | ⟨_,h⟩<;>cases h
  refine .kn 30 c16<| .gq 6 ?_
  obtain ⟨c19,h⟩:=ifd h
  obtain ⟨c20,h⟩:=ifd h
  refine .ct 0 t4 (hrx1_0 _ (zl hM hZp1 1)) fun A21 c22 hs23=> ?_
  have hs26:Rs_modes_Mode (andZ (Oks F0_0) Zm) [uo14_0,.i x0_0.2.1,.bool x0_0.2.2.1,.slice Ao14_3 x0_0.2.2.2.1.length co14_3,.slice Ao14_4 x0_0.2.2.2.2.1.length co14_4,.slice Ao14_5 x0_0.2.2.2.2.2.length co14_5] (x0_0.1,x0_0.2.1,x0_0.2.2.1,x0_0.2.2.2.1,x0_0.2.2.2.2.1,x0_0.2.2.2.2.2):=⟨_,_,_,_,_,_,rfl,(upc _ _ _ _ (fun _ z=>(ai z.1 z.2)) ho14_0),rfl,rfl,(upn (fun _ z=>(ai z.1 z.2)) (rno ho14_3 (ai (hM.oks 0) (zl hM hZm 1)))),(upn (fun _ z=>(ai z.1 z.2)) (rno ho14_4 (ai (hM.oks 0) (zl hM hZm 1)))),(upn (fun _ z=>(ai z.1 z.2)) (rno ho14_5 (ai (hM.oks 0) (zl hM hZm 1))))⟩
  obtain ⟨t25,ht25,h⟩:=bs h
  refine .ca (modes_Mode_block.calls (hp0:=hs26) (hZm:=fun _ hk_ hT_=>(ai (hT_.fg 0 rfl) (hZm _ hk_ (hT_.fg 1 rfl)))) (hM0:=hM.fm [0] [1] [0,1] rfl rfl rfl) (Zp1:=fun W_=>Rd W_ (.slice A21 (((x1_0.take (t4:Int).toNat).drop (0:Int).toNat).length) c22) (nums .u8 ((x1_0.take (t4:Int).toNat).drop (0:Int).toNat))) (hr1:=fun _ h_=>h_) (hZp1:=fun _ hk_ hT_=>(hs23 _ (hrx1_0 _ (hZp1 _ hk_ (hT_.fg 1 rfl))))) (h:=ht25)) ?_
  rintro _ W24 ⟨A27,c28,cst25,Ft25,rfl,hRt25,hM_⟩
  have hr30:Rs_modes_Mode (andZ (Oks Ft25) (andZ (Oks F0_0) Zm)) cst25 t25.2:=hRt25
  replace hM:=hM_.uf
  obtain ⟨uo31_0,_,_,_,_,_,rfl,ho31_0,rfl,rfl,⟨Ao31_3,co31_3,rfl,ho31_3⟩,⟨Ao31_4,co31_4,rfl,ho31_4⟩,⟨Ao31_5,co31_5,rfl,ho31_5⟩⟩:=hr30
  obtain ⟨c35,h⟩:=ifd h
  refine .an hM 2 rfl (hM.or 0) c35 fun A32 c33 W34 hM=> .gq 7 ?_
  obtain ⟨c37,h⟩:=ifd h
  obtain ⟨c38,h⟩:=ifd h
  exact .ct t4 (x1_0.length:Int) (hrx1_0 _ (zl hM hZp1 2)) fun A39 c40 hs41=> .gq 5<| .at (ih0 k (by omega) [uo31_0,.i t25.2.2.1,.bool t25.2.2.2.1,.slice Ao31_3 t25.2.2.2.2.1.length co31_3,.slice Ao31_4 t25.2.2.2.2.2.1.length co31_4,.slice Ao31_5 t25.2.2.2.2.2.2.length co31_5] (t25.2.1,t25.2.2.1,t25.2.2.2.1,t25.2.2.2.2.1,t25.2.2.2.2.2.1,t25.2.2.2.2.2.2) (List.flatten [Ft25,F0_0]) A39 c40 ((x1_0.take ((x1_0.length:Int):Int).toNat).drop (t4:Int).toNat) A32 c33 (x7_0++t25.1) (hM.pm [1,2] [[0,1],[2]]) ⟨_,_,_,_,_,_,rfl,(upc _ _ _ _ (fun _ z=>(ai (Oks.g z.1 0 rfl) (ai (Oks.g z.1 1 rfl) z.2))) ho31_0),rfl,rfl,(upn (fun _ z=>(ai (Oks.g z.1 0 rfl) (ai (Oks.g z.1 1 rfl) z.2))) (rno ho31_3 (ai (hM.oks 0) (ai (hM.oks 1) (zl hM hZm 2))))),(upn (fun _ z=>(ai (Oks.g z.1 0 rfl) (ai (Oks.g z.1 1 rfl) z.2))) (rno ho31_4 (ai (hM.oks 0) (ai (hM.oks 1) (zl hM hZm 2))))),(upn (fun _ z=>(ai (Oks.g z.1 0 rfl) (ai (Oks.g z.1 1 rfl) z.2))) (rno ho31_5 (ai (hM.oks 0) (ai (hM.oks 1) (zl hM hZm 2)))))⟩ (fun _ z=>hs41 _ (hrx1_0 _ z)) h)
 exact .at (l0 k k.le_refl [uo2_0,.i a0.2.1,.bool a0.2.2.1,.slice Ao2_3 a0.2.2.2.1.length co2_3,.slice Ao2_4 a0.2.2.2.2.1.length co2_4,.slice Ao2_5 a0.2.2.2.2.2.length co2_5] (a0.1,a0.2.1,a0.2.2.1,a0.2.2.2.1,a0.2.2.2.2.1,a0.2.2.2.2.2) ([]:List Ent) Ap1 cp1 a1 (pa g9) (((a1.length:Int):Int).toNat) (List.replicate 0 (0:Int)) (hM.pm [1,0] [[],[0]]) ⟨_,_,_,_,_,_,rfl,(upc _ _ _ _ (fun _ z=>z.2) ho2_0),rfl,rfl,(upn (fun _ z=>z.2) (rno ho2_3 (zl hM hZm 0))),(upn (fun _ z=>z.2) (rno ho2_4 (zl hM hZm 0))),(upn (fun _ z=>z.2) (rno ho2_5 (zl hM hZm 0)))⟩ hr1 h)
end Go.Scr.S

namespace Go.Scr.S
variable {k np0 cp0 np1 cp1 np2 cp2 np3 cp3 np4 cp4:Nat} {Ap0 Ap1 Ap2 Ap3 Ap4:Option Addr} {w w0:World} {FT:List Ent} {Zm Zp0 Zp1 Zp2 Zp3:Zp}
open Go.RowKit (Below)
open Go.Proofs.Tryz (prog f29 func29)
def modes_New.f (k:Nat) (a0:Ci) (a1:Int) (a2:Bool) (a3:Li):Option (Mo×Int):=(cipher_Cipher_Size.f k a0).bind fun t3=>(if (a1==1)=true then (if ((a3.length:Int) != 0)=true then (none) else ((slices_Clone_byte_byte.f k a3).bind fun t7=>(some (((some a0),a1,a2,t7,([]:Li),([]:Li)),0)))) else (if (a1==2)=true then (if ((a3.length:Int) != t3)=true then (none) else ((slices_Clone_byte_byte.f k a3).bind fun t18=>(some (((some a0),a1,a2,t18,([]:Li),([]:Li)),0)))) else (if (a1==3)=true then (if ((a3.length:Int) != t3)=true then (none) else ((slices_Clone_byte_byte.f k a3).bind fun t29=>(some (((some a0),a1,a2,t29,([]:Li),([]:Li)),0)))) else (if (a1==4)=true then (if ((a3.length:Int) != t3)=true then (none) else ((slices_Clone_byte_byte.f k a3).bind fun t40=>(some (((some a0),a1,a2,t40,([]:Li),([]:Li)),0)))) else (if (a1==5)=true then (if ((a3.length:Int) != t3)=true then (none) else ((slices_Clone_byte_byte.f k a3).bind fun t51=>(some (((some a0),a1,a2,t51,([]:Li),([]:Li)),0)))) else (if (a1==6)=true then (if ((a3.length:Int) != t3)=true then (none) else ((slices_Clone_byte_byte.f k a3).bind fun t62=>(some (((some a0),a1,a2,t62,([]:Li),([]:Li)),0)))) else (none)))))))
theorem modes_New.calls {vp0:Value} {a0:Ci} {a1:Int} {a2:Bool} {a3:Li} {r:Mo×Int} (hr3:Rd w (.slice Ap3 np3 cp3) (nums .u8 a3)) (hp0:(rPtr Rs_cipher_Cipher) Zp0 vp0 a0) (hZp0: ∀W,Kept w W→Zp0 W) (h:modes_New.f k a0 a1 a2 a3=some r):Calls prog 29 #[vp0,.i a1,.bool a2,(.slice Ap3 np3 cp3)] w (Ret fun v w'=> ∃(g0':Nat) (cs0':List Value) (F0':List Ent),v= .tuple #[.pointer (some ⟨g0',0,none⟩),.i r.2]∧Rs_modes_Mode (andZ (Oks F0') Zp0) cs0' r.1∧Mem w w' (Gs [⟨.pointer (some ⟨g0',0,none⟩),100,0,cs0'⟩] [F0'])):=by
 obtain rfl:=hr3.ln
 obtain ⟨gp0,_,rfl,hco1,_,uo1_1,rfl,rfl,ho1_1⟩:=id hp0
 unfold modes_New.f at h
 refine calls_S func29 ?_
 have hM:=Mem.r0 w
 refine .gq 8 ?_
 obtain ⟨t3,ht3,h⟩:=bs h
 refine .ca (cipher_Cipher_Size.calls hp0 (zp hM hZp0) ht3) ?_
 rintro _ W2 ⟨rfl,hM_⟩
 replace hM:=hM.cg hM_
 refine .gq 19 ?_
 rcases ift h with ⟨c4,h⟩ | ⟨c4,h⟩
 ·refine .kn 14 c4<| .gq 15 ?_
  obtain ⟨c5,h⟩:=ifz h
  refine .kn 25 c5<| .gq 8 ?_
  obtain ⟨t7,ht7,h⟩:=bs h
  refine .ca (slices_Clone_byte_byte.calls (hr3.mono hM.below) ht7) ?_
  rintro _ W6 ⟨A8,c9,rfl,hM_⟩
  replace hM:=hM.cg hM_
  obtain ⟨Fq11,hfq11,hM⟩:=hM.fs 0
  refine .gq 1<| .nw 100 ([.pointer (pa gp0),.i a1,.bool a2,.slice A8 t7.length c9,.slice none 0 0,.slice none 0 0]) hM fun g12 W13 hM=> .gq 3 ?_
  obtain rfl:=sj h
  exact .ret func29 ⟨g12,[.pointer (pa gp0),.i a1,.bool a2,.slice A8 t7.length c9,.slice none 0 0,.slice none 0 0],Fq11,rfl,⟨_,_,_,_,_,_,rfl,(upc _ _ _ _ (fun _ z=>z.2) (.inr ⟨a0,rfl,hp0⟩)),rfl,rfl,(upn (fun _ z=>z.1) (rno hfq11 (hM.oks 0))),⟨_,_,rfl,fun _ _=>Rd.nil _ _⟩,⟨_,_,rfl,fun _ _=>Rd.nil _ _⟩⟩,(hM.pm [0] [[0]])⟩
 refine .kn 14 c4<| .gq 8 ?_
 rcases ift h with ⟨c15,h⟩ | ⟨c15,h⟩
 ·refine .kn 16 c15<| .gq 13 ?_
  obtain ⟨c16,h⟩:=ifz h
  refine .kn 25 c16<| .gq 8 ?_
  obtain ⟨t18,ht18,h⟩:=bs h
  refine .ca (slices_Clone_byte_byte.calls (hr3.mono hM.below) ht18) ?_
  rintro _ W17 ⟨A19,c20,rfl,hM_⟩
  replace hM:=hM.cg hM_
  obtain ⟨Fq22,hfq22,hM⟩:=hM.fs 0
  refine .gq 1<| .nw 100 ([.pointer (pa gp0),.i a1,.bool a2,.slice A19 t18.length c20,.slice none 0 0,.slice none 0 0]) hM fun g23 W24 hM=> .gq 3 ?_
  obtain rfl:=sj h
  exact .ret func29 ⟨g23,[.pointer (pa gp0),.i a1,.bool a2,.slice A19 t18.length c20,.slice none 0 0,.slice none 0 0],Fq22,rfl,⟨_,_,_,_,_,_,rfl,(upc _ _ _ _ (fun _ z=>z.2) (.inr ⟨a0,rfl,hp0⟩)),rfl,rfl,(upn (fun _ z=>z.1) (rno hfq22 (hM.oks 0))),⟨_,_,rfl,fun _ _=>Rd.nil _ _⟩,⟨_,_,rfl,fun _ _=>Rd.nil _ _⟩⟩,(hM.pm [0] [[0]])⟩
 refine .kn 16 c15<| .gq 6 ?_
 rcases ift h with ⟨c26,h⟩ | ⟨c26,h⟩
 ·refine .kn 16 c26<| .gq 13 ?_
  obtain ⟨c27,h⟩:=ifz h
  refine .kn 25 c27<| .gq 8 ?_
  obtain ⟨t29,ht29,h⟩:=bs h
  refine .ca (slices_Clone_byte_byte.calls (hr3.mono hM.below) ht29) ?_
  rintro _ W28 ⟨A30,c31,rfl,hM_⟩
  replace hM:=hM.cg hM_
  obtain ⟨Fq33,hfq33,hM⟩:=hM.fs 0
  refine .gq 1<| .nw 100 ([.pointer (pa gp0),.i a1,.bool a2,.slice A30 t29.length c31,.slice none 0 0,.slice none 0 0]) hM fun g34 W35 hM=> .gq 3 ?_
  obtain rfl:=sj h
  exact .ret func29 ⟨g34,[.pointer (pa gp0),.i a1,.bool a2,.slice A30 t29.length c31,.slice none 0 0,.slice none 0 0],Fq33,rfl,⟨_,_,_,_,_,_,rfl,(upc _ _ _ _ (fun _ z=>z.2) (.inr ⟨a0,rfl,hp0⟩)),rfl,rfl,(upn (fun _ z=>z.1) (rno hfq33 (hM.oks 0))),⟨_,_,rfl,fun _ _=>Rd.nil _ _⟩,⟨_,_,rfl,fun _ _=>Rd.nil _ _⟩⟩,(hM.pm [0] [[0]])⟩
 refine .kn 16 c26<| .gq 6 ?_
 rcases ift h with ⟨c37,h⟩ | ⟨c37,h⟩
 ·refine .kn 16 c37<| .gq 13 ?_
  obtain ⟨c38,h⟩:=ifz h
  refine .kn 25 c38<| .gq 8 ?_
  obtain ⟨t40,ht40,h⟩:=bs h
  refine .ca (slices_Clone_byte_byte.calls (hr3.mono hM.below) ht40) ?_
  rintro _ W39 ⟨A41,c42,rfl,hM_⟩
  replace hM:=hM.cg hM_
  obtain ⟨Fq44,hfq44,hM⟩:=hM.fs 0
  refine .gq 1<| .nw 100 ([.pointer (pa gp0),.i a1,.bool a2,.slice A41 t40.length c42,.slice none 0 0,.slice none 0 0]) hM fun g45 W46 hM=> .gq 3 ?_
  obtain rfl:=sj h
  exact .ret func29 ⟨g45,[.pointer (pa gp0),.i a1,.bool a2,.slice A41 t40.length c42,.slice none 0 0,.slice none 0 0],Fq44,rfl,⟨_,_,_,_,_,_,rfl,(upc _ _ _ _ (fun _ z=>z.2) (.inr ⟨a0,rfl,hp0⟩)),rfl,rfl,(upn (fun _ z=>z.1) (rno hfq44 (hM.oks 0))),⟨_,_,rfl,fun _ _=>Rd.nil _ _⟩,⟨_,_,rfl,fun _ _=>Rd.nil _ _⟩⟩,(hM.pm [0] [[0]])⟩
 refine .kn 16 c37<| .gq 6 ?_
 rcases ift h with ⟨c48,h⟩ | ⟨c48,h⟩
 ·refine .kn 16 c48<| .gq 13 ?_
  obtain ⟨c49,h⟩:=ifz h
  refine .kn 25 c49<| .gq 8 ?_
  obtain ⟨t51,ht51,h⟩:=bs h
  refine .ca (slices_Clone_byte_byte.calls (hr3.mono hM.below) ht51) ?_
  rintro _ W50 ⟨A52,c53,rfl,hM_⟩
  replace hM:=hM.cg hM_
  obtain ⟨Fq55,hfq55,hM⟩:=hM.fs 0
  refine .gq 1<| .nw 100 ([.pointer (pa gp0),.i a1,.bool a2,.slice A52 t51.length c53,.slice none 0 0,.slice none 0 0]) hM fun g56 W57 hM=> .gq 3 ?_
  obtain rfl:=sj h
  exact .ret func29 ⟨g56,[.pointer (pa gp0),.i a1,.bool a2,.slice A52 t51.length c53,.slice none 0 0,.slice none 0 0],Fq55,rfl,⟨_,_,_,_,_,_,rfl,(upc _ _ _ _ (fun _ z=>z.2) (.inr ⟨a0,rfl,hp0⟩)),rfl,rfl,(upn (fun _ z=>z.1) (rno hfq55 (hM.oks 0))),⟨_,_,rfl,fun _ _=>Rd.nil _ _⟩,⟨_,_,rfl,fun _ _=>Rd.nil _ _⟩⟩,(hM.pm [0] [[0]])⟩
 refine .kn 16 c48<| .gq 5 ?_
 obtain ⟨c59,h⟩:=ifs h
 refine .kn 16 c59<| .gq 11 ?_
 obtain ⟨c60,h⟩:=ifz h
 refine .kn 25 c60<| .gq 8 ?_
 obtain ⟨t62,ht62,h⟩:=bs h
 refine .ca (slices_Clone_byte_byte.calls (hr3.mono hM.below) ht62) ?_
 rintro _ W61 ⟨A63,c64,rfl,hM_⟩
 replace hM:=hM.cg hM_
 obtain ⟨Fq66,hfq66,hM⟩:=hM.fs 0
 refine .gq 1<| .nw 100 ([.pointer (pa gp0),.i a1,.bool a2,.slice A63 t62.length c64,.slice none 0 0,.slice none 0 0]) hM fun g67 W68 hM=> .gq 3 ?_
 obtain rfl:=sj h
 exact .ret func29 ⟨g67,[.pointer (pa gp0),.i a1,.bool a2,.slice A63 t62.length c64,.slice none 0 0,.slice none 0 0],Fq66,rfl,⟨_,_,_,_,_,_,rfl,(upc _ _ _ _ (fun _ z=>z.2) (.inr ⟨a0,rfl,hp0⟩)),rfl,rfl,(upn (fun _ z=>z.1) (rno hfq66 (hM.oks 0))),⟨_,_,rfl,fun _ _=>Rd.nil _ _⟩,⟨_,_,rfl,fun _ _=>Rd.nil _ _⟩⟩,(hM.pm [0] [[0]])⟩
end Go.Scr.S

namespace Go.Scr.S
variable {k np0 cp0 np1 cp1 np2 cp2 np3 cp3 np4 cp4:Nat} {Ap0 Ap1 Ap2 Ap3 Ap4:Option Addr} {w w0:World} {FT:List Ent} {Zm Zp0 Zp1 Zp2 Zp3:Zp}
open Go.RowKit (Below)
open Go.Proofs.Tryz (prog f28 func28)
def shot_stealing.l0:Nat→Ci→Cf→Li→Li→Int→Int→Option (Li×Int)
 | 0,_,_,_,_,_,_=>none
 | k+1,a0,a1,a2,a3,t6,x11_0=>(some (decide ((I64 ((a3.length:Int)-x11_0))>(I64 (2*t6))):Bool)).bind fun y9=>(if y9=true then (shot_stealing.l0 k a0 a1 a2 a3 t6 (I64 (x11_0+t6))) else ((modes_New.f k a0 2 a1.2.2.2 a2).bind fun t12=>(gd (0≤x11_0) (gd (x11_0≤(a3.length:Int)) ((modes_Mode_Step.f k (t12.1.1,t12.1.2.1,t12.1.2.2.1,t12.1.2.2.2.1,t12.1.2.2.2.2.1,t12.1.2.2.2.2.2) ((a3.take (x11_0:Int).toNat).drop (0:Int).toNat)).bind fun t21=>(if (decide (x11_0>0))=true then (gd (0≤(I64 (x11_0-t6))) (gd ((I64 (x11_0-t6))≤(t21.1.length:Int)) (if a1.2.2.2=true then (gd (0≤(I64 (x11_0-t6))) (gd ((I64 (x11_0-t6))≤x11_0) (gd (x11_0≤(a3.length:Int)) (gd (0≤x11_0) (gd (x11_0≤(a3.length:Int)) ((steal_Tail.f k a0 a1.2.1 a1.2.2.2 ((a3.take (x11_0:Int).toNat).drop (I64 (x11_0-t6):Int).toNat) ((a3.take ((a3.length:Int):Int).toNat).drop (x11_0:Int).toNat)).bind fun t48=>((slices_Concat_byte_byte.f k ([t21.1,t48.1]:Lj)).bind fun t60=>(some (t60,t48.2))))))))) else (gd (0≤x11_0) (gd (x11_0≤(a3.length:Int)) ((steal_Tail.f k a0 a1.2.1 a1.2.2.2 ((t21.1.take ((t21.1.length:Int):Int).toNat).drop (I64 (x11_0-t6):Int).toNat) ((a3.take ((a3.length:Int):Int).toNat).drop (x11_0:Int).toNat)).bind fun t71=>((slices_Concat_byte_byte.f k ([t21.1,t71.1]:Lj)).bind fun t83=>(some (t83,t71.2))))))))) else (gd (0≤x11_0) (gd (x11_0≤(a3.length:Int)) ((steal_Tail.f k a0 a1.2.1 a1.2.2.2 a2 ((a3.take ((a3.length:Int):Int).toNat).drop (x11_0:Int).toNat)).bind fun t94=>((slices_Concat_byte_byte.f k ([t21.1,t94.1]:Lj)).bind fun t106=>(some (t106,t94.2))))))))))))
def shot_stealing.f (k:Nat) (a0:Ci) (a1:Int×Int×Int×Bool) (a2:Li) (a3:Li):Option (Li×Int):=(cipher_Cipher_Size.f k a0).bind fun t6=>(if (decide ((a3.length:Int)<t6))=true then (some (([]:Li),7)) else (shot_stealing.l0 k a0 a1 a2 a3 t6 0))
abbrev shot_stealing.R (r:Li×Int) (w:World):Value→World→Prop:=fun v w'=> ∃A0' c0',v= .tuple #[.slice A0' r.1.length c0',.i r.2]∧Mem w w' (Gs [⟨.slice A0' r.1.length c0',5,1,nums .u8 r.1⟩] [])
theorem shot_stealing.calls {vp0:Value} {a0:Ci} {a1:Int×Int×Int×Bool} {a2:Li} {a3:Li} {r:Li×Int} (hr2:Rd w (.slice Ap2 np2 cp2) (nums .u8 a2)) (hr3:Rd w (.slice Ap3 np3 cp3) (nums .u8 a3)) (hp0:(rPtr Rs_cipher_Cipher) Zp0 vp0 a0) (hZp0: ∀W,Kept w W→Zp0 W) (h:shot_stealing.f k a0 a1 a2 a3=some r):Calls prog 28 #[vp0,.agg #[.i a1.1,.i a1.2.1,.i a1.2.2.1,.bool a1.2.2.2],(.slice Ap2 np2 cp2),(.slice Ap3 np3 cp3)] w (Ret (shot_stealing.R r w)):=by
 obtain rfl:=hr2.ln
 obtain rfl:=hr3.ln
 obtain ⟨gp0,_,rfl,hco1,_,uo1_1,rfl,rfl,ho1_1⟩:=id hp0
 unfold shot_stealing.f at h
 refine calls_S func28 ?_
 have hM:=Mem.r0 w
 refine .gq 2<| .nw 27 ([.i a1.1,.i a1.2.1,.i a1.2.2.1,.bool a1.2.2.2]) hM fun g2 W3 hM=> .gq 6 ?_
 obtain ⟨t6,ht6,h⟩:=bs h
 refine .ca (cipher_Cipher_Size.calls hp0 (zp hM hZp0) ht6) ?_
 rintro _ W5 ⟨rfl,hM_⟩
 replace hM:=hM.cg hM_
 refine .gq 10 ?_
 rcases ift h with ⟨c7,h⟩ | ⟨c7,h⟩
 ·refine .kn 24 c7<| .gq 6 ?_
  replace hM:=hM.n1 5
  obtain rfl:=sj h
  exact .ret func28 ⟨none,0,rfl,(hM.pm [0] [])⟩
 refine .kn 24 c7<| .gq 9 ?_
 have l0: ∀k_≤k,∀(x11_0:Int) {W:World} (hM:Mem w W (Gs [⟨.pointer (pa g2),27,0,[.i a1.1,.i a1.2.1,.i a1.2.2.1,.bool a1.2.2.2]⟩] [])) (h:shot_stealing.l0 k_ a0 a1 a2 a3 t6 x11_0=some r),RL 28 f28 (shot_stealing.R r w) [1,1,1,1,0,0,0] [(0,.pointer (pa gp0)),(2,.slice Ap2 a2.length cp2),(3,.slice Ap3 a3.length cp3),(5,.pointer (pa g2)),(10,.i t6),(11,.i x11_0)] W:=by
  refine loopI (by intros;rename_i h;simp [shot_stealing.l0] at h) fun k hk ih0 x11_0 W hM h=> ?_
  simp only [shot_stealing.l0] at h
  refine .gq 11 ?_
  let y9:Bool:=decide ((I64 ((a3.length:Int)-x11_0))>(I64 (2*t6)))
  replace h:=bz (y:=y9) h rfl
  rcases ift h with ⟨c10,h⟩ | ⟨c10,h⟩
  ·exact .kn 31 c10<| .gq 11<| .at (ih0 k (by omega) (I64 (x11_0+t6)) (hM.pm [0] []) h)
  refine .kn 31 c10<| .gq 6<| .lv hM 0 rfl 3 rfl<| .gq 1 ?_
  obtain ⟨t12,ht12,h⟩:=bs h
  refine .ca (modes_New.calls (hr2.mono hM.below) hp0 (zp hM hZp0) ht12) ?_
  rintro _ W11 ⟨gt12_0,cst12_0,Ft12_0,rfl,hRt12_0,hM_⟩
  obtain ⟨uo13_0,_,_,_,_,_,rfl,ho13_0,rfl,rfl,⟨Ao13_3,co13_3,rfl,ho13_3⟩,⟨Ao13_4,co13_4,rfl,ho13_4⟩,⟨Ao13_5,co13_5,rfl,ho13_5⟩⟩:=hRt12_0
  replace hM:=hM.cg hM_
  refine .gq 11 ?_
  obtain ⟨c15,h⟩:=ifd h
  obtain ⟨c16,h⟩:=ifd h
  refine .ct 0 x11_0 (hr3.mono hM.below) fun A17 c18 hs19=> ?_
  have hs22:Rs_modes_Mode (andZ (Oks Ft12_0) Zp0) [uo13_0,.i t12.1.2.1,.bool t12.1.2.2.1,.slice Ao13_3 t12.1.2.2.2.1.length co13_3,.slice Ao13_4 t12.1.2.2.2.2.1.length co13_4,.slice Ao13_5 t12.1.2.2.2.2.2.length co13_5] (t12.1.1,t12.1.2.1,t12.1.2.2.1,t12.1.2.2.2.1,t12.1.2.2.2.2.1,t12.1.2.2.2.2.2):=⟨_,_,_,_,_,_,rfl,(upc _ _ _ _ (fun _ z=>(ai z.1 z.2)) ho13_0),rfl,rfl,(upn (fun _ z=>(ai z.1 z.2)) (rno ho13_3 (ai (hM.oks 0) (hZp0 _ hM.kept)))),(upn (fun _ z=>(ai z.1 z.2)) (rno ho13_4 (ai (hM.oks 0) (hZp0 _ hM.kept)))),(upn (fun _ z=>(ai z.1 z.2)) (rno ho13_5 (ai (hM.oks 0) (hZp0 _ hM.kept))))⟩
  obtain ⟨t21,ht21,h⟩:=bs h
  refine .ca (modes_Mode_Step.calls (hp0:=hs22) (hZm:=fun _ hk_ hT_=>(ai (hT_.fg 0 rfl) (hZp0 _ hk_))) (hM0:=hM.fm [0] [1] [0] rfl rfl rfl) (Zp1:=fun W_=>Rd W_ (.slice A17 (((a3.take (x11_0:Int).toNat).drop (0:Int).toNat).length) c18) (nums .u8 ((a3.take (x11_0:Int).toNat).drop (0:Int).toNat))) (hr1:=fun _ h_=>h_) (hZp1:=fun _ hk_ hT_=>(hs19 _ (hr3.kept hk_))) (h:=ht21)) ?_
  rintro _ W20 ⟨A23,c24,cst21,Ft21,rfl,hRt21,hM_⟩
  have hr26:Rs_modes_Mode (andZ (Oks Ft21) (andZ (Oks Ft12_0) Zp0)) cst21 t21.2.2:=hRt21
  replace hM:=hM_.uf
  obtain ⟨uo27_0,_,_,_,_,_,rfl,ho27_0,rfl,rfl,⟨Ao27_3,co27_3,rfl,ho27_3⟩,⟨Ao27_4,co27_4,rfl,ho27_4⟩,⟨Ao27_5,co27_5,rfl,ho27_5⟩⟩:=hr26
  refine .gq 17 ?_
  rcases ift h with ⟨c28,h⟩ | ⟨c28,h⟩
  ·refine .kn 53 c28<| .gq 7 ?_
   obtain ⟨c29,h⟩:=ifd h
   obtain ⟨c30,h⟩:=ifd h
   refine .ct (I64 (x11_0-t6)) (t21.1.length:Int) (hM.or 0) fun A31 c32 hs33=> .gq 5<| .lv hM 2 rfl 3 rfl<| .gq 1 ?_
   rcases ift h with ⟨c34,h⟩ | ⟨c34,h⟩
   ·refine .kn 60 c34<| .gq 7 ?_
    obtain ⟨c35,h⟩:=ifd h
    obtain ⟨c36,h⟩:=ifd h
    obtain ⟨c37,h⟩:=ifd h
    refine .ct (I64 (x11_0-t6)) x11_0 (hr3.mono hM.below) fun A38 c39 hs40=> .gq 3<| .at (show RL 28 f28 (shot_stealing.R r w) [1,1,1,1,1,1,1,1,1,0] [(0,.pointer (pa gp0)),(3,.slice Ap3 a3.length cp3),(5,.pointer (pa g2)),(11,.i x11_0),(14,.slice A23 t21.1.length c24),(16,.slice A38 (((a3.take (x11_0:Int).toNat).drop (I64 (x11_0-t6):Int).toNat).length) c39)] _ from .dr [] hM fun W41 hM=> ?_)
    refine .pz tr [0,1]<| .lv tr 2 hM 2 rfl 1 rfl<| .pz tr [3]<| .lv tr 4 hM 2 rfl 3 rfl<| .pz tr [5,6,7] ?_
    obtain ⟨c42,h⟩:=ifd h
    obtain ⟨c43,h⟩:=ifd h
    refine .ct tr 8 x11_0 (a3.length:Int) (hr3.mono hM.below) fun A44 c45 hs46=> ?_
    obtain ⟨t48,ht48,h⟩:=bs h
    refine .a1 tr 9<| .ca (steal_Tail.calls (hs40 _ (hr3.mono hM.below)) (hs46 _ (hr3.mono hM.below)) hp0 (zp hM hZp0) ht48) ?_
    rintro _ W47 ⟨A49,c50,rfl,hM_⟩
    refine .ca hM_ [] ?_
    replace hM:=hM.cg hM_
    refine .pz tr [10,11,12,13,14]<| .dn tr<| .gq 4 ?_
    obtain ⟨Fq52,hfq52,hM⟩:=hM.fs 1
    obtain ⟨Fq53,hfq53,hM⟩:=hM.fs 0
    have hqq54:Each2 ((rNums .u8) (andZ (Oks Fq52) (Oks Fq53))) [.slice A23 t21.1.length c24,.slice A49 t48.1.length c50] ([t21.1,t48.1]:Lj):=(.cons (rno (RdF.up hfq52 (fun _ z=>z.1)) (ai (hM.oks 1) (hM.oks 0))) (.cons (rno (RdF.up hfq53 (fun _ z=>z.2)) (ai (hM.oks 1) (hM.oks 0))) (Each2.nil _)))
    refine .new 22 1 2 ([.slice A23 t21.1.length c24,.slice A49 t48.1.length c50]) hM (fun g55 W56 hM=> ?_) rfl
    obtain ⟨Fq58,hfq58,hM⟩:=hM.fs 0
    obtain ⟨t60,ht60,h⟩:=bs h
    refine .ca (slices_Concat_byte_byte.calls ⟨_,_,_,rfl,(hfq58.up (fun _ z=>z.1)),(Each2.up (up_nums .u8) hqq54 (fun _ z=>(ai z.2.1 z.2.2)))⟩ (fun _ z=>(ai ((hM.oks 0).kept z) (ai ((hM.oks 2).kept z) ((hM.oks 1).kept z)))) ht60) ?_
    rintro _ W59 ⟨A61,c62,rfl,hM_⟩
    replace hM:=hM.cg hM_
    refine .gq 4 ?_
    obtain rfl:=sj h
    exact .ret func28 ⟨A61,c62,rfl,(hM.pm [0] [])⟩
   refine .kn 60 c34<| .gq 3<| .at (show RL 28 f28 (shot_stealing.R r w) [1,1,1,1,1,1,1,1,1,0] [(0,.pointer (pa gp0)),(3,.slice Ap3 a3.length cp3),(5,.pointer (pa g2)),(11,.i x11_0),(14,.slice A23 t21.1.length c24),(16,.slice A31 (((t21.1.take ((t21.1.length:Int):Int).toNat).drop (I64 (x11_0-t6):Int).toNat).length) c32)] _ from .dr [] hM fun W64 hM=> ?_)
   refine .pz tr [0,1]<| .lv tr 2 hM 2 rfl 1 rfl<| .pz tr [3]<| .lv tr 4 hM 2 rfl 3 rfl<| .pz tr [5,6,7] ?_
   obtain ⟨c65,h⟩:=ifd h
   obtain ⟨c66,h⟩:=ifd h
   refine .ct tr 8 x11_0 (a3.length:Int) (hr3.mono hM.below) fun A67 c68 hs69=> ?_
   obtain ⟨t71,ht71,h⟩:=bs h
   refine .a1 tr 9<| .ca (steal_Tail.calls (hs33 _ (hM.or 0)) (hs69 _ (hr3.mono hM.below)) hp0 (zp hM hZp0) ht71) ?_
   rintro _ W70 ⟨A72,c73,rfl,hM_⟩
   refine .ca hM_ [] ?_
   replace hM:=hM.cg hM_
   refine .pz tr [10,11,12,13,14]<| .dn tr<| .gq 4 ?_
   obtain ⟨Fq75,hfq75,hM⟩:=hM.fs 1
   obtain ⟨Fq76,hfq76,hM⟩:=hM.fs 0
   have hqq77:Each2 ((rNums .u8) (andZ (Oks Fq75) (Oks Fq76))) [.slice A23 t21.1.length c24,.slice A72 t71.1.length c73] ([t21.1,t71.1]:Lj):=(.cons (rno (RdF.up hfq75 (fun _ z=>z.1)) (ai (hM.oks 1) (hM.oks 0))) (.cons (rno (RdF.up hfq76 (fun _ z=>z.2)) (ai (hM.oks 1) (hM.oks 0))) (Each2.nil _)))
   refine .new 22 1 2 ([.slice A23 t21.1.length c24,.slice A72 t71.1.length c73]) hM (fun g78 W79 hM=> ?_) rfl
   obtain ⟨Fq81,hfq81,hM⟩:=hM.fs 0
   obtain ⟨t83,ht83,h⟩:=bs h
   refine .ca (slices_Concat_byte_byte.calls ⟨_,_,_,rfl,(hfq81.up (fun _ z=>z.1)),(Each2.up (up_nums .u8) hqq77 (fun _ z=>(ai z.2.1 z.2.2)))⟩ (fun _ z=>(ai ((hM.oks 0).kept z) (ai ((hM.oks 2).kept z) ((hM.oks 1).kept z)))) ht83) ?_
   rintro _ W82 ⟨A84,c85,rfl,hM_⟩
   replace hM:=hM.cg hM_
   refine .gq 4 ?_
   obtain rfl:=sj h
   exact .ret func28 ⟨A84,c85,rfl,(hM.pm [0] [])⟩
  refine .kn 53 c28<| .gq 3<| .at (show RL 28 f28 (shot_stealing.R r w) [1,1,1,1,1,1,1,1,1,0] [(0,.pointer (pa gp0)),(3,.slice Ap3 a3.length cp3),(5,.pointer (pa g2)),(11,.i x11_0),(14,.slice A23 t21.1.length c24),(16,.slice Ap2 a2.length cp2)] _ from .dr [] hM fun W87 hM=> ?_)
  refine .pz tr [0,1]<| .lv tr 2 hM 2 rfl 1 rfl<| .pz tr [3]<| .lv tr 4 hM 2 rfl 3 rfl<| .pz tr [5,6,7] ?_
  obtain ⟨c88,h⟩:=ifd h
  obtain ⟨c89,h⟩:=ifd h
  refine .ct tr 8 x11_0 (a3.length:Int) (hr3.mono hM.below) fun A90 c91 hs92=> ?_
  obtain ⟨t94,ht94,h⟩:=bs h
  refine .a1 tr 9<| .ca (steal_Tail.calls (hr2.mono hM.below) (hs92 _ (hr3.mono hM.below)) hp0 (zp hM hZp0) ht94) ?_
  rintro _ W93 ⟨A95,c96,rfl,hM_⟩
  refine .ca hM_ [] ?_
  replace hM:=hM.cg hM_
  refine .pz tr [10,11,12,13,14]<| .dn tr<| .gq 4 ?_
  obtain ⟨Fq98,hfq98,hM⟩:=hM.fs 1
  obtain ⟨Fq99,hfq99,hM⟩:=hM.fs 0
  have hqq100:Each2 ((rNums .u8) (andZ (Oks Fq98) (Oks Fq99))) [.slice A23 t21.1.length c24,.slice A95 t94.1.length c96] ([t21.1,t94.1]:Lj):=(.cons (rno (RdF.up hfq98 (fun _ z=>z.1)) (ai (hM.oks 1) (hM.oks 0))) (.cons (rno (RdF.up hfq99 (fun _ z=>z.2)) (ai (hM.oks 1) (hM.oks 0))) (Each2.nil _)))
  refine .new 22 1 2 ([.slice A23 t21.1.length c24,.slice A95 t94.1.length c96]) hM (fun g101 W102 hM=> ?_) rfl
  obtain ⟨Fq104,hfq104,hM⟩:=hM.fs 0
  obtain ⟨t106,ht106,h⟩:=bs h
  refine .ca (slices_Concat_byte_byte.calls ⟨_,_,_,rfl,(hfq104.up (fun _ z=>z.1)),(Each2.up (up_nums .u8) hqq100 (fun _ z=>(ai z.2.1 z.2.2)))⟩ (fun _ z=>(ai ((hM.oks 0).kept z) (ai ((hM.oks 2).kept z) ((hM.oks 1).kept z)))) ht106) ?_
  rintro _ W105 ⟨A107,c108,rfl,hM_⟩
  replace hM:=hM.cg hM_
  refine .gq 4 ?_
  obtain rfl:=sj h
  exact .ret func28 ⟨A107,c108,rfl,(hM.pm [0] [])⟩
 exact .at (l0 k k.le_refl 0 (hM.pm [0] []) h)
end Go.Scr.S

namespace Go.Scr.S
variable {k np0 cp0 np1 cp1 np2 cp2 np3 cp3 np4 cp4:Nat} {Ap0 Ap1 Ap2 Ap3 Ap4:Option Addr} {w w0:World} {FT:List Ent} {Zm Zp0 Zp1 Zp2 Zp3:Zp}
open Go.RowKit (Below)
open Go.Proofs.Tryz (prog f9 func9)
def shot_Shot.f (k:Nat) (a0:Int×Int×Int×Bool) (a1:Li) (a2:Li) (a3:Li):Option (Li×Int):=(shot_open.f k (a0.1,a0.2.1,a0.2.2.1,a0.2.2.2) a1 a2).bind fun t5=>(if (t5.2 != 0)=true then (some (([]:Li),t5.2)) else ((shot_kind.f k a0.2.1).bind fun t9=>(if (t9==3)=true then ((t5.1).bind fun s11=>((shot_stealing.f k s11 (a0.1,a0.2.1,a0.2.2.1,a0.2.2.2) a2 a3).bind fun t15=>(some (t15.1,t15.2)))) else (none))))
theorem shot_Shot.calls {a0:Int×Int×Int×Bool} {a1:Li} {a2:Li} {a3:Li} {r:Li×Int} (hr1:Rd w (.slice Ap1 np1 cp1) (nums .u8 a1)) (hr2:Rd w (.slice Ap2 np2 cp2) (nums .u8 a2)) (hr3:Rd w (.slice Ap3 np3 cp3) (nums .u8 a3)) (hG1:Rg w 1 (nums .u8 [1,2,4,8,16,32,64,128])) (h:shot_Shot.f k a0 a1 a2 a3=some r):Calls prog 9 #[.agg #[.i a0.1,.i a0.2.1,.i a0.2.2.1,.bool a0.2.2.2],(.slice Ap1 np1 cp1),(.slice Ap2 np2 cp2),(.slice Ap3 np3 cp3)] w (Ret fun v w'=> ∃A0' c0',v= .tuple #[.slice A0' r.1.length c0',.i r.2]∧Mem w w' (Gs [⟨.slice A0' r.1.length c0',5,1,nums .u8 r.1⟩] [])):=by
 obtain rfl:=hr1.ln
 obtain rfl:=hr2.ln
 obtain rfl:=hr3.ln
 unfold shot_Shot.f at h
 refine calls_S func9 ?_
 have hM:=Mem.r0 w
 refine .gq 2<| .nw 27 ([.i a0.1,.i a0.2.1,.i a0.2.2.1,.bool a0.2.2.2]) hM fun g1 W2 hM=> .gq 6<| .y (yl_ldp (g:=g1) (off:=0) 4 [.i a0.1,.i a0.2.1,.i a0.2.2.1,.bool a0.2.2.2] rfl) (fun i_ u_ hu_=>match i_,hu_ with | 0,h_=>(hM.var_at 0 rfl (i:=0) (u:=u_) h_).1 | 1,h_=>(hM.var_at 0 rfl (i:=1) (u:=u_) h_).1 | 2,h_=>(hM.var_at 0 rfl (i:=2) (u:=u_) h_).1 | 3,h_=>(hM.var_at 0 rfl (i:=3) (u:=u_) h_).1 | _+4,h_=>by cases h_)<| .gq 2 ?_
 obtain ⟨t5,ht5,h⟩:=bs h
 refine .ca (shot_open.calls (hr1.mono hM.below) (hr2.mono hM.below) (hG1.mono hM.below) ht5) ?_
 rintro _ W4 ⟨vt5_0,Ft5_0,rfl,hRt5_0,hM_⟩
 replace hM:=hM.cg hM_
 refine .gq 12 ?_
 rcases ift h with ⟨c6,h⟩ | ⟨c6,h⟩
 ·refine .kn 29 c6<| .gq 7 ?_
  replace hM:=hM.n1 5
  obtain rfl:=sj h
  exact .ret func9 ⟨none,0,rfl,(hM.pm [0] [])⟩
 refine .kn 29 c6<| .gq 6<| .lv hM 0 rfl 1 rfl ?_
 obtain ⟨t9,ht9,h⟩:=bs h
 refine .ca (shot_kind.calls ht9) ?_
 rintro _ W8 ⟨rfl,hM_⟩
 replace hM:=hM.cg hM_
 refine .gq 2 ?_
 obtain ⟨c10,h⟩:=ifs h
 refine .kn 34 c10<| .gq 4<| .y (yl_ldp (g:=g1) (off:=0) 4 [.i a0.1,.i a0.2.1,.i a0.2.2.1,.bool a0.2.2.2] rfl) (fun i_ u_ hu_=>match i_,hu_ with | 0,h_=>(hM.var_at 0 rfl (i:=0) (u:=u_) h_).1 | 1,h_=>(hM.var_at 0 rfl (i:=1) (u:=u_) h_).1 | 2,h_=>(hM.var_at 0 rfl (i:=2) (u:=u_) h_).1 | 3,h_=>(hM.var_at 0 rfl (i:=3) (u:=u_) h_).1 | _+4,h_=>by cases h_)<| .gq 2 ?_
 obtain ⟨s11,hx_,h⟩:=bs h
 have hps11:=rOpt.some hRt5_0 hx_
 obtain ⟨g12,_,rfl,hco13,_,uo13_1,rfl,rfl,ho13_1⟩:=id hps11
 obtain ⟨t15,ht15,h⟩:=bs h
 refine .ca (shot_stealing.calls (hr2.mono hM.below) (hr3.mono hM.below) hps11 (fun _ z=>((hM.oks 0).kept z)) ht15) ?_
 rintro _ W14 ⟨A16,c17,rfl,hM_⟩
 replace hM:=hM.cg hM_
 refine .gq 5 ?_
 obtain rfl:=sj h
 exact .ret func9 ⟨A16,c17,rfl,(hM.pm [0] [])⟩
end Go.Scr.S

namespace Go.Scr.S
variable {k np0 cp0 np1 cp1 np2 cp2 np3 cp3 np4 cp4:Nat} {Ap0 Ap1 Ap2 Ap3 Ap4:Option Addr} {w w0:World} {FT:List Ent} {Zm Zp0 Zp1 Zp2 Zp3:Zp}
open Go.RowKit (Below)
open Go.Proofs.Tryz (prog f11 func11)
def Rs_ctx_Ctx (Z:Zp) (cs:List Value) (x:Cx):Prop:= ∃(u0:Value) (u1:Value) (u2:Value) (u3:Value) (u4:Value) (u5:Value) (u6:Value) (u7:Value) (u8:Value) (u9:Value) (u10:Value),cs=[u0,u1,u2,u3,u4,u5,u6,u7,u8,u9,u10]∧rBool Z u0 x.1∧rBool Z u1 x.2.1∧(rInt .i64) Z u2 x.2.2.1∧(rInt .i64) Z u3 x.2.2.2.1∧(rInt .i64) Z u4 x.2.2.2.2.1∧rBool Z u5 x.2.2.2.2.2.1∧(rOpt (rPtr Rs_cipher_Cipher)) Z u6 x.2.2.2.2.2.2.1∧(rNums .u8) Z u7 x.2.2.2.2.2.2.2.1∧(rOpt (rPtr Rs_modes_Mode)) Z u8 x.2.2.2.2.2.2.2.2.1∧(rNums .u8) Z u9 x.2.2.2.2.2.2.2.2.2.1∧(rNums .u8) Z u10 x.2.2.2.2.2.2.2.2.2.2
theorem up_Rs_ctx_Ctx (Z Y:Zp) (cs:List Value) (x:Cx) (hs: ∀W,Y W→Z W):Rs_ctx_Ctx Z cs x→Rs_ctx_Ctx Y cs x:=fun ⟨u0,u1,u2,u3,u4,u5,u6,u7,u8,u9,u10,e,h0,h1,h2,h3,h4,h5,h6,h7,h8,h9,h10⟩=>⟨u0,u1,u2,u3,u4,u5,u6,u7,u8,u9,u10,e,up_bool _ _ _ _ hs h0,up_bool _ _ _ _ hs h1,(up_int .i64) _ _ _ _ hs h2,(up_int .i64) _ _ _ _ hs h3,(up_int .i64) _ _ _ _ hs h4,up_bool _ _ _ _ hs h5,upc _ _ _ _ hs h6,upn hs h7,(up_opt (up_ptr up_Rs_modes_Mode)) _ _ _ _ hs h8,upn hs h9,upn hs h10⟩
def MxA_ctx_Ctx (Z:Zp) (vx8:Value) (vx9:Value) (cs:List Value) (x:(Bool×Bool×Int×Int×Int×Bool×(Option Ci)×Li×Mo×Li×Li)):Prop:= ∃(u0:Value) (u1:Value) (u2:Value) (u3:Value) (u4:Value) (u5:Value) (u6:Value) (u7:Value) (u10:Value),cs=[u0,u1,u2,u3,u4,u5,u6,u7,vx8,vx9,u10]∧rBool Z u0 x.1∧rBool Z u1 x.2.1∧(rInt .i64) Z u2 x.2.2.1∧(rInt .i64) Z u3 x.2.2.2.1∧(rInt .i64) Z u4 x.2.2.2.2.1∧rBool Z u5 x.2.2.2.2.2.1∧(rOpt (rPtr Rs_cipher_Cipher)) Z u6 x.2.2.2.2.2.2.1∧(rNums .u8) Z u7 x.2.2.2.2.2.2.2.1∧(rNums .u8) Z u10 x.2.2.2.2.2.2.2.2.2.2
theorem up_MxA_ctx_Ctx (Z Y:Zp) (vx8:Value) (vx9:Value) (cs:List Value) (x:(Bool×Bool×Int×Int×Int×Bool×(Option Ci)×Li×Mo×Li×Li)) (hs: ∀W,Y W→Z W):MxA_ctx_Ctx Z vx8 vx9 cs x→MxA_ctx_Ctx Y vx8 vx9 cs x:=fun ⟨u0,u1,u2,u3,u4,u5,u6,u7,u10,e,h0,h1,h2,h3,h4,h5,h6,h7,h10⟩=>⟨u0,u1,u2,u3,u4,u5,u6,u7,u10,e,up_bool _ _ _ _ hs h0,up_bool _ _ _ _ hs h1,(up_int .i64) _ _ _ _ hs h2,(up_int .i64) _ _ _ _ hs h3,(up_int .i64) _ _ _ _ hs h4,up_bool _ _ _ _ hs h5,upc _ _ _ _ hs h6,upn hs h7,upn hs h10⟩
def ctx_New.f (k:Nat):Option Cx:=some (false,false,0,0,0,false,none,([]:Li),none,([]:Li),([]:Li))
theorem ctx_New.calls {r:Cx} (h:ctx_New.f k=some r):Calls prog 11 #[] w (Ret fun v w'=> ∃(g0':Nat) (cs0':List Value) (F0':List Ent),v= .pointer (some ⟨g0',0,none⟩)∧Rs_ctx_Ctx (Oks F0') cs0' r∧Mem w w' (Gs [⟨.pointer (some ⟨g0',0,none⟩),72,0,cs0'⟩] [F0'])):=by
 unfold ctx_New.f at h
 refine calls_S func11 ?_
 have hM:=Mem.r0 w
 refine .gq 7<| .nw 72 ([.bool false,.bool false,.i 0,.i 0,.i 0,.bool false,.pointer none,.slice none 0 0,.pointer none,.slice none 0 0,.slice none 0 0]) hM fun g1 W2 hM=> .gq 2 ?_
 obtain rfl:=sj h
 exact .ret func11 ⟨g1,[.bool false,.bool false,.i 0,.i 0,.i 0,.bool false,.pointer none,.slice none 0 0,.pointer none,.slice none 0 0,.slice none 0 0],([]:List Ent),rfl,⟨_,_,_,_,_,_,_,_,_,_,_,rfl,rfl,rfl,rfl,rfl,rfl,rfl,(.inl ⟨rfl,rfl⟩),⟨_,_,rfl,fun _ _=>Rd.nil _ _⟩,(.inl ⟨rfl,rfl⟩),⟨_,_,rfl,fun _ _=>Rd.nil _ _⟩,⟨_,_,rfl,fun _ _=>Rd.nil _ _⟩⟩,(hM.pm [0] [[]])⟩
end Go.Scr.S

namespace Go.Scr.S
variable {k np0 cp0 np1 cp1 np2 cp2 np3 cp3 np4 cp4:Nat} {Ap0 Ap1 Ap2 Ap3 Ap4:Option Addr} {w w0:World} {FT:List Ent} {Zm Zp0 Zp1 Zp2 Zp3:Zp}
open Go.RowKit (Below)
open Go.Proofs.Tryz (prog f48 func48 f49 func49 f87 func87 f88 func88)
def ctx_refuse.f (k:Nat) (a0:Int):Option (Unit):=if (a0 != 0)=true then (none) else (some ())
theorem ctx_refuse.calls {a0:Int} {r:Unit} (h:ctx_refuse.f k a0=some r):Calls prog 88 #[.i a0] w (Ret fun v w'=>v= .tuple #[]∧Mem w w' (Gs [] [])):=by
 unfold ctx_refuse.f at h
 refine calls_S func88 ?_
 have hM:=Mem.r0 w
 refine .gq 5 ?_
 obtain ⟨c1,h⟩:=ifz h
 refine .kn 3 c1<| .gq 2 ?_
 obtain rfl:=sj h
 exact .ret func88 ⟨rfl,(hM.pm [] [])⟩
def ctx_Ctx_need.f (k:Nat) (a0:Cx):Option (Unit):=if (!a0.2.1)=true then ((ctx_refuse.f k 6).bind fun t4=>(some ())) else (some ())
theorem ctx_Ctx_need.calls {vp0:Value} {a0:Cx} {r:Unit} (hp0:(rPtr Rs_ctx_Ctx) Zp0 vp0 a0) (hZp0: ∀W,Kept w W→Zp0 W) (h:ctx_Ctx_need.f k a0=some r):Calls prog 48 #[vp0] w (Ret fun v w'=>v= .tuple #[]∧Mem w w' (Gs [] [])):=by
 obtain ⟨gp0,_,rfl,hco1,_,_,_,_,_,_,uo1_6,_,uo1_8,_,_,rfl,rfl,rfl,rfl,rfl,rfl,rfl,ho1_6,⟨Ao1_7,co1_7,rfl,ho1_7⟩,ho1_8,⟨Ao1_9,co1_9,rfl,ho1_9⟩,⟨Ao1_10,co1_10,rfl,ho1_10⟩⟩:=id hp0
 unfold ctx_Ctx_need.f at h
 refine calls_S func48 ?_
 have hM:=Mem.r0 w
 refine .gq 5<| .ld (hco1 _ (hZp0 _ hM.kept) 1 _ rfl)<| .gq 2 ?_
 rcases ift h with ⟨c2,h⟩ | ⟨c2,h⟩
 ·refine .kn 6 c2<| .gq 2 ?_
  obtain ⟨t4,ht4,h⟩:=bs h
  refine .ca (ctx_refuse.calls ht4) ?_
  rintro _ W3 ⟨rfl,hM_⟩
  replace hM:=hM.cg hM_
  refine .gq 1 ?_
  obtain rfl:=sj h
  exact .ret func48 ⟨rfl,(hM.pm [] [])⟩
 refine .kn 6 c2<| .gq 2 ?_
 obtain rfl:=sj h
 exact .ret func48 ⟨rfl,(hM.pm [] [])⟩
def ctx_Ctx_stolen.f (k:Nat) (a0:Cx):Option (Bool):=if (decide (a0.2.2.2.1≥7))=true then (some (decide (a0.2.2.2.1≤9))) else (some false)
theorem ctx_Ctx_stolen.calls {vp0:Value} {a0:Cx} {r:Bool} (hp0:(rPtr Rs_ctx_Ctx) Zp0 vp0 a0) (hZp0: ∀W,Kept w W→Zp0 W) (h:ctx_Ctx_stolen.f k a0=some r):Calls prog 87 #[vp0] w (Ret fun v w'=>v= .bool r∧Mem w w' (Gs [] [])):=by
 obtain ⟨gp0,_,rfl,hco1,_,_,_,_,_,_,uo1_6,_,uo1_8,_,_,rfl,rfl,rfl,rfl,rfl,rfl,rfl,ho1_6,⟨Ao1_7,co1_7,rfl,ho1_7⟩,ho1_8,⟨Ao1_9,co1_9,rfl,ho1_9⟩,⟨Ao1_10,co1_10,rfl,ho1_10⟩⟩:=id hp0
 unfold ctx_Ctx_stolen.f at h
 refine calls_S func87 ?_
 have hM:=Mem.r0 w
 refine .gq 10<| .ld (hco1 _ (hZp0 _ hM.kept) 3 _ rfl)<| .gq 2 ?_
 rcases ift h with ⟨c2,h⟩ | ⟨c2,h⟩
 ·refine .kn 9 c2<| .gq 4<| .ld (hco1 _ (hZp0 _ hM.kept) 3 _ rfl)<| .gq 4 ?_
  obtain rfl:=sj h
  exact .ret func87 ⟨rfl,(hM.pm [] [])⟩
 refine .kn 9 c2<| .gq 9 ?_
 obtain rfl:=sj h
 exact .ret func87 ⟨rfl,(hM.pm [] [])⟩
def ctx_Ctx_most.f (k:Nat) (a0:Cx):Option (Int):=(a0.2.2.2.2.2.2.1).bind fun s2=>((cipher_Cipher_Size.f k s2).bind fun t6=>((a0.2.2.2.2.2.2.2.2.1).bind fun s7=>((modes_Mode_Grain.f k s7).bind fun t11=>(if (t11==1)=true then (some 0) else ((ctx_Ctx_stolen.f k a0).bind fun t14=>(if t14=true then (some (I64 (2*t6))) else (if (a0.2.2.2.2.1 != 4)=true then (if a0.2.2.2.2.2.1=true then (some t6) else (some (I64 (t6-1)))) else (some (I64 (t6-1))))))))))
theorem ctx_Ctx_most.calls {vp0:Value} {a0:Cx} {r:Int} (hp0:(rPtr Rs_ctx_Ctx) Zp0 vp0 a0) (hZp0: ∀W,Kept w W→Zp0 W) (h:ctx_Ctx_most.f k a0=some r):Calls prog 49 #[vp0] w (Ret fun v w'=>v= .i r∧Mem w w' (Gs [] [])):=by
 obtain ⟨gp0,_,rfl,hco1,_,_,_,_,_,_,uo1_6,_,uo1_8,_,_,rfl,rfl,rfl,rfl,rfl,rfl,rfl,ho1_6,⟨Ao1_7,co1_7,rfl,ho1_7⟩,ho1_8,⟨Ao1_9,co1_9,rfl,ho1_9⟩,⟨Ao1_10,co1_10,rfl,ho1_10⟩⟩:=id hp0
 unfold ctx_Ctx_most.f at h
 refine calls_S func49 ?_
 have hM:=Mem.r0 w
 refine .gq 9<| .ld (hco1 _ (hZp0 _ hM.kept) 6 _ rfl) ?_
 obtain ⟨s2,hx_,h⟩:=bs h
 have hps2:=rOpt.some ho1_6 hx_
 obtain ⟨g3,_,rfl,hco4,_,uo4_1,rfl,rfl,ho4_1⟩:=id hps2
 obtain ⟨t6,ht6,h⟩:=bs h
 refine .ca (cipher_Cipher_Size.calls hps2 (zp hM hZp0) ht6) ?_
 rintro _ W5 ⟨rfl,hM_⟩
 replace hM:=hM.cg hM_
 refine .gq 9<| .ld (hco1 _ (hZp0 _ hM.kept) 8 _ rfl) ?_
 obtain ⟨s7,hx_,h⟩:=bs h
 have hps7:=rOpt.some ho1_8 hx_
 obtain ⟨g8,_,rfl,hco9,uo9_0,_,_,_,_,_,rfl,ho9_0,rfl,rfl,⟨Ao9_3,co9_3,rfl,ho9_3⟩,⟨Ao9_4,co9_4,rfl,ho9_4⟩,⟨Ao9_5,co9_5,rfl,ho9_5⟩⟩:=id hps7
 obtain ⟨t11,ht11,h⟩:=bs h
 refine .ca (modes_Mode_Grain.calls hps7 (zp hM hZp0) ht11) ?_
 rintro _ W10 ⟨rfl,hM_⟩
 replace hM:=hM.cg hM_
 refine .gq 3 ?_
 rcases ift h with ⟨c12,h⟩ | ⟨c12,h⟩
 ·refine .kn 9 c12<| .gq 5 ?_
  obtain rfl:=sj h
  exact .ret func49 ⟨rfl,(hM.pm [] [])⟩
 refine .kn 9 c12<| .gq 4 ?_
 obtain ⟨t14,ht14,h⟩:=bs h
 refine .ca (ctx_Ctx_stolen.calls hp0 (zp hM hZp0) ht14) ?_
 rintro _ W13 ⟨rfl,hM_⟩
 replace hM:=hM.cg hM_
 refine .gq 2 ?_
 rcases ift h with ⟨c15,h⟩ | ⟨c15,h⟩
 ·refine .kn 16 c15<| .gq 7 ?_
  obtain rfl:=sj h
  exact .ret func49 ⟨rfl,(hM.pm [] [])⟩
 refine .kn 16 c15<| .gq 7<| .ld (hco1 _ (hZp0 _ hM.kept) 4 _ rfl)<| .gq 2 ?_
 rcases ift h with ⟨c16,h⟩ | ⟨c16,h⟩
 ·refine .kn 28 c16<| .gq 4<| .ld (hco1 _ (hZp0 _ hM.kept) 5 _ rfl)<| .gq 3 ?_
  rcases ift h with ⟨c17,h⟩ | ⟨c17,h⟩
  ·refine .kn 21 c17<| .gq 6 ?_
   obtain rfl:=sj h
   exact .ret func49 ⟨rfl,(hM.pm [] [])⟩
  refine .kn 21 c17<| .gq 9 ?_
  obtain rfl:=sj h
  exact .ret func49 ⟨rfl,(hM.pm [] [])⟩
 refine .kn 28 c16<| .gq 17 ?_
 obtain rfl:=sj h
 exact .ret func49 ⟨rfl,(hM.pm [] [])⟩
end Go.Scr.S

namespace Go.Scr.S
variable {k np0 cp0 np1 cp1 np2 cp2 np3 cp3 np4 cp4:Nat} {Ap0 Ap1 Ap2 Ap3 Ap4:Option Addr} {w w0:World} {FT:List Ent} {Zm Zp0 Zp1 Zp2 Zp3:Zp}
open Go.RowKit (Below)
open Go.Proofs.Tryz (prog f45 func45)
def ctx_Ctx_begin.f (k:Nat) (a0:Cx):Option ((Bool×Bool×Int×Int×Int×Bool×(Option Ci)×Li×Mo×Li×Li)):=(ctx_Ctx_stolen.f k (a0.1,a0.2.1,a0.2.2.1,a0.2.2.2.1,a0.2.2.2.2.1,a0.2.2.2.2.2.1,a0.2.2.2.2.2.2.1,a0.2.2.2.2.2.2.2.1,a0.2.2.2.2.2.2.2.2.1,a0.2.2.2.2.2.2.2.2.2.1,a0.2.2.2.2.2.2.2.2.2.2)).bind fun t4=>(if t4=true then ((a0.2.2.2.2.2.2.1).bind fun s9=>((modes_New.f k s9 2 a0.2.2.2.2.2.1 a0.2.2.2.2.2.2.2.1).bind fun t13=>((slices_Clone_byte_byte.f k a0.2.2.2.2.2.2.2.1).bind fun t18=>(some (a0.1,true,a0.2.2.1,a0.2.2.2.1,a0.2.2.2.2.1,a0.2.2.2.2.2.1,(some s9),a0.2.2.2.2.2.2.2.1,(t13.1.1,t13.1.2.1,t13.1.2.2.1,t13.1.2.2.2.1,t13.1.2.2.2.2.1,t13.1.2.2.2.2.2),([]:Li),t18))))) else ((a0.2.2.2.2.2.2.1).bind fun s42=>((modes_New.f k s42 a0.2.2.2.1 a0.2.2.2.2.2.1 a0.2.2.2.2.2.2.2.1).bind fun t46=>((slices_Clone_byte_byte.f k a0.2.2.2.2.2.2.2.1).bind fun t51=>(some (a0.1,true,a0.2.2.1,a0.2.2.2.1,a0.2.2.2.2.1,a0.2.2.2.2.2.1,(some s42),a0.2.2.2.2.2.2.2.1,(t46.1.1,t46.1.2.1,t46.1.2.2.1,t46.1.2.2.2.1,t46.1.2.2.2.2.1,t46.1.2.2.2.2.2),([]:Li),t51))))))
abbrev ctx_Ctx_begin.R (gp0:Nat) (r:(Bool×Bool×Int×Int×Int×Bool×(Option Ci)×Li×Mo×Li×Li)) (w0:World) (FT:List Ent) (Zm:Zp):Value→World→Prop:=fun v w'=> ∃(cs':List Value) (F':List Ent) (gq8':Nat) (csq8':List Value) (Aq9':Option Addr) (nq9' cq9':Nat),v= .tuple #[]∧MxA_ctx_Ctx (andZ (Oks F') Zm) (.pointer (some ⟨gq8',0,none⟩)) (.slice Aq9' nq9' cq9') cs' r∧Rs_modes_Mode (andZ (Oks F') Zm) csq8' r.2.2.2.2.2.2.2.2.1∧Mem w0 w' (Gs [⟨.pointer (pa gp0),72,0,cs'⟩,⟨(.pointer (some ⟨gq8',0,none⟩)),100,0,csq8'⟩,⟨(.slice Aq9' nq9' cq9'),5,1,nums .u8 r.2.2.2.2.2.2.2.2.2.1⟩] [F',FT])
theorem ctx_Ctx_begin.calls {gp0:Nat} {csp0:List Value} {a0:Cx} {r:(Bool×Bool×Int×Int×Int×Bool×(Option Ci)×Li×Mo×Li×Li)} (hp0:Rs_ctx_Ctx Zm csp0 a0) (hZm: ∀W,Kept w0 W→Oks FT W→Zm W) (hM0:Mem w0 w (Gs [⟨.pointer (pa gp0),72,0,csp0⟩] [FT])) (h:ctx_Ctx_begin.f k a0=some r):Calls prog 45 #[.pointer (pa gp0)] w (Ret (ctx_Ctx_begin.R gp0 r w0 FT Zm)):=by
 obtain ⟨_,_,_,_,_,_,uo2_6,_,uo2_8,_,_,rfl,rfl,rfl,rfl,rfl,rfl,rfl,ho2_6,⟨Ao2_7,co2_7,rfl,ho2_7⟩,ho2_8,⟨Ao2_9,co2_9,rfl,ho2_9⟩,⟨Ao2_10,co2_10,rfl,ho2_10⟩⟩:=hp0
 unfold ctx_Ctx_begin.f at h
 refine calls_S func45 ?_
 have hM:=hM0
 refine .gq 6<| .lv hM 0 rfl 3 rfl<| .gq 6 ?_
 obtain ⟨t4,ht4,h⟩:=bs h
 refine .ca (ctx_Ctx_stolen.calls (Zp0:=Kept w) (a0:=(a0.1,a0.2.1,a0.2.2.1,a0.2.2.2.1,a0.2.2.2.2.1,a0.2.2.2.2.2.1,a0.2.2.2.2.2.2.1,a0.2.2.2.2.2.2.2.1,a0.2.2.2.2.2.2.2.2.1,a0.2.2.2.2.2.2.2.2.2.1,a0.2.2.2.2.2.2.2.2.2.2)) ⟨gp0,_,rfl,(hM.cellsKept 0 rfl),_,_,_,_,_,_,_,_,_,_,_,rfl,rfl,rfl,rfl,rfl,rfl,rfl,(upc _ _ _ _ (zk hM hZm 0) ho2_6),(upn (zk hM hZm 0) (rno ho2_7 (zl hM hZm 0))),((up_opt (up_ptr up_Rs_modes_Mode)) _ _ _ _ (zk hM hZm 0) ho2_8),(upn (zk hM hZm 0) (rno ho2_9 (zl hM hZm 0))),(upn (zk hM hZm 0) (rno ho2_10 (zl hM hZm 0)))⟩ (fun _ h_=>h_) ht4) ?_
 rintro _ W3 ⟨rfl,hM_⟩
 replace hM:=hM.cg hM_
 refine .gq 1 ?_
 rcases ift h with ⟨c5,h⟩ | ⟨c5,h⟩
 ·refine .kn 9 c5<| .gq 5<| .at (show RL 45 f45 (ctx_Ctx_begin.R gp0 r w0 FT Zm) [1,1,0] [(0,.pointer (pa gp0)),(2,.i 2)] _ from .dr [0] hM fun W6 hM=> ?_)
  refine .pz tr [0,1,2,3,5,6,7,8,9,11,12,13] ?_
  have J7:RJ 45 f45 (ctx_Ctx_begin.R gp0 r w0 FT Zm) [1,1,0] w0 [⟨.pointer (pa gp0),72,0,[.bool a0.1,.bool a0.2.1,.i a0.2.2.1,.i a0.2.2.2.1,.i a0.2.2.2.2.1,.bool a0.2.2.2.2.2.1,uo2_6,.slice Ao2_7 a0.2.2.2.2.2.2.2.1.length co2_7,uo2_8,.slice Ao2_9 a0.2.2.2.2.2.2.2.2.2.1.length co2_9,.slice Ao2_10 a0.2.2.2.2.2.2.2.2.2.2.length co2_10]⟩] [FT] [0] ([0,1,2,3,5,6,7,8,9,11,12,13,4,10,14],[(0,.pointer (pa gp0)),(2,.i 2),(11,.pointer (pa gp0)),(15,uo2_6),(16,.i 2),(21,.bool a0.2.2.2.2.2.1),(25,.slice Ao2_7 a0.2.2.2.2.2.2.2.1.length co2_7)]):=by
   intro W8 hM
   obtain ⟨s9,hx_,h⟩:=bs h
   have hps9:=rOpt.some ho2_6 hx_
   obtain ⟨g10,_,rfl,hco11,_,uo11_1,rfl,rfl,ho11_1⟩:=id hps9
   obtain ⟨t13,ht13,h⟩:=bs h
   refine .a1 tr 15<| .ca (modes_New.calls (ho2_7 _ (zl hM hZm 0)) hps9 (zk hM hZm 0) ht13) ?_
   rintro _ W12 ⟨gt13_0,cst13_0,Ft13_0,rfl,hRt13_0,hM_⟩
   obtain ⟨uo14_0,_,_,_,_,_,rfl,ho14_0,rfl,rfl,⟨Ao14_3,co14_3,rfl,ho14_3⟩,⟨Ao14_4,co14_4,rfl,ho14_4⟩,⟨Ao14_5,co14_5,rfl,ho14_5⟩⟩:=hRt13_0
   refine .ca hM_ [1] ?_
   replace hM:=hM.cg hM_
   refine .pz tr [16,17,18,19,20]<| .a1 tr 21<| .vf 8 (.pointer (pa gt13_0)) hM 1 rfl fun W16 hM=> .dn tr<| .gq 7<| .lv hM 1 rfl 7 rfl ?_
   obtain ⟨t18,ht18,h⟩:=bs h
   refine .ca (slices_Clone_byte_byte.calls (ho2_7 _ (zl hM hZm 1)) ht18) ?_
   rintro _ W17 ⟨A19,c20,rfl,hM_⟩
   replace hM:=hM.cg hM_
   refine .gq 2<| .vf 1 (.bool true) hM 2 rfl fun W22 hM=> .gq 2<| .vf 9 (.slice none 0 0) hM 2 rfl fun W23 hM=> .gq 2<| .vf 10 (.slice A19 t18.length c20) hM 2 rfl fun W24 hM=> .gq 1 ?_
   replace hM:=hM.n1 5
   obtain ⟨Fq26,hfq26,hM⟩:=hM.fs 1
   obtain rfl:=sj h
   exact .ret func45 ⟨[.bool a0.1,.bool true,.i a0.2.2.1,.i a0.2.2.2.1,.i a0.2.2.2.2.1,.bool a0.2.2.2.2.2.1,.pointer (pa g10),.slice Ao2_7 a0.2.2.2.2.2.2.2.1.length co2_7,.pointer (pa gt13_0),.slice none 0 0,.slice A19 t18.length c20],(List.flatten [Fq26,Ft13_0]),gt13_0,[uo14_0,.i t13.1.2.1,.bool t13.1.2.2.1,.slice Ao14_3 t13.1.2.2.2.1.length co14_3,.slice Ao14_4 t13.1.2.2.2.2.1.length co14_4,.slice Ao14_5 t13.1.2.2.2.2.2.length co14_5],none,0,0,rfl,⟨_,_,_,_,_,_,_,_,_,rfl,rfl,rfl,rfl,rfl,rfl,rfl,(upc _ _ _ _ (fun _ z=>z.2) (.inr ⟨s9,rfl,hps9⟩)),(upn (fun _ z=>z.2) (rno ho2_7 (zl hM hZm 2))),(upn (fun _ z=>(Oks.g z.1 0 rfl)) (rno hfq26 (hM.oks 0)))⟩,⟨_,_,_,_,_,_,rfl,(upc _ _ _ _ (fun _ z=>(ai (Oks.g z.1 1 rfl) z.2)) ho14_0),rfl,rfl,(upn (fun _ z=>(ai (Oks.g z.1 1 rfl) z.2)) (rno ho14_3 (ai (hM.oks 1) (zl hM hZm 2)))),(upn (fun _ z=>(ai (Oks.g z.1 1 rfl) z.2)) (rno ho14_4 (ai (hM.oks 1) (zl hM hZm 2)))),(upn (fun _ z=>(ai (Oks.g z.1 1 rfl) z.2)) (rno ho14_5 (ai (hM.oks 1) (zl hM hZm 2))))⟩,(hM.pm [2,1,0] [[0,1],[2]])⟩
  have J27:RJ 45 f45 (ctx_Ctx_begin.R gp0 r w0 FT Zm) [1,1,0] w0 [⟨.pointer (pa gp0),72,0,[.bool a0.1,.bool a0.2.1,.i a0.2.2.1,.i a0.2.2.2.1,.i a0.2.2.2.2.1,.bool a0.2.2.2.2.2.1,uo2_6,.slice Ao2_7 a0.2.2.2.2.2.2.2.1.length co2_7,uo2_8,.slice Ao2_9 a0.2.2.2.2.2.2.2.2.2.1.length co2_9,.slice Ao2_10 a0.2.2.2.2.2.2.2.2.2.2.length co2_10]⟩] [FT] [0] ([0,1,2,3,5,6,7,8,9,11,12,13,10,14],[(0,.pointer (pa gp0)),(2,.i 2),(11,.pointer (pa gp0)),(14,.pointer (some ⟨gp0,6,none⟩)),(16,.i 2),(21,.bool a0.2.2.2.2.2.1),(25,.slice Ao2_7 a0.2.2.2.2.2.2.2.1.length co2_7)]):=by
   intro W28 hM
   exact .a1 tr 4<| .lv hM 0 rfl 6 rfl<| .jn hM [0] [[0]] (J7) rfl rfl
  have J29:RJ 45 f45 (ctx_Ctx_begin.R gp0 r w0 FT Zm) [1,1,0] w0 [⟨.pointer (pa gp0),72,0,[.bool a0.1,.bool a0.2.1,.i a0.2.2.1,.i a0.2.2.2.1,.i a0.2.2.2.2.1,.bool a0.2.2.2.2.2.1,uo2_6,.slice Ao2_7 a0.2.2.2.2.2.2.2.1.length co2_7,uo2_8,.slice Ao2_9 a0.2.2.2.2.2.2.2.2.2.1.length co2_9,.slice Ao2_10 a0.2.2.2.2.2.2.2.2.2.2.length co2_10]⟩] [FT] [0] ([0,1,2,3,5,6,7,8,9,11,12,13,4,14],[(0,.pointer (pa gp0)),(2,.i 2),(11,.pointer (pa gp0)),(15,uo2_6),(16,.i 2),(20,.pointer (some ⟨gp0,5,none⟩)),(25,.slice Ao2_7 a0.2.2.2.2.2.2.2.1.length co2_7)]):=by
   intro W30 hM
   exact .a1 tr 10<| .lv hM 0 rfl 5 rfl<| .jn hM [0] [[0]] (J7) rfl rfl
  have J31:RJ 45 f45 (ctx_Ctx_begin.R gp0 r w0 FT Zm) [1,1,0] w0 [⟨.pointer (pa gp0),72,0,[.bool a0.1,.bool a0.2.1,.i a0.2.2.1,.i a0.2.2.2.1,.i a0.2.2.2.2.1,.bool a0.2.2.2.2.2.1,uo2_6,.slice Ao2_7 a0.2.2.2.2.2.2.2.1.length co2_7,uo2_8,.slice Ao2_9 a0.2.2.2.2.2.2.2.2.2.1.length co2_9,.slice Ao2_10 a0.2.2.2.2.2.2.2.2.2.2.length co2_10]⟩] [FT] [0] ([0,1,2,3,5,6,7,8,9,11,12,13,4,10],[(0,.pointer (pa gp0)),(2,.i 2),(11,.pointer (pa gp0)),(15,uo2_6),(16,.i 2),(21,.bool a0.2.2.2.2.2.1),(24,.pointer (some ⟨gp0,7,none⟩))]):=by
   intro W32 hM
   exact .a1 tr 14<| .lv hM 0 rfl 7 rfl<| .jn hM [0] [[0]] (J7) rfl rfl
  have J33:RJ 45 f45 (ctx_Ctx_begin.R gp0 r w0 FT Zm) [1,1,0] w0 [⟨.pointer (pa gp0),72,0,[.bool a0.1,.bool a0.2.1,.i a0.2.2.1,.i a0.2.2.2.1,.i a0.2.2.2.2.1,.bool a0.2.2.2.2.2.1,uo2_6,.slice Ao2_7 a0.2.2.2.2.2.2.2.1.length co2_7,uo2_8,.slice Ao2_9 a0.2.2.2.2.2.2.2.2.2.1.length co2_9,.slice Ao2_10 a0.2.2.2.2.2.2.2.2.2.2.length co2_10]⟩] [FT] [0] ([0,1,2,3,5,6,7,8,9,11,12,13,14],[(0,.pointer (pa gp0)),(2,.i 2),(11,.pointer (pa gp0)),(14,.pointer (some ⟨gp0,6,none⟩)),(16,.i 2),(20,.pointer (some ⟨gp0,5,none⟩)),(25,.slice Ao2_7 a0.2.2.2.2.2.2.2.1.length co2_7)]):=by
   intro W34 hM
   refine .a2 tr 4 10 ?_ ?_
   ·exact .lv hM 0 rfl 6 rfl<| .jn hM [0] [[0]] (J29) rfl rfl
   ·exact .lv hM 0 rfl 5 rfl<| .jn hM [0] [[0]] (J27) rfl rfl
  have J35:RJ 45 f45 (ctx_Ctx_begin.R gp0 r w0 FT Zm) [1,1,0] w0 [⟨.pointer (pa gp0),72,0,[.bool a0.1,.bool a0.2.1,.i a0.2.2.1,.i a0.2.2.2.1,.i a0.2.2.2.2.1,.bool a0.2.2.2.2.2.1,uo2_6,.slice Ao2_7 a0.2.2.2.2.2.2.2.1.length co2_7,uo2_8,.slice Ao2_9 a0.2.2.2.2.2.2.2.2.2.1.length co2_9,.slice Ao2_10 a0.2.2.2.2.2.2.2.2.2.2.length co2_10]⟩] [FT] [0] ([0,1,2,3,5,6,7,8,9,11,12,13,10],[(0,.pointer (pa gp0)),(2,.i 2),(11,.pointer (pa gp0)),(14,.pointer (some ⟨gp0,6,none⟩)),(16,.i 2),(21,.bool a0.2.2.2.2.2.1),(24,.pointer (some ⟨gp0,7,none⟩))]):=by
   intro W36 hM
   refine .a2 tr 4 14 ?_ ?_
   ·exact .lv hM 0 rfl 6 rfl<| .jn hM [0] [[0]] (J31) rfl rfl
   ·exact .lv hM 0 rfl 7 rfl<| .jn hM [0] [[0]] (J27) rfl rfl
  have J37:RJ 45 f45 (ctx_Ctx_begin.R gp0 r w0 FT Zm) [1,1,0] w0 [⟨.pointer (pa gp0),72,0,[.bool a0.1,.bool a0.2.1,.i a0.2.2.1,.i a0.2.2.2.1,.i a0.2.2.2.2.1,.bool a0.2.2.2.2.2.1,uo2_6,.slice Ao2_7 a0.2.2.2.2.2.2.2.1.length co2_7,uo2_8,.slice Ao2_9 a0.2.2.2.2.2.2.2.2.2.1.length co2_9,.slice Ao2_10 a0.2.2.2.2.2.2.2.2.2.2.length co2_10]⟩] [FT] [0] ([0,1,2,3,5,6,7,8,9,11,12,13,4],[(0,.pointer (pa gp0)),(2,.i 2),(11,.pointer (pa gp0)),(15,uo2_6),(16,.i 2),(20,.pointer (some ⟨gp0,5,none⟩)),(24,.pointer (some ⟨gp0,7,none⟩))]):=by
   intro W38 hM
   refine .a2 tr 10 14 ?_ ?_
   ·exact .lv hM 0 rfl 5 rfl<| .jn hM [0] [[0]] (J31) rfl rfl
   ·exact .lv hM 0 rfl 7 rfl<| .jn hM [0] [[0]] (J29) rfl rfl
  refine .a3 tr 4 10 14 ?_ ?_ ?_
  ·exact .lv hM 0 rfl 6 rfl<| .jn hM [0] [[0]] (J37) rfl rfl
  ·exact .lv hM 0 rfl 5 rfl<| .jn hM [0] [[0]] (J35) rfl rfl
  ·exact .lv hM 0 rfl 7 rfl<| .jn hM [0] [[0]] (J33) rfl rfl
 refine .kn 9 c5<| .gq 3<| .at (show RL 45 f45 (ctx_Ctx_begin.R gp0 r w0 FT Zm) [1,1,0] [(0,.pointer (pa gp0)),(2,.i a0.2.2.2.1)] _ from .dr [0] hM fun W39 hM=> ?_)
 refine .pz tr [0,1,2,3,5,6,7,8,9,11,12,13] ?_
 have J40:RJ 45 f45 (ctx_Ctx_begin.R gp0 r w0 FT Zm) [1,1,0] w0 [⟨.pointer (pa gp0),72,0,[.bool a0.1,.bool a0.2.1,.i a0.2.2.1,.i a0.2.2.2.1,.i a0.2.2.2.2.1,.bool a0.2.2.2.2.2.1,uo2_6,.slice Ao2_7 a0.2.2.2.2.2.2.2.1.length co2_7,uo2_8,.slice Ao2_9 a0.2.2.2.2.2.2.2.2.2.1.length co2_9,.slice Ao2_10 a0.2.2.2.2.2.2.2.2.2.2.length co2_10]⟩] [FT] [0] ([0,1,2,3,5,6,7,8,9,11,12,13,4,10,14],[(0,.pointer (pa gp0)),(2,.i a0.2.2.2.1),(11,.pointer (pa gp0)),(15,uo2_6),(16,.i a0.2.2.2.1),(21,.bool a0.2.2.2.2.2.1),(25,.slice Ao2_7 a0.2.2.2.2.2.2.2.1.length co2_7)]):=by
  intro W41 hM
  obtain ⟨s42,hx_,h⟩:=bs h
  have hps42:=rOpt.some ho2_6 hx_
  obtain ⟨g43,_,rfl,hco44,_,uo44_1,rfl,rfl,ho44_1⟩:=id hps42
  obtain ⟨t46,ht46,h⟩:=bs h
  refine .a1 tr 15<| .ca (modes_New.calls (ho2_7 _ (zl hM hZm 0)) hps42 (zk hM hZm 0) ht46) ?_
  rintro _ W45 ⟨gt46_0,cst46_0,Ft46_0,rfl,hRt46_0,hM_⟩
  obtain ⟨uo47_0,_,_,_,_,_,rfl,ho47_0,rfl,rfl,⟨Ao47_3,co47_3,rfl,ho47_3⟩,⟨Ao47_4,co47_4,rfl,ho47_4⟩,⟨Ao47_5,co47_5,rfl,ho47_5⟩⟩:=hRt46_0
  refine .ca hM_ [1] ?_
  replace hM:=hM.cg hM_
  refine .pz tr [16,17,18,19,20]<| .a1 tr 21<| .vf 8 (.pointer (pa gt46_0)) hM 1 rfl fun W49 hM=> .dn tr<| .gq 7<| .lv hM 1 rfl 7 rfl ?_
  obtain ⟨t51,ht51,h⟩:=bs h
  refine .ca (slices_Clone_byte_byte.calls (ho2_7 _ (zl hM hZm 1)) ht51) ?_
  rintro _ W50 ⟨A52,c53,rfl,hM_⟩
  replace hM:=hM.cg hM_
  refine .gq 2<| .vf 1 (.bool true) hM 2 rfl fun W55 hM=> .gq 2<| .vf 9 (.slice none 0 0) hM 2 rfl fun W56 hM=> .gq 2<| .vf 10 (.slice A52 t51.length c53) hM 2 rfl fun W57 hM=> .gq 1 ?_
  replace hM:=hM.n1 5
  obtain ⟨Fq59,hfq59,hM⟩:=hM.fs 1
  obtain rfl:=sj h
  exact .ret func45 ⟨[.bool a0.1,.bool true,.i a0.2.2.1,.i a0.2.2.2.1,.i a0.2.2.2.2.1,.bool a0.2.2.2.2.2.1,.pointer (pa g43),.slice Ao2_7 a0.2.2.2.2.2.2.2.1.length co2_7,.pointer (pa gt46_0),.slice none 0 0,.slice A52 t51.length c53],(List.flatten [Fq59,Ft46_0]),gt46_0,[uo47_0,.i t46.1.2.1,.bool t46.1.2.2.1,.slice Ao47_3 t46.1.2.2.2.1.length co47_3,.slice Ao47_4 t46.1.2.2.2.2.1.length co47_4,.slice Ao47_5 t46.1.2.2.2.2.2.length co47_5],none,0,0,rfl,⟨_,_,_,_,_,_,_,_,_,rfl,rfl,rfl,rfl,rfl,rfl,rfl,(upc _ _ _ _ (fun _ z=>z.2) (.inr ⟨s42,rfl,hps42⟩)),(upn (fun _ z=>z.2) (rno ho2_7 (zl hM hZm 2))),(upn (fun _ z=>(Oks.g z.1 0 rfl)) (rno hfq59 (hM.oks 0)))⟩,⟨_,_,_,_,_,_,rfl,(upc _ _ _ _ (fun _ z=>(ai (Oks.g z.1 1 rfl) z.2)) ho47_0),rfl,rfl,(upn (fun _ z=>(ai (Oks.g z.1 1 rfl) z.2)) (rno ho47_3 (ai (hM.oks 1) (zl hM hZm 2)))),(upn (fun _ z=>(ai (Oks.g z.1 1 rfl) z.2)) (rno ho47_4 (ai (hM.oks 1) (zl hM hZm 2)))),(upn (fun _ z=>(ai (Oks.g z.1 1 rfl) z.2)) (rno ho47_5 (ai (hM.oks 1) (zl hM hZm 2))))⟩,(hM.pm [2,1,0] [[0,1],[2]])⟩
 have J60:RJ 45 f45 (ctx_Ctx_begin.R gp0 r w0 FT Zm) [1,1,0] w0 [⟨.pointer (pa gp0),72,0,[.bool a0.1,.bool a0.2.1,.i a0.2.2.1,.i a0.2.2.2.1,.i a0.2.2.2.2.1,.bool a0.2.2.2.2.2.1,uo2_6,.slice Ao2_7 a0.2.2.2.2.2.2.2.1.length co2_7,uo2_8,.slice Ao2_9 a0.2.2.2.2.2.2.2.2.2.1.length co2_9,.slice Ao2_10 a0.2.2.2.2.2.2.2.2.2.2.length co2_10]⟩] [FT] [0] ([0,1,2,3,5,6,7,8,9,11,12,13,10,14],[(0,.pointer (pa gp0)),(2,.i a0.2.2.2.1),(11,.pointer (pa gp0)),(14,.pointer (some ⟨gp0,6,none⟩)),(16,.i a0.2.2.2.1),(21,.bool a0.2.2.2.2.2.1),(25,.slice Ao2_7 a0.2.2.2.2.2.2.2.1.length co2_7)]):=by
  intro W61 hM
  exact .a1 tr 4<| .lv hM 0 rfl 6 rfl<| .jn hM [0] [[0]] (J40) rfl rfl
 have J62:RJ 45 f45 (ctx_Ctx_begin.R gp0 r w0 FT Zm) [1,1,0] w0 [⟨.pointer (pa gp0),72,0,[.bool a0.1,.bool a0.2.1,.i a0.2.2.1,.i a0.2.2.2.1,.i a0.2.2.2.2.1,.bool a0.2.2.2.2.2.1,uo2_6,.slice Ao2_7 a0.2.2.2.2.2.2.2.1.length co2_7,uo2_8,.slice Ao2_9 a0.2.2.2.2.2.2.2.2.2.1.length co2_9,.slice Ao2_10 a0.2.2.2.2.2.2.2.2.2.2.length co2_10]⟩] [FT] [0] ([0,1,2,3,5,6,7,8,9,11,12,13,4,14],[(0,.pointer (pa gp0)),(2,.i a0.2.2.2.1),(11,.pointer (pa gp0)),(15,uo2_6),(16,.i a0.2.2.2.1),(20,.pointer (some ⟨gp0,5,none⟩)),(25,.slice Ao2_7 a0.2.2.2.2.2.2.2.1.length co2_7)]):=by
  intro W63 hM
  exact .a1 tr 10<| .lv hM 0 rfl 5 rfl<| .jn hM [0] [[0]] (J40) rfl rfl
 have J64:RJ 45 f45 (ctx_Ctx_begin.R gp0 r w0 FT Zm) [1,1,0] w0 [⟨.pointer (pa gp0),72,0,[.bool a0.1,.bool a0.2.1,.i a0.2.2.1,.i a0.2.2.2.1,.i a0.2.2.2.2.1,.bool a0.2.2.2.2.2.1,uo2_6,.slice Ao2_7 a0.2.2.2.2.2.2.2.1.length co2_7,uo2_8,.slice Ao2_9 a0.2.2.2.2.2.2.2.2.2.1.length co2_9,.slice Ao2_10 a0.2.2.2.2.2.2.2.2.2.2.length co2_10]⟩] [FT] [0] ([0,1,2,3,5,6,7,8,9,11,12,13,4,10],[(0,.pointer (pa gp0)),(2,.i a0.2.2.2.1),(11,.pointer (pa gp0)),(15,uo2_6),(16,.i a0.2.2.2.1),(21,.bool a0.2.2.2.2.2.1),(24,.pointer (some ⟨gp0,7,none⟩))]):=by
  intro W65 hM
  exact .a1 tr 14<| .lv hM 0 rfl 7 rfl<| .jn hM [0] [[0]] (J40) rfl rfl
 have J66:RJ 45 f45 (ctx_Ctx_begin.R gp0 r w0 FT Zm) [1,1,0] w0 [⟨.pointer (pa gp0),72,0,[.bool a0.1,.bool a0.2.1,.i a0.2.2.1,.i a0.2.2.2.1,.i a0.2.2.2.2.1,.bool a0.2.2.2.2.2.1,uo2_6,.slice Ao2_7 a0.2.2.2.2.2.2.2.1.length co2_7,uo2_8,.slice Ao2_9 a0.2.2.2.2.2.2.2.2.2.1.length co2_9,.slice Ao2_10 a0.2.2.2.2.2.2.2.2.2.2.length co2_10]⟩] [FT] [0] ([0,1,2,3,5,6,7,8,9,11,12,13,14],[(0,.pointer (pa gp0)),(2,.i a0.2.2.2.1),(11,.pointer (pa gp0)),(14,.pointer (some ⟨gp0,6,none⟩)),(16,.i a0.2.2.2.1),(20,.pointer (some ⟨gp0,5,none⟩)),(25,.slice Ao2_7 a0.2.2.2.2.2.2.2.1.length co2_7)]):=by
  intro W67 hM
  refine .a2 tr 4 10 ?_ ?_
  ·exact .lv hM 0 rfl 6 rfl<| .jn hM [0] [[0]] (J62) rfl rfl
  ·exact .lv hM 0 rfl 5 rfl<| .jn hM [0] [[0]] (J60) rfl rfl
 have J68:RJ 45 f45 (ctx_Ctx_begin.R gp0 r w0 FT Zm) [1,1,0] w0 [⟨.pointer (pa gp0),72,0,[.bool a0.1,.bool a0.2.1,.i a0.2.2.1,.i a0.2.2.2.1,.i a0.2.2.2.2.1,.bool a0.2.2.2.2.2.1,uo2_6,.slice Ao2_7 a0.2.2.2.2.2.2.2.1.length co2_7,uo2_8,.slice Ao2_9 a0.2.2.2.2.2.2.2.2.2.1.length co2_9,.slice Ao2_10 a0.2.2.2.2.2.2.2.2.2.2.length co2_10]⟩] [FT] [0] ([0,1,2,3,5,6,7,8,9,11,12,13,10],[(0,.pointer (pa gp0)),(2,.i a0.2.2.2.1),(11,.pointer (pa gp0)),(14,.pointer (some ⟨gp0,6,none⟩)),(16,.i a0.2.2.2.1),(21,.bool a0.2.2.2.2.2.1),(24,.pointer (some ⟨gp0,7,none⟩))]):=by
  intro W69 hM
  refine .a2 tr 4 14 ?_ ?_
  ·exact .lv hM 0 rfl 6 rfl<| .jn hM [0] [[0]] (J64) rfl rfl
  ·exact .lv hM 0 rfl 7 rfl<| .jn hM [0] [[0]] (J60) rfl rfl
 have J70:RJ 45 f45 (ctx_Ctx_begin.R gp0 r w0 FT Zm) [1,1,0] w0 [⟨.pointer (pa gp0),72,0,[.bool a0.1,.bool a0.2.1,.i a0.2.2.1,.i a0.2.2.2.1,.i a0.2.2.2.2.1,.bool a0.2.2.2.2.2.1,uo2_6,.slice Ao2_7 a0.2.2.2.2.2.2.2.1.length co2_7,uo2_8,.slice Ao2_9 a0.2.2.2.2.2.2.2.2.2.1.length co2_9,.slice Ao2_10 a0.2.2.2.2.2.2.2.2.2.2.length co2_10]⟩] [FT] [0] ([0,1,2,3,5,6,7,8,9,11,12,13,4],[(0,.pointer (pa gp0)),(2,.i a0.2.2.2.1),(11,.pointer (pa gp0)),(15,uo2_6),(16,.i a0.2.2.2.1),(20,.pointer (some ⟨gp0,5,none⟩)),(24,.pointer (some ⟨gp0,7,none⟩))]):=by
  intro W71 hM
  refine .a2 tr 10 14 ?_ ?_
  ·exact .lv hM 0 rfl 5 rfl<| .jn hM [0] [[0]] (J64) rfl rfl
  ·exact .lv hM 0 rfl 7 rfl<| .jn hM [0] [[0]] (J62) rfl rfl
 refine .a3 tr 4 10 14 ?_ ?_ ?_
 ·exact .lv hM 0 rfl 6 rfl<| .jn hM [0] [[0]] (J70) rfl rfl
 ·exact .lv hM 0 rfl 5 rfl<| .jn hM [0] [[0]] (J68) rfl rfl
 ·exact .lv hM 0 rfl 7 rfl<| .jn hM [0] [[0]] (J66) rfl rfl
end Go.Scr.S

namespace Go.Scr.S
variable {k np0 cp0 np1 cp1 np2 cp2 np3 cp3 np4 cp4:Nat} {Ap0 Ap1 Ap2 Ap3 Ap4:Option Addr} {w w0:World} {FT:List Ent} {Zm Zp0 Zp1 Zp2 Zp3:Zp}
open Go.RowKit (Below)
open Go.Proofs.Tryz (prog f12 func12)
def ctx_Ctx_Init.f (k:Nat) (a0:Cx) (a1:Int×Int×Int×Bool) (a2:Li) (a3:Li):Option (Int×(Bool×Bool×Int×Int×Int×Bool×(Option Ci)×Li×Mo×Li×Li)):=(shot_Check.f k (a1.1,a1.2.1,a1.2.2.1,a1.2.2.2) a2 a3).bind fun t7=>(if (t7 != 0)=true then (none) else ((cipher_New.f k a1.1 a2).bind fun t10=>((t10.1).bind fun s12=>((slices_Clone_byte_byte.f k a3).bind fun t18=>((ctx_Ctx_begin.f k (true,a0.2.1,a1.1,a1.2.1,a1.2.2.1,a1.2.2.2,(some s12),t18,a0.2.2.2.2.2.2.2.2.1,a0.2.2.2.2.2.2.2.2.2.1,a0.2.2.2.2.2.2.2.2.2.2)).bind fun t26=>(some (0,(t26.1,t26.2.1,t26.2.2.1,t26.2.2.2.1,t26.2.2.2.2.1,t26.2.2.2.2.2.1,t26.2.2.2.2.2.2.1,t26.2.2.2.2.2.2.2.1,(t26.2.2.2.2.2.2.2.2.1.1,t26.2.2.2.2.2.2.2.2.1.2.1,t26.2.2.2.2.2.2.2.2.1.2.2.1,t26.2.2.2.2.2.2.2.2.1.2.2.2.1,t26.2.2.2.2.2.2.2.2.1.2.2.2.2.1,t26.2.2.2.2.2.2.2.2.1.2.2.2.2.2),t26.2.2.2.2.2.2.2.2.2.1,t26.2.2.2.2.2.2.2.2.2.2))))))))
abbrev ctx_Ctx_Init.R (gp0:Nat) (r:Int×(Bool×Bool×Int×Int×Int×Bool×(Option Ci)×Li×Mo×Li×Li)) (w0:World) (FT:List Ent) (Zm:Zp):Value→World→Prop:=fun v w'=> ∃(cs':List Value) (F':List Ent) (gq8':Nat) (csq8':List Value) (Aq9':Option Addr) (nq9' cq9':Nat),v= .i r.1∧MxA_ctx_Ctx (andZ (Oks F') Zm) (.pointer (some ⟨gq8',0,none⟩)) (.slice Aq9' nq9' cq9') cs' r.2∧Rs_modes_Mode (andZ (Oks F') Zm) csq8' r.2.2.2.2.2.2.2.2.2.1∧Mem w0 w' (Gs [⟨.pointer (pa gp0),72,0,cs'⟩,⟨(.pointer (some ⟨gq8',0,none⟩)),100,0,csq8'⟩,⟨(.slice Aq9' nq9' cq9'),5,1,nums .u8 r.2.2.2.2.2.2.2.2.2.2.1⟩] [F',FT])
theorem ctx_Ctx_Init.calls {gp0:Nat} {csp0:List Value} {a0:Cx} {a1:Int×Int×Int×Bool} {a2:Li} {a3:Li} {r:Int×(Bool×Bool×Int×Int×Int×Bool×(Option Ci)×Li×Mo×Li×Li)} (hp0:Rs_ctx_Ctx Zm csp0 a0) (hZm: ∀W,Kept w0 W→Oks FT W→Zm W) (hM0:Mem w0 w (Gs [⟨.pointer (pa gp0),72,0,csp0⟩] [FT])) (hr2:RdF Zp2 (.slice Ap2 np2 cp2) (nums .u8 a2)) (hZp2: ∀W,Kept w0 W→Oks FT W→Zp2 W) (hr3:RdF Zp3 (.slice Ap3 np3 cp3) (nums .u8 a3)) (hZp3: ∀W,Kept w0 W→Oks FT W→Zp3 W) (hG1:Rg w0 1 (nums .u8 [1,2,4,8,16,32,64,128])) (h:ctx_Ctx_Init.f k a0 a1 a2 a3=some r):Calls prog 12 #[.pointer (pa gp0),.agg #[.i a1.1,.i a1.2.1,.i a1.2.2.1,.bool a1.2.2.2],(.slice Ap2 np2 cp2),(.slice Ap3 np3 cp3)] w (Ret (ctx_Ctx_Init.R gp0 r w0 FT Zm)):=by
 obtain rfl:=(hr2 _ (hZp2 _ hM0.kept (hM0.oks 0))).ln
 obtain rfl:=(hr3 _ (hZp3 _ hM0.kept (hM0.oks 0))).ln
 obtain ⟨_,_,_,_,_,_,uo2_6,_,uo2_8,_,_,rfl,rfl,rfl,rfl,rfl,rfl,rfl,ho2_6,⟨Ao2_7,co2_7,rfl,ho2_7⟩,ho2_8,⟨Ao2_9,co2_9,rfl,ho2_9⟩,⟨Ao2_10,co2_10,rfl,ho2_10⟩⟩:=hp0
 unfold ctx_Ctx_Init.f at h
 refine calls_S func12 ?_
 have hM:=hM0
 refine .gq 2<| .nw 27 ([.i a1.1,.i a1.2.1,.i a1.2.2.1,.bool a1.2.2.2]) hM fun g3 W4 hM=> .gq 5<| .y (yl_ldp (g:=g3) (off:=0) 4 [.i a1.1,.i a1.2.1,.i a1.2.2.1,.bool a1.2.2.2] rfl) (fun i_ u_ hu_=>match i_,hu_ with | 0,h_=>(hM.var_at 0 rfl (i:=0) (u:=u_) h_).1 | 1,h_=>(hM.var_at 0 rfl (i:=1) (u:=u_) h_).1 | 2,h_=>(hM.var_at 0 rfl (i:=2) (u:=u_) h_).1 | 3,h_=>(hM.var_at 0 rfl (i:=3) (u:=u_) h_).1 | _+4,h_=>by cases h_)<| .gq 2 ?_
 obtain ⟨t7,ht7,h⟩:=bs h
 refine .ca (shot_Check.calls (hr2 _ (zl hM hZp2 0)) (hr3 _ (zl hM hZp3 0)) (hG1.kept hM.kept) ht7) ?_
 rintro _ W6 ⟨rfl,hM_⟩
 replace hM:=hM.cg hM_
 refine .gq 7 ?_
 obtain ⟨c8,h⟩:=ifz h
 refine .kn 15 c8<| .gq 6<| .lv hM 0 rfl 0 rfl<| .gq 1 ?_
 obtain ⟨t10,ht10,h⟩:=bs h
 refine .ca (cipher_New.calls (hr2 _ (zl hM hZp2 0)) (hG1.kept hM.kept) ht10) ?_
 rintro _ W9 ⟨vt10_0,Ft10_0,rfl,hRt10_0,hM_⟩
 replace hM:=hM.cg hM_
 refine .gq 5 ?_
 obtain ⟨s12,hx_,h⟩:=bs h
 have hps12:=rOpt.some hRt10_0 hx_
 obtain ⟨g13,_,rfl,hco14,_,uo14_1,rfl,rfl,ho14_1⟩:=id hps12
 refine .vf 6 (.pointer (pa g13)) hM 1 rfl fun W15 hM=> .gq 2<| .at (show RL 12 f12 (ctx_Ctx_Init.R gp0 r w0 FT Zm) [1,1,1,0] [(0,.pointer (pa gp0)),(3,.slice Ap3 a3.length cp3),(5,.pointer (pa g3))] _ from .dr [1] hM fun W16 hM=> ?_)
 refine .pz tr [0,1,2]<| .y tr 3 (yl_ldp (g:=g3) (off:=0) 4 [.i a1.1,.i a1.2.1,.i a1.2.2.1,.bool a1.2.2.2] rfl) (fun _ hs=>(fun i_ u_ hu_=>match i_,hu_ with | 0,h_=>hM.vs hs 0 rfl 0 h_ | 1,h_=>hM.vs hs 0 rfl 1 h_ | 2,h_=>hM.vs hs 0 rfl 2 h_ | 3,h_=>hM.vs hs 0 rfl 3 h_ | _+4,h_=>by cases h_))<| .pz tr [4] ?_
 obtain ⟨t18,ht18,h⟩:=bs h
 refine .a1 tr 5<| .ca (slices_Clone_byte_byte.calls (hr3 _ (zl hM hZp3 1)) ht18) ?_
 rintro _ W17 ⟨A19,c20,rfl,hM_⟩
 refine .ca hM_ [2] ?_
 replace hM:=hM.cg hM_
 refine .pz tr [6,7]<| .a1 tr 8<| .sp (off:=2) 4 [.i a1.1,.i a1.2.1,.i a1.2.2.1,.bool a1.2.2.2] hM 2 rfl rfl (Nat.le_of_ble_eq_true rfl) (by simp [Value.oneCell']) rfl fun W22 hM=> .pz tr [9,10]<| .a1 tr 11<| .vf 7 (.slice A19 t18.length c20) hM 2 rfl fun W23 hM=> .pz tr [12,13]<| .a1 tr 14<| .vf 0 (.bool true) hM 2 rfl fun W24 hM=> .dn tr<| .gq 3 ?_
 obtain ⟨Fq27,hfq27,hM⟩:=hM.fs 0
 have hs28:Rs_ctx_Ctx (andZ (Oks Ft10_0) (andZ (Oks Fq27) Zm)) [.bool true,.bool a0.2.1,.i a1.1,.i a1.2.1,.i a1.2.2.1,.bool a1.2.2.2,.pointer (pa g13),.slice A19 t18.length c20,uo2_8,.slice Ao2_9 a0.2.2.2.2.2.2.2.2.2.1.length co2_9,.slice Ao2_10 a0.2.2.2.2.2.2.2.2.2.2.length co2_10] (true,a0.2.1,a1.1,a1.2.1,a1.2.2.1,a1.2.2.2,(some s12),t18,a0.2.2.2.2.2.2.2.2.1,a0.2.2.2.2.2.2.2.2.2.1,a0.2.2.2.2.2.2.2.2.2.2):=⟨_,_,_,_,_,_,_,_,_,_,_,rfl,rfl,rfl,rfl,rfl,rfl,rfl,(upc _ _ _ _ (fun _ z=>z.1) (.inr ⟨s12,rfl,hps12⟩)),(upn (fun _ z=>z.2.1) (rno hfq27 (hM.oks 0))),((up_opt (up_ptr up_Rs_modes_Mode)) _ _ _ _ (fun _ z=>z.2.2) ho2_8),(upn (fun _ z=>z.2.2) (rno ho2_9 (zl hM hZm 2))),(upn (fun _ z=>z.2.2) (rno ho2_10 (zl hM hZm 2)))⟩
 obtain ⟨t26,ht26,h⟩:=bs h
 refine .ca (ctx_Ctx_begin.calls (hp0:=hs28) (hZm:=fun _ hk_ hT_=>(ai (hT_.fg 1 rfl) (ai (hT_.fg 0 rfl) (hZm _ hk_ (hT_.fg 2 rfl))))) (hM0:=hM.fm [1] [0] [0,1,2] rfl rfl rfl) (h:=ht26)) ?_
 rintro _ W25 ⟨cst26,Ft26,gq8t26,csq8t26,Aq9t26,nq9t26,cq9t26,rfl,hRt26,hq8t26,hM_⟩
 have hr29:MxA_ctx_Ctx (andZ (Oks Ft26) (andZ (Oks Ft10_0) (andZ (Oks Fq27) Zm))) (.pointer (pa gq8t26)) (.slice Aq9t26 nq9t26 cq9t26) cst26 t26:=hRt26
 have hrhr298:Rs_modes_Mode (andZ (Oks Ft26) (andZ (Oks Ft10_0) (andZ (Oks Fq27) Zm))) csq8t26 t26.2.2.2.2.2.2.2.2.1:=hq8t26
 replace hM:=hM_.uf
 obtain rfl:=(hM_.or 2).ln
 obtain ⟨uo30_0,_,_,_,_,_,rfl,ho30_0,rfl,rfl,⟨Ao30_3,co30_3,rfl,ho30_3⟩,⟨Ao30_4,co30_4,rfl,ho30_4⟩,⟨Ao30_5,co30_5,rfl,ho30_5⟩⟩:=hrhr298
 obtain ⟨_,_,_,_,_,_,uo33_6,_,_,rfl,rfl,rfl,rfl,rfl,rfl,rfl,ho33_6,⟨Ao33_7,co33_7,rfl,ho33_7⟩,⟨Ao33_10,co33_10,rfl,ho33_10⟩⟩:=hr29
 refine .gq 5 ?_
 obtain rfl:=sj h
 exact .ret func12 ⟨[.bool t26.1,.bool t26.2.1,.i t26.2.2.1,.i t26.2.2.2.1,.i t26.2.2.2.2.1,.bool t26.2.2.2.2.2.1,uo33_6,.slice Ao33_7 t26.2.2.2.2.2.2.2.1.length co33_7,.pointer (pa gq8t26),.slice Aq9t26 t26.2.2.2.2.2.2.2.2.2.1.length cq9t26,.slice Ao33_10 t26.2.2.2.2.2.2.2.2.2.2.length co33_10],(List.flatten [Ft26,Fq27,Ft10_0]),gq8t26,[uo30_0,.i t26.2.2.2.2.2.2.2.2.1.2.1,.bool t26.2.2.2.2.2.2.2.2.1.2.2.1,.slice Ao30_3 t26.2.2.2.2.2.2.2.2.1.2.2.2.1.length co30_3,.slice Ao30_4 t26.2.2.2.2.2.2.2.2.1.2.2.2.2.1.length co30_4,.slice Ao30_5 t26.2.2.2.2.2.2.2.2.1.2.2.2.2.2.length co30_5],Aq9t26,t26.2.2.2.2.2.2.2.2.2.1.length,cq9t26,rfl,⟨_,_,_,_,_,_,_,_,_,rfl,rfl,rfl,rfl,rfl,rfl,rfl,(upc _ _ _ _ (fun _ z=>(ai (Oks.g z.1 0 rfl) (ai (Oks.g z.1 2 rfl) (ai (Oks.g z.1 1 rfl) z.2)))) ho33_6),(upn (fun _ z=>(ai (Oks.g z.1 0 rfl) (ai (Oks.g z.1 2 rfl) (ai (Oks.g z.1 1 rfl) z.2)))) (rno ho33_7 (ai (hM.oks 0) (ai (hM.oks 2) (ai (hM.oks 1) (zl hM hZm 3)))))),(upn (fun _ z=>(ai (Oks.g z.1 0 rfl) (ai (Oks.g z.1 2 rfl) (ai (Oks.g z.1 1 rfl) z.2)))) (rno ho33_10 (ai (hM.oks 0) (ai (hM.oks 2) (ai (hM.oks 1) (zl hM hZm 3))))))⟩,⟨_,_,_,_,_,_,rfl,(upc _ _ _ _ (fun _ z=>(ai (Oks.g z.1 0 rfl) (ai (Oks.g z.1 2 rfl) (ai (Oks.g z.1 1 rfl) z.2)))) ho30_0),rfl,rfl,(upn (fun _ z=>(ai (Oks.g z.1 0 rfl) (ai (Oks.g z.1 2 rfl) (ai (Oks.g z.1 1 rfl) z.2)))) (rno ho30_3 (ai (hM.oks 0) (ai (hM.oks 2) (ai (hM.oks 1) (zl hM hZm 3)))))),(upn (fun _ z=>(ai (Oks.g z.1 0 rfl) (ai (Oks.g z.1 2 rfl) (ai (Oks.g z.1 1 rfl) z.2)))) (rno ho30_4 (ai (hM.oks 0) (ai (hM.oks 2) (ai (hM.oks 1) (zl hM hZm 3)))))),(upn (fun _ z=>(ai (Oks.g z.1 0 rfl) (ai (Oks.g z.1 2 rfl) (ai (Oks.g z.1 1 rfl) z.2)))) (rno ho30_5 (ai (hM.oks 0) (ai (hM.oks 2) (ai (hM.oks 1) (zl hM hZm 3))))))⟩,(hM.pm [0,1,2] [[0,1,2],[3]])⟩
end Go.Scr.S
