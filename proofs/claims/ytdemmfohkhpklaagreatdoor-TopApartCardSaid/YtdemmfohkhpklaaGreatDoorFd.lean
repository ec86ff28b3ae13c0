/- Functions that the law reaches, as plain functions, and that each call answers so: contexts. -/
import Derived.Test.YtdemmfohkhpklaaGreatDoorXF
import Derived.Test.YtdemmfohkhpklaaGreatDoorFa
import Derived.Test.YtdemmfohkhpklaaGreatDoorFb
import Derived.Test.YtdemmfohkhpklaaGreatDoorFc
set_option linter.unusedVariables false
set_option linter.unusedSimpArgs false
set_option maxRecDepth 100000
set_option maxHeartbeats 8000000
namespace Go.Scr.S
variable {k np0 cp0 np1 cp1 np2 cp2 np3 cp3 np4 cp4:Nat} {Ap0 Ap1 Ap2 Ap3 Ap4:Option Addr} {w w0:World} {FT:List Ent} {Zm Zp0 Zp1 Zp2 Zp3:Zp}
open Go.RowKit (Below)
open Go.Proofs.Tryz (prog f51 func51)
def MxB_ctx_Ctx (Z:Zp) (vx8:Value) (cs:List Value) (x:Cy):Prop:= ∃(u0:Value) (u1:Value) (u2:Value) (u3:Value) (u4:Value) (u5:Value) (u6:Value) (u7:Value) (u9:Value) (u10:Value),cs=[u0,u1,u2,u3,u4,u5,u6,u7,vx8,u9,u10]∧rBool Z u0 x.1∧rBool Z u1 x.2.1∧(rInt .i64) Z u2 x.2.2.1∧(rInt .i64) Z u3 x.2.2.2.1∧(rInt .i64) Z u4 x.2.2.2.2.1∧rBool Z u5 x.2.2.2.2.2.1∧(rOpt (rPtr Rs_cipher_Cipher)) Z u6 x.2.2.2.2.2.2.1∧(rNums .u8) Z u7 x.2.2.2.2.2.2.2.1∧(rNums .u8) Z u9 x.2.2.2.2.2.2.2.2.2.1∧(rNums .u8) Z u10 x.2.2.2.2.2.2.2.2.2.2
theorem up_MxB_ctx_Ctx (Z Y:Zp) (vx8:Value) (cs:List Value) (x:Cy) (hs: ∀W,Y W→Z W):MxB_ctx_Ctx Z vx8 cs x→MxB_ctx_Ctx Y vx8 cs x:=fun ⟨u0,u1,u2,u3,u4,u5,u6,u7,u9,u10,e,h0,h1,h2,h3,h4,h5,h6,h7,h9,h10⟩=>⟨u0,u1,u2,u3,u4,u5,u6,u7,u9,u10,e,up_bool _ _ _ _ hs h0,up_bool _ _ _ _ hs h1,(up_int .i64) _ _ _ _ hs h2,(up_int .i64) _ _ _ _ hs h3,(up_int .i64) _ _ _ _ hs h4,up_bool _ _ _ _ hs h5,upc _ _ _ _ hs h6,upn hs h7,upn hs h9,upn hs h10⟩
def Vb.f (k:Nat) (a0:Cy) (a1:Li):Option (Li×Cy):=(V4.f k a0.2.2.2.2.2.2.2.2.1 a1).bind fun t7=>((Ve.f k t7.2.1).bind fun t16=>((a0.2.2.2.2.2.2.1).bind fun s17=>((Qy.f k s17).bind fun t21=>((Va.f k (a0.1,a0.2.1,a0.2.2.1,a0.2.2.2.1,a0.2.2.2.2.1,a0.2.2.2.2.2.1,(some s17),a0.2.2.2.2.2.2.2.1,(some t7.2.2),a0.2.2.2.2.2.2.2.2.2.1,a0.2.2.2.2.2.2.2.2.2.2)).bind fun t23=>(if t23=true then (if (decide ((a1.length:Int)≥t21))=true then (if a0.2.2.2.2.2.1=true then (gd (0≤(I64 ((a1.length:Int)-t21))) (gd ((I64 ((a1.length:Int)-t21))≤(a1.length:Int)) ((Yz.f k ((a1.take ((a1.length:Int):Int).toNat).drop (I64 ((a1.length:Int)-t21):Int).toNat)).bind fun t33=>(some (t7.1,(a0.1,a0.2.1,a0.2.2.1,a0.2.2.2.1,a0.2.2.2.2.1,a0.2.2.2.2.2.1,(some s17),a0.2.2.2.2.2.2.2.1,t7.2.2,a0.2.2.2.2.2.2.2.2.2.1,t33)))))) else (gd (0≤(I64 ((t7.1.length:Int)-t21))) (gd ((I64 ((t7.1.length:Int)-t21))≤(t7.1.length:Int)) ((Yz.f k ((t7.1.take ((t7.1.length:Int):Int).toNat).drop (I64 ((t7.1.length:Int)-t21):Int).toNat)).bind fun t45=>(some (t7.1,(a0.1,a0.2.1,a0.2.2.1,a0.2.2.2.1,a0.2.2.2.2.1,a0.2.2.2.2.2.1,(some s17),a0.2.2.2.2.2.2.2.1,t7.2.2,a0.2.2.2.2.2.2.2.2.2.1,t45))))))) else (some (t7.1,(a0.1,a0.2.1,a0.2.2.1,a0.2.2.2.1,a0.2.2.2.2.1,a0.2.2.2.2.2.1,(some s17),a0.2.2.2.2.2.2.2.1,t7.2.2,a0.2.2.2.2.2.2.2.2.2.1,a0.2.2.2.2.2.2.2.2.2.2)))) else (some (t7.1,(a0.1,a0.2.1,a0.2.2.1,a0.2.2.2.1,a0.2.2.2.2.1,a0.2.2.2.2.2.1,(some s17),a0.2.2.2.2.2.2.2.1,t7.2.2,a0.2.2.2.2.2.2.2.2.2.1,a0.2.2.2.2.2.2.2.2.2.2))))))))
theorem Vb.calls {gp0:Nat} {csp0:List Value} {a0:Cy} {gq8:Nat} {csq8:List Value} {eq85:Ent} {a1:Li} {r:Li×Cy} (hp0:MxB_ctx_Ctx Zm (.pt gq8) csp0 a0) (hq8:Rs_modes_Mode Zm csq8 a0.2.2.2.2.2.2.2.2.1) (hq85:Own5 eq85 csq8 a0.2.2.2.2.2.2.2.2.1) (hZm: ∀W,Kept w0 W→Oks FT W→Zm W) (M0:Mem w0 w (Gs [⟨.pt gp0,72,0,csp0⟩,⟨(.pt gq8),100,0,csq8⟩,eq85] [FT])) (hr1:RdF Zp1 (.slice Ap1 np1 cp1) (nums .u8 a1)) (hZp1: ∀W,Kept w0 W→Oks FT W→Zp1 W) (h:Vb.f k a0 a1=some r):Calls prog 51 #[.pt gp0,(.slice Ap1 np1 cp1)] w (Ret fun v w'=> ∃A0' c0',∃(cs':List Value) (F':List Ent) (gq8':Nat) (csq8':List Value) (eq85':Ent),v= .slice A0' r.1.length c0'∧MxB_ctx_Ctx (andZ (Oks F') Zm) (.pointer (some ⟨gq8',0,none⟩)) cs' r.2∧Rs_modes_Mode (andZ (Oks F') Zm) csq8' r.2.2.2.2.2.2.2.2.2.1∧Own5 eq85' csq8' r.2.2.2.2.2.2.2.2.2.1∧Mem w0 w' (Gs [⟨.slice A0' r.1.length c0',5,1,nums .u8 r.1⟩,⟨.pt gp0,72,0,cs'⟩,⟨(.pointer (some ⟨gq8',0,none⟩)),100,0,csq8'⟩,eq85'] [F',FT])):=by
 obtain rfl:=(hr1 _ (hZp1 _ M0.kept (M0.oks 0))).ln
 obtain ⟨uo3_0,_,_,_,_,uo3_5,rfl,ho3_0,rfl,rfl,⟨Ao3_3,co3_3,rfl,ho3_3⟩,⟨Ao3_4,co3_4,rfl,ho3_4⟩⟩:=hq8
 obtain ⟨_,_,_,_,_,_,uo5_6,_,_,_,rfl,rfl,rfl,rfl,rfl,rfl,rfl,ho5_6,⟨Ao5_7,co5_7,rfl,ho5_7⟩,⟨Ao5_9,co5_9,rfl,ho5_9⟩,⟨Ao5_10,co5_10,rfl,ho5_10⟩⟩:=hp0
 unfold Vb.f at h
 refine calls_S func51 ?_
 have M:=M0
 refine .gq 9<| .lv M 0 rfl 8 rfl<| .gq 1 ?_
 have hs8:Rs_modes_Mode Zm [uo3_0,.i a0.2.2.2.2.2.2.2.2.1.2.1,.bool a0.2.2.2.2.2.2.2.2.1.2.2.1,.slice Ao3_3 a0.2.2.2.2.2.2.2.2.1.2.2.2.1.length co3_3,.slice Ao3_4 a0.2.2.2.2.2.2.2.2.1.2.2.2.2.1.length co3_4,uo3_5] a0.2.2.2.2.2.2.2.2.1:=⟨_,_,_,_,_,_,rfl,(upc _ _ _ _ (fun _ z=>z) ho3_0),rfl,rfl,(upn (fun _ z=>z) (rno ho3_3 (zl M hZm 0))),(upn (fun _ z=>z) (rno ho3_4 (zl M hZm 0)))⟩
 obtain ⟨t7,ht7,h⟩:=bs h
 refine .ca (V4.calls (hp0:=hs8) (hq5:=hq85) (hZm:=fun _ hk_ hT_=>(hZm _ hk_ (hT_.fg 0 rfl))) (M0:=M.fm [1,2] [0] [0] rfl rfl rfl) (Zp1:=fun W_=>Rd W_ (.slice Ap1 a1.length cp1) (nums .u8 a1)) (hr1:=fun _ h_=>h_) (hZp1:=fun _ hk_ hT_=>(hr1 _ (hZp1 _ hk_ (hT_.fg 0 rfl)))) (h:=ht7)) ?_
 rintro _ W6 ⟨A9,c10,cst7,Ft7,eq5t7,rfl,hRt7,hq5t7,M_⟩
 have hr12:Rs_modes_Mode (andZ (Oks Ft7) Zm) cst7 t7.2.2:=hRt7
 have hrhr125:Own5 eq5t7 cst7 t7.2.2:=hq5t7
 replace M:=M_.uf
 obtain ⟨uo14_0,_,_,_,_,uo14_5,rfl,ho14_0,rfl,rfl,⟨Ao14_3,co14_3,rfl,ho14_3⟩,⟨Ao14_4,co14_4,rfl,ho14_4⟩⟩:=hr12
 refine .gq 9 ?_
 obtain ⟨t16,ht16,h⟩:=bs h
 refine .ca (Ve.calls ht16) ?_
 rintro _ W15 ⟨rfl,M_⟩
 replace M:=M.cg M_
 refine .gq 7<| .lv M 3 rfl 6 rfl ?_
 obtain ⟨s17,hx_,h⟩:=bs h
 have hps17:=rOpt.some ho5_6 hx_
 obtain ⟨g18,_,rfl,hco19,_,uo19_1,rfl,rfl,ho19_1⟩:=id hps17
 obtain ⟨t21,ht21,h⟩:=bs h
 refine .ca (Qy.calls hps17 (zk M hZm 1) ht21) ?_
 rintro _ W20 ⟨rfl,M_⟩
 replace M:=M.cg M_
 refine .gq 5 ?_
 obtain ⟨t23,ht23,h⟩:=bs h
 refine .ca (Va.calls (Zp0:=Kept W20) (a0:=(a0.1,a0.2.1,a0.2.2.1,a0.2.2.2.1,a0.2.2.2.2.1,a0.2.2.2.2.2.1,(some s17),a0.2.2.2.2.2.2.2.1,(some t7.2.2),a0.2.2.2.2.2.2.2.2.2.1,a0.2.2.2.2.2.2.2.2.2.2)) ⟨gp0,_,rfl,(M.cellsKept 3 rfl),_,_,_,_,_,_,_,_,_,_,_,rfl,rfl,rfl,rfl,rfl,rfl,rfl,(upc _ _ _ _ (zk M hZm 1) (.inr ⟨s17,rfl,hps17⟩)),(upn (zk M hZm 1) (rno ho5_7 (zl M hZm 1))),(.inr ⟨_,rfl,⟨gq8,_,rfl,(M.cellsKept 1 rfl),_,_,_,_,_,_,rfl,(upc _ _ _ _ (fun _ z=>(ai ((M.oks 0).kept z) (hZm _ (M.kept.trans z) ((M.oks 1).kept z)))) ho14_0),rfl,rfl,(upn (fun _ z=>(ai ((M.oks 0).kept z) (hZm _ (M.kept.trans z) ((M.oks 1).kept z)))) (rno ho14_3 (ai (M.oks 0) (zl M hZm 1)))),(upn (fun _ z=>(ai ((M.oks 0).kept z) (hZm _ (M.kept.trans z) ((M.oks 1).kept z)))) (rno ho14_4 (ai (M.oks 0) (zl M hZm 1))))⟩⟩),(upn (zk M hZm 1) (rno ho5_9 (zl M hZm 1))),(upn (zk M hZm 1) (rno ho5_10 (zl M hZm 1)))⟩ (fun _ h_=>h_) ht23) ?_
 rintro _ W22 ⟨rfl,M_⟩
 replace M:=M.cg M_
 refine .gq 1 ?_
 rcases ift h with ⟨c24,h⟩ | ⟨c24,h⟩
 ·refine .kn 27 c24<| .gq 6 ?_
  rcases ift h with ⟨c25,h⟩ | ⟨c25,h⟩
  ·refine .kn 32 c25<| .gq 13<| .lv M 3 rfl 5 rfl<| .gq 1 ?_
   rcases ift h with ⟨c26,h⟩ | ⟨c26,h⟩
   ·refine .kn 38 c26<| .gq 12 ?_
    obtain ⟨c27,h⟩:=ifd h
    obtain ⟨c28,h⟩:=ifd h
    refine .ct (I64 ((a1.length:Int)-t21)) (a1.length:Int) (hr1 _ (zl M hZp1 1)) fun A29 c30 hs31=> ?_
    obtain ⟨t33,ht33,h⟩:=bs h
    refine .ca (Yz.calls (hs31 _ (hr1 _ (zl M hZp1 1))) ht33) ?_
    rintro _ W32 ⟨A34,c35,rfl,M_⟩
    replace M:=M.cg M_
    refine .gq 2<| .vf 10 (.slice A34 t33.length c35) M 4 rfl fun W37 M=> .gq 6 ?_
    obtain ⟨Fq38,hfq38,M⟩:=M.fs 0
    obtain rfl:=sj h
    exact .ret func51 ⟨A9,c10,[.bool a0.1,.bool a0.2.1,.i a0.2.2.1,.i a0.2.2.2.1,.i a0.2.2.2.2.1,.bool a0.2.2.2.2.2.1,.pt g18,.slice Ao5_7 a0.2.2.2.2.2.2.2.1.length co5_7,.pt gq8,.slice Ao5_9 a0.2.2.2.2.2.2.2.2.2.1.length co5_9,.slice A34 t33.length c35],(List.flatten [Fq38,Ft7]),gq8,[uo14_0,.i t7.2.2.2.1,.bool t7.2.2.2.2.1,.slice Ao14_3 t7.2.2.2.2.2.1.length co14_3,.slice Ao14_4 t7.2.2.2.2.2.2.1.length co14_4,uo14_5],eq5t7,rfl,⟨_,_,_,_,_,_,_,_,_,_,rfl,rfl,rfl,rfl,rfl,rfl,rfl,(upc _ _ _ _ (fun _ z=>z.2) (.inr ⟨s17,rfl,hps17⟩)),(upn (fun _ z=>z.2) (rno ho5_7 (zl M hZm 2))),(upn (fun _ z=>z.2) (rno ho5_9 (zl M hZm 2))),(upn (fun _ z=>(Oks.g z.1 0 rfl)) (rno hfq38 (M.oks 0)))⟩,⟨_,_,_,_,_,_,rfl,(upc _ _ _ _ (fun _ z=>(ai (Oks.g z.1 1 rfl) z.2)) ho14_0),rfl,rfl,(upn (fun _ z=>(ai (Oks.g z.1 1 rfl) z.2)) (rno ho14_3 (ai (M.oks 1) (zl M hZm 2)))),(upn (fun _ z=>(ai (Oks.g z.1 1 rfl) z.2)) (rno ho14_4 (ai (M.oks 1) (zl M hZm 2))))⟩,hrhr125,(M.pm [0,3,1,2] [[0,1],[2]])⟩
   refine .kn 38 c26<| .gq 9 ?_
   obtain ⟨c39,h⟩:=ifd h
   obtain ⟨c40,h⟩:=ifd h
   refine .ct (I64 ((t7.1.length:Int)-t21)) (t7.1.length:Int) (M.or 0) fun A41 c42 hs43=> ?_
   obtain ⟨t45,ht45,h⟩:=bs h
   refine .ca (Yz.calls (hs43 _ (M.or 0)) ht45) ?_
   rintro _ W44 ⟨A46,c47,rfl,M_⟩
   replace M:=M.cg M_
   refine .gq 2<| .vf 10 (.slice A46 t45.length c47) M 4 rfl fun W49 M=> .gq 6 ?_
   obtain ⟨Fq50,hfq50,M⟩:=M.fs 0
   obtain rfl:=sj h
   exact .ret func51 ⟨A9,c10,[.bool a0.1,.bool a0.2.1,.i a0.2.2.1,.i a0.2.2.2.1,.i a0.2.2.2.2.1,.bool a0.2.2.2.2.2.1,.pt g18,.slice Ao5_7 a0.2.2.2.2.2.2.2.1.length co5_7,.pt gq8,.slice Ao5_9 a0.2.2.2.2.2.2.2.2.2.1.length co5_9,.slice A46 t45.length c47],(List.flatten [Fq50,Ft7]),gq8,[uo14_0,.i t7.2.2.2.1,.bool t7.2.2.2.2.1,.slice Ao14_3 t7.2.2.2.2.2.1.length co14_3,.slice Ao14_4 t7.2.2.2.2.2.2.1.length co14_4,uo14_5],eq5t7,rfl,⟨_,_,_,_,_,_,_,_,_,_,rfl,rfl,rfl,rfl,rfl,rfl,rfl,(upc _ _ _ _ (fun _ z=>z.2) (.inr ⟨s17,rfl,hps17⟩)),(upn (fun _ z=>z.2) (rno ho5_7 (zl M hZm 2))),(upn (fun _ z=>z.2) (rno ho5_9 (zl M hZm 2))),(upn (fun _ z=>(Oks.g z.1 0 rfl)) (rno hfq50 (M.oks 0)))⟩,⟨_,_,_,_,_,_,rfl,(upc _ _ _ _ (fun _ z=>(ai (Oks.g z.1 1 rfl) z.2)) ho14_0),rfl,rfl,(upn (fun _ z=>(ai (Oks.g z.1 1 rfl) z.2)) (rno ho14_3 (ai (M.oks 1) (zl M hZm 2)))),(upn (fun _ z=>(ai (Oks.g z.1 1 rfl) z.2)) (rno ho14_4 (ai (M.oks 1) (zl M hZm 2))))⟩,hrhr125,(M.pm [0,3,1,2] [[0,1],[2]])⟩
  refine .kn 32 c25<| .gq 7 ?_
  obtain rfl:=sj h
  exact .ret func51 ⟨A9,c10,[.bool a0.1,.bool a0.2.1,.i a0.2.2.1,.i a0.2.2.2.1,.i a0.2.2.2.2.1,.bool a0.2.2.2.2.2.1,.pt g18,.slice Ao5_7 a0.2.2.2.2.2.2.2.1.length co5_7,.pt gq8,.slice Ao5_9 a0.2.2.2.2.2.2.2.2.2.1.length co5_9,.slice Ao5_10 a0.2.2.2.2.2.2.2.2.2.2.length co5_10],Ft7,gq8,[uo14_0,.i t7.2.2.2.1,.bool t7.2.2.2.2.1,.slice Ao14_3 t7.2.2.2.2.2.1.length co14_3,.slice Ao14_4 t7.2.2.2.2.2.2.1.length co14_4,uo14_5],eq5t7,rfl,⟨_,_,_,_,_,_,_,_,_,_,rfl,rfl,rfl,rfl,rfl,rfl,rfl,(upc _ _ _ _ (fun _ z=>z.2) (.inr ⟨s17,rfl,hps17⟩)),(upn (fun _ z=>z.2) (rno ho5_7 (zl M hZm 1))),(upn (fun _ z=>z.2) (rno ho5_9 (zl M hZm 1))),(upn (fun _ z=>z.2) (rno ho5_10 (zl M hZm 1)))⟩,⟨_,_,_,_,_,_,rfl,(upc _ _ _ _ (fun _ z=>(ai z.1 z.2)) ho14_0),rfl,rfl,(upn (fun _ z=>(ai z.1 z.2)) (rno ho14_3 (ai (M.oks 0) (zl M hZm 1)))),(upn (fun _ z=>(ai z.1 z.2)) (rno ho14_4 (ai (M.oks 0) (zl M hZm 1))))⟩,hrhr125,(M.pm [0,3,1,2] [[0],[1]])⟩
 refine .kn 27 c24<| .gq 13 ?_
 obtain rfl:=sj h
 exact .ret func51 ⟨A9,c10,[.bool a0.1,.bool a0.2.1,.i a0.2.2.1,.i a0.2.2.2.1,.i a0.2.2.2.2.1,.bool a0.2.2.2.2.2.1,.pt g18,.slice Ao5_7 a0.2.2.2.2.2.2.2.1.length co5_7,.pt gq8,.slice Ao5_9 a0.2.2.2.2.2.2.2.2.2.1.length co5_9,.slice Ao5_10 a0.2.2.2.2.2.2.2.2.2.2.length co5_10],Ft7,gq8,[uo14_0,.i t7.2.2.2.1,.bool t7.2.2.2.2.1,.slice Ao14_3 t7.2.2.2.2.2.1.length co14_3,.slice Ao14_4 t7.2.2.2.2.2.2.1.length co14_4,uo14_5],eq5t7,rfl,⟨_,_,_,_,_,_,_,_,_,_,rfl,rfl,rfl,rfl,rfl,rfl,rfl,(upc _ _ _ _ (fun _ z=>z.2) (.inr ⟨s17,rfl,hps17⟩)),(upn (fun _ z=>z.2) (rno ho5_7 (zl M hZm 1))),(upn (fun _ z=>z.2) (rno ho5_9 (zl M hZm 1))),(upn (fun _ z=>z.2) (rno ho5_10 (zl M hZm 1)))⟩,⟨_,_,_,_,_,_,rfl,(upc _ _ _ _ (fun _ z=>(ai z.1 z.2)) ho14_0),rfl,rfl,(upn (fun _ z=>(ai z.1 z.2)) (rno ho14_3 (ai (M.oks 0) (zl M hZm 1)))),(upn (fun _ z=>(ai z.1 z.2)) (rno ho14_4 (ai (M.oks 0) (zl M hZm 1))))⟩,hrhr125,(M.pm [0,3,1,2] [[0],[1]])⟩
def Vb.p (k:Nat) (a0:Cy) (a1:Li):Option (Int):=(V4.f k a0.2.2.2.2.2.2.2.2.1 a1).bind fun t7=>(orp (Ve.p k t7.2.1) (fun n15=>(some n15)) (none))
theorem Vb.panics {k:Nat} {gp0:Nat} {csp0:List Value} {a0:Cy} {gq8:Nat} {csq8:List Value} {eq85:Ent} {Ap1:Option Addr} {np1 cp1:Nat} {a1:Li} {Zp1:Zp} {r:Int} {w:World} {w0:World} {FT:List Ent} {Zm:Zp} (hp0:MxB_ctx_Ctx Zm (.pt gq8) csp0 a0) (hq8:Rs_modes_Mode Zm csq8 a0.2.2.2.2.2.2.2.2.1) (hq85:Own5 eq85 csq8 a0.2.2.2.2.2.2.2.2.1) (hZm: ∀W,Kept w0 W→Oks FT W→Zm W) (M0:Mem w0 w (Gs [⟨.pt gp0,72,0,csp0⟩,⟨(.pt gq8),100,0,csq8⟩,eq85] [FT])) (hr1:RdF Zp1 (.slice Ap1 np1 cp1) (nums .u8 a1)) (hZp1: ∀W,Kept w0 W→Oks FT W→Zp1 W) (h:Vb.p k a0 a1=some r):Calls prog 51 #[.pt gp0,(.slice Ap1 np1 cp1)] w (Pan r fun w'=>Mem w0 w' (Gs [] [FT])):=by
 obtain rfl:=(hr1 _ (hZp1 _ M0.kept (M0.oks 0))).ln
 obtain ⟨uo3_0,_,_,_,_,uo3_5,rfl,ho3_0,rfl,rfl,⟨Ao3_3,co3_3,rfl,ho3_3⟩,⟨Ao3_4,co3_4,rfl,ho3_4⟩⟩:=hq8
 obtain ⟨_,_,_,_,_,_,uo5_6,_,_,_,rfl,rfl,rfl,rfl,rfl,rfl,rfl,ho5_6,⟨Ao5_7,co5_7,rfl,ho5_7⟩,⟨Ao5_9,co5_9,rfl,ho5_9⟩,⟨Ao5_10,co5_10,rfl,ho5_10⟩⟩:=hp0
 unfold Vb.p at h
 refine calls_S func51 ?_
 have M:=M0
 refine .gq 9<| .lv M 0 rfl 8 rfl<| .gq 1 ?_
 have hs8:Rs_modes_Mode Zm [uo3_0,.i a0.2.2.2.2.2.2.2.2.1.2.1,.bool a0.2.2.2.2.2.2.2.2.1.2.2.1,.slice Ao3_3 a0.2.2.2.2.2.2.2.2.1.2.2.2.1.length co3_3,.slice Ao3_4 a0.2.2.2.2.2.2.2.2.1.2.2.2.2.1.length co3_4,uo3_5] a0.2.2.2.2.2.2.2.2.1:=⟨_,_,_,_,_,_,rfl,(upc _ _ _ _ (fun _ z=>z) ho3_0),rfl,rfl,(upn (fun _ z=>z) (rno ho3_3 (zl M hZm 0))),(upn (fun _ z=>z) (rno ho3_4 (zl M hZm 0)))⟩
 obtain ⟨t7,ht7,h⟩:=bs h
 refine .ca (V4.calls (hp0:=hs8) (hq5:=hq85) (hZm:=fun _ hk_ hT_=>(hZm _ hk_ (hT_.fg 0 rfl))) (M0:=M.fm [1,2] [0] [0] rfl rfl rfl) (Zp1:=fun W_=>Rd W_ (.slice Ap1 a1.length cp1) (nums .u8 a1)) (hr1:=fun _ h_=>h_) (hZp1:=fun _ hk_ hT_=>(hr1 _ (hZp1 _ hk_ (hT_.fg 0 rfl)))) (h:=ht7)) ?_
 rintro _ W6 ⟨A9,c10,cst7,Ft7,eq5t7,rfl,hRt7,hq5t7,M_⟩
 have hr12:Rs_modes_Mode (andZ (Oks Ft7) Zm) cst7 t7.2.2:=hRt7
 have hrhr125:Own5 eq5t7 cst7 t7.2.2:=hq5t7
 replace M:=M_.uf
 obtain ⟨uo14_0,_,_,_,_,uo14_5,rfl,ho14_0,rfl,rfl,⟨Ao14_3,co14_3,rfl,ho14_3⟩,⟨Ao14_4,co14_4,rfl,ho14_4⟩⟩:=hr12
 refine .gq 9 ?_
 rcases orpE h with ⟨n15,hn15,h⟩ | ⟨_,h⟩
 ·obtain rfl:=sj h
  exact .pq func51 (Ve.panics hn15) fun _ M_=>(Mem.pm (M.cg M_) [] [[1]] rfl rfl rfl)
 cases h
end Go.Scr.S

namespace Go.Scr.S
variable {k np0 cp0 np1 cp1 np2 cp2 np3 cp3 np4 cp4:Nat} {Ap0 Ap1 Ap2 Ap3 Ap4:Option Addr} {w w0:World} {FT:List Ent} {Zm Zp0 Zp1 Zp2 Zp3:Zp}
open Go.RowKit (Below)
open Go.Proofs.Tryz (prog f31 func31 f34 func34 f52 func52 f69 func69 f70 func70 f71 func71 f75 func75 f121 func121 f122 func122 f163 func163)
def Ye.f (k:Nat) (a0:Int):Option (Bool):=if (a0==1)=true then (some true) else (if (a0==2)=true then (some true) else (if (a0==3)=true then (some true) else (some false)))
theorem Ye.calls {a0:Int} {r:Bool} (h:Ye.f k a0=some r):Calls prog 69 #[.i a0] w (Ret fun v w'=>v= .bool r∧Mem w w' (Gs [] [])):=by
 unfold Ye.f at h
 refine calls_S func69 ?_
 have M:=Mem.r0 w
 refine .gq 21 ?_
 rcases ift h with ⟨c1,h⟩ | ⟨c1,h⟩
 ·refine .kn 4 c1<| .gq 9 ?_
  obtain rfl:=sj h
  exact .ret func69 ⟨rfl,(M.pm [] [])⟩
 refine .kn 4 c1<| .gq 8 ?_
 rcases ift h with ⟨c2,h⟩ | ⟨c2,h⟩
 ·refine .kn 6 c2<| .gq 8 ?_
  obtain rfl:=sj h
  exact .ret func69 ⟨rfl,(M.pm [] [])⟩
 refine .kn 6 c2<| .gq 7 ?_
 rcases ift h with ⟨c3,h⟩ | ⟨c3,h⟩
 ·refine .kn 8 c3<| .gq 7 ?_
  obtain rfl:=sj h
  exact .ret func69 ⟨rfl,(M.pm [] [])⟩
 refine .kn 8 c3<| .gq 7 ?_
 obtain rfl:=sj h
 exact .ret func69 ⟨rfl,(M.pm [] [])⟩
def Yd.f (k:Nat) (a0:Int):Option (Bool):=if (a0==8)=true then (some true) else (some (a0==16))
theorem Yd.calls {a0:Int} {r:Bool} (h:Yd.f k a0=some r):Calls prog 70 #[.i a0] w (Ret fun v w'=>v= .bool r∧Mem w w' (Gs [] [])):=by
 unfold Yd.f at h
 refine calls_S func70 ?_
 have M:=Mem.r0 w
 refine .gq 9 ?_
 rcases ift h with ⟨c1,h⟩ | ⟨c1,h⟩
 ·refine .kn 5 c1<| .gq 5 ?_
  obtain rfl:=sj h
  exact .ret func70 ⟨rfl,(M.pm [] [])⟩
 refine .kn 5 c1<| .gq 5 ?_
 obtain rfl:=sj h
 exact .ret func70 ⟨rfl,(M.pm [] [])⟩
def Yc.l0:Nat→Int→Li→Int→Option Li
 | 0,_,_,_=>none
 | k+1,a1,x5_0,x18_0=>if (decide (x18_0<((a1:Int).toNat:Int)))=true then (gd (0≤x18_0) (gd (x18_0<((a1:Int).toNat:Int)) (Yc.l0 k a1 (x5_0.set (x18_0:Int).toNat (U8 (a1))) (I64 (x18_0+1))))) else (gd (0≤(I64 (a1-1))) (gd ((I64 (a1-1))<((a1:Int).toNat:Int)) (some (x5_0.set (I64 (a1-1):Int).toNat (U8 (a1))))))
def Yc.f (k:Nat) (a0:Int) (a1:Int):Option Li:=gd (0≤a1) (gd (a1≤1000000000) (if (a0==1)=true then (Yc.l0 k a1 (List.replicate ((a1:Int).toNat) (0:Int)) 0) else (if (a0==3)=true then (gd (0≤(I64 (a1-1))) (gd ((I64 (a1-1))<((a1:Int).toNat:Int)) (some ((List.replicate ((a1:Int).toNat) (0:Int)).set (I64 (a1-1):Int).toNat (U8 (a1)))))) else (if (a0==2)=true then (gd (0<((a1:Int).toNat:Int)) (some ((List.replicate ((a1:Int).toNat) (0:Int)).set (0:Int).toNat 128))) else (some (List.replicate ((a1:Int).toNat) (0:Int)))))))
abbrev Yc.R (r:Li) (w:World):Value→World→Prop:=fun v w'=> ∃A0' c0',v= .slice A0' r.length c0'∧Mem w w' (Gs [⟨.slice A0' r.length c0',5,1,nums .u8 r⟩] [])
theorem Yc.calls {a0:Int} {a1:Int} {r:Li} (h:Yc.f k a0 a1=some r):Calls prog 71 #[.i a0,.i a1] w (Ret (Yc.R r w)):=by
 unfold Yc.f at h
 refine calls_S func71 ?_
 have M:=Mem.r0 w
 refine .gq 7 ?_
 obtain ⟨c3,h⟩:=ifd h
 obtain ⟨c4,h⟩:=ifd h
 refine .mn 5 .u8 a1 a1 M fun g2 W1 M=> .gq 21 ?_
 rcases ift h with ⟨c6,h⟩ | ⟨c6,h⟩
 ·refine .kn 10 c6<| .gq 10 ?_
  have l0: ∀k_≤k,∀(x5_0:Li) (x18_0:Int) {W:World} (M:Mem w W (Gs [⟨.slice (pa g2) ((a1:Int).toNat) ((a1:Int).toNat),5,1,nums .u8 x5_0⟩] [])) (h:Yc.l0 k_ a1 x5_0 x18_0=some r),RL 71 f71 (Yc.R r w) [1,1,0,1,0,0,0,0,0,1,1,0,0] [(1,.i a1),(5,.slice (pa g2) ((a1:Int).toNat) ((a1:Int).toNat)),(17,.i ((a1:Int).toNat:Int)),(18,.i x18_0)] W:=by
   refine loopI (by intros;rename_i h;simp [Yc.l0] at h) fun k hk ih0 x5_0 x18_0 W M h=> ?_
   simp only [Yc.l0] at h
   refine .gq 5 ?_
   rcases ift h with ⟨c7,h⟩ | ⟨c7,h⟩
   ·refine .kn 19 c7<| .gq 14 ?_
    obtain ⟨c9,h⟩:=ifd h
    obtain ⟨c10,h⟩:=ifd h
    obtain ⟨pq8,Cq8⟩:=M.na 0 rfl c9 c10
    exact .ix Cq8<| .sn (U8 (a1)) Cq8 M 0 rfl fun W11 M=> .gq 7<| .at (ih0 k (by omega) (x5_0.set (x18_0:Int).toNat (U8 (a1))) (I64 (x18_0+1)) (M.pm [0] []) h)
   refine .kn 19 c7<| .gq 10 ?_
   obtain ⟨c13,h⟩:=ifd h
   obtain ⟨c14,h⟩:=ifd h
   obtain ⟨pq12,Cq12⟩:=M.na 0 rfl c13 c14
   refine .ix Cq12<| .sn (U8 (a1)) Cq12 M 0 rfl fun W15 M=> .gq 7 ?_
   obtain rfl:=sj h
   have hn0_:=(M.or 0).ln
   exact .ret (v:= .slice (pa g2) ((a1:Int).toNat) ((a1:Int).toNat)) func71 ⟨(pa g2),(a1:Int).toNat,(by rw [hn0_]),by rw [hn0_];exact (M.pm [0] [])⟩
  exact .at (l0 k k.le_refl (List.replicate ((a1:Int).toNat) (0:Int)) 0 (M.pm [0] []) h)
 refine .kn 10 c6<| .gq 8 ?_
 rcases ift h with ⟨c16,h⟩ | ⟨c16,h⟩
 ·refine .kn 12 c16<| .gq 9 ?_
  obtain ⟨c18,h⟩:=ifd h
  obtain ⟨c19,h⟩:=ifd h
  obtain ⟨pq17,Cq17⟩:=M.na 0 rfl c18 c19
  refine .ix Cq17<| .sn (U8 (a1)) Cq17 M 0 rfl fun W20 M=> .gq 7 ?_
  obtain rfl:=sj h
  have hn0_:=(M.or 0).ln
  exact .ret (v:= .slice (pa g2) ((a1:Int).toNat) ((a1:Int).toNat)) func71 ⟨(pa g2),(a1:Int).toNat,(by rw [hn0_]),by rw [hn0_];exact (M.pm [0] [])⟩
 refine .kn 12 c16<| .gq 7 ?_
 rcases ift h with ⟨c21,h⟩ | ⟨c21,h⟩
 ·refine .kn 14 c21<| .gq 5 ?_
  obtain ⟨c23,h⟩:=ifd h
  obtain ⟨pq22,Cq22⟩:=M.na 0 rfl (i:=0) (by omega) c23
  refine .ix Cq22<| .sn 128 Cq22 M 0 rfl fun W24 M=> .gq 7 ?_
  obtain rfl:=sj h
  have hn0_:=(M.or 0).ln
  exact .ret (v:= .slice (pa g2) ((a1:Int).toNat) ((a1:Int).toNat)) func71 ⟨(pa g2),(a1:Int).toNat,(by rw [hn0_]),by rw [hn0_];exact (M.pm [0] [])⟩
 refine .kn 14 c21<| .gq 8 ?_
 obtain rfl:=sj h
 have hn0_:=(M.or 0).ln
 exact .ret (v:= .slice (pa g2) ((a1:Int).toNat) ((a1:Int).toNat)) func71 ⟨(pa g2),(a1:Int).toNat,(by rw [hn0_]),by rw [hn0_];exact (M.pm [0] [])⟩
def V9.f (k:Nat) (a0:Int) (a1:Int) (a2:Li):Option (Li×Int):=(Ye.f k a0).bind fun t2=>(if (!t2)=true then (some (([]:Li),3)) else ((Yd.f k a1).bind fun t6=>(if (!t6)=true then (some (([]:Li),1)) else (if (decide ((a2.length:Int)≥a1))=true then (some (([]:Li),1)) else ((Yc.f k a0 (I64 (a1-(a2.length:Int)))).bind fun t12=>((Y3.f k ([a2,t12]:Lj)).bind fun t23=>(some (t23,0))))))))
theorem V9.calls {a0:Int} {a1:Int} {a2:Li} {r:Li×Int} (hr2:Rd w (.slice Ap2 np2 cp2) (nums .u8 a2)) (h:V9.f k a0 a1 a2=some r):Calls prog 31 #[.i a0,.i a1,(.slice Ap2 np2 cp2)] w (Ret fun v w'=> ∃A0' c0',v= .tuple #[.slice A0' r.1.length c0',.i r.2]∧Mem w w' (Gs [⟨.slice A0' r.1.length c0',5,1,nums .u8 r.1⟩] [])):=by
 obtain rfl:=hr2.ln
 unfold V9.f at h
 refine calls_S func31 ?_
 have M:=Mem.r0 w
 refine .gq 10 ?_
 obtain ⟨t2,ht2,h⟩:=bs h
 refine .ca (Ye.calls ht2) ?_
 rintro _ W1 ⟨rfl,M_⟩
 replace M:=M.cg M_
 refine .gq 3 ?_
 rcases ift h with ⟨c3,h⟩ | ⟨c3,h⟩
 ·refine .kn 8 c3<| .gq 6 ?_
  replace M:=M.n1 5
  obtain rfl:=sj h
  exact .ret func31 ⟨none,0,rfl,(M.pm [0] [])⟩
 refine .kn 8 c3<| .gq 5 ?_
 obtain ⟨t6,ht6,h⟩:=bs h
 refine .ca (Yd.calls ht6) ?_
 rintro _ W5 ⟨rfl,M_⟩
 replace M:=M.cg M_
 refine .gq 3 ?_
 rcases ift h with ⟨c7,h⟩ | ⟨c7,h⟩
 ·refine .kn 12 c7<| .gq 8 ?_
  replace M:=M.n1 5
  obtain rfl:=sj h
  exact .ret func31 ⟨none,0,rfl,(M.pm [0] [])⟩
 refine .kn 12 c7<| .gq 8 ?_
 rcases ift h with ⟨c9,h⟩ | ⟨c9,h⟩
 ·refine .kn 12 c9<| .gq 6 ?_
  replace M:=M.n1 5
  obtain rfl:=sj h
  exact .ret func31 ⟨none,0,rfl,(M.pm [0] [])⟩
 refine .kn 12 c9<| .gq 11 ?_
 obtain ⟨t12,ht12,h⟩:=bs h
 refine .ca (Yc.calls ht12) ?_
 rintro _ W11 ⟨A13,c14,rfl,M_⟩
 replace M:=M.cg M_
 obtain ⟨Fq16,hfq16,M⟩:=M.fs 0
 have hqq17:Each2 ((rNums .u8) (andZ (Kept w) (Oks Fq16))) [.slice Ap2 a2.length cp2,.slice A13 t12.length c14] ([a2,t12]:Lj):=(.cons (rno (RdF.up (RdF.of_rd hr2) (fun _ z=>z.1)) (ai M.kept (M.oks 0))) (.cons (rno (RdF.up hfq16 (fun _ z=>z.2)) (ai M.kept (M.oks 0))) (Each2.nil _)))
 refine .new 22 1 2 ([.slice Ap2 a2.length cp2,.slice A13 t12.length c14]) M (fun g18 W19 M=> ?_) rfl
 obtain ⟨Fq21,hfq21,M⟩:=M.fs 0
 obtain ⟨t23,ht23,h⟩:=bs h
 refine .ca (Y3.calls ⟨_,_,_,rfl,(hfq21.up (fun _ z=>z.1)),(Each2.up (up_nums .u8) hqq17 (fun _ z=>(ai z.2.1 z.2.2)))⟩ (fun _ z=>(ai ((M.oks 0).kept z) (ai (M.kept.trans z) ((M.oks 1).kept z)))) ht23) ?_
 rintro _ W22 ⟨A24,c25,rfl,M_⟩
 replace M:=M.cg M_
 refine .gq 3 ?_
 obtain rfl:=sj h
 exact .ret func31 ⟨A24,c25,rfl,(M.pm [0] [])⟩
def Qu.f (k:Nat) (a0:Li) (a1:Li):Option (Bool):=some ((strOf a0).toList==(strOf a1).toList)
theorem Qu.calls {a0:Li} {a1:Li} {r:Bool} (hr0:Rd w (.slice Ap0 np0 cp0) (nums .u8 a0)) (hr1:Rd w (.slice Ap1 np1 cp1) (nums .u8 a1)) (h:Qu.f k a0 a1=some r):Calls prog 121 #[(.slice Ap0 np0 cp0),(.slice Ap1 np1 cp1)] w (Ret fun v w'=>v= .bool r∧Mem w w' (Gs [] [])):=by
 obtain rfl:=hr0.ln
 obtain rfl:=hr1.ln
 unfold Qu.f at h
 refine calls_S func121 ?_
 have M:=Mem.r0 w
 refine .gq 7<| .y (yl_str (xs:=a0)) (hr0.mono M.below)<| .gq 1<| .y (yl_str (xs:=a1)) (hr1.mono M.below)<| .gq 3 ?_
 obtain rfl:=sj h
 exact .ret func121 ⟨rfl,(M.pm [] [])⟩
def Qt.l0:Nat→Li→Int→Int→Option (Int)
 | 0,_,_,_=>none
 | k+1,a0,a1,x5_0=>if (decide (x5_0≥0))=true then (gd (0≤x5_0) (gd (x5_0<(a0.length:Int)) (if ((rd a0 x5_0)==a1)=true then (some x5_0) else (Qt.l0 k a0 a1 (I64 (x5_0-1)))))) else (some (-1))
def Qt.f (k:Nat) (a0:Li) (a1:Int):Option (Int):=Qt.l0 k a0 a1 (I64 ((a0.length:Int)-1))
abbrev Qt.R (r:Int) (w:World):Value→World→Prop:=fun v w'=>v= .i r∧Mem w w' (Gs [] [])
theorem Qt.calls {a0:Li} {a1:Int} {r:Int} (hr0:Rd w (.slice Ap0 np0 cp0) (nums .u8 a0)) (h:Qt.f k a0 a1=some r):Calls prog 163 #[(.slice Ap0 np0 cp0),.y a1] w (Ret (Qt.R r w)):=by
 obtain rfl:=hr0.ln
 unfold Qt.f at h
 refine calls_S func163 ?_
 have M:=Mem.r0 w
 refine .gq 14 ?_
 have l0: ∀k_≤k,∀(x5_0:Int) {W:World} (M:Mem w W (Gs [] [])) (h:Qt.l0 k_ a0 a1 x5_0=some r),RL 163 f163 (Qt.R r w) [1,0,1,0,0] [(0,.slice Ap0 a0.length cp0),(1,.y a1),(5,.i x5_0)] W:=by
  refine loopI (by intros;rename_i h;simp [Qt.l0] at h) fun k hk ih0 x5_0 W M h=> ?_
  simp only [Qt.l0] at h
  refine .gq 6 ?_
  rcases ift h with ⟨c1,h⟩ | ⟨c1,h⟩
  ·refine .kn 10 c1<| .gq 8 ?_
   obtain ⟨c3,h⟩:=ifd h
   obtain ⟨c4,h⟩:=ifd h
   obtain ⟨pq2,Cq2⟩:=(hr0.mono M.below).na c3 c4
   refine .ix Cq2<| .lc Cq2<| .gq 3 ?_
   rcases ift h with ⟨c5,h⟩ | ⟨c5,h⟩
   ·refine .kn 18 c5<| .gq 6 ?_
    obtain rfl:=sj h
    exact .ret func163 ⟨rfl,(M.pm [] [])⟩
   exact .kn 18 c5<| .gq 9<| .at (ih0 k (by omega) (I64 (x5_0-1)) (M.pm [] []) h)
  refine .kn 10 c1<| .gq 6 ?_
  obtain rfl:=sj h
  exact .ret func163 ⟨rfl,(M.pm [] [])⟩
 exact .at (l0 k k.le_refl (I64 ((a0.length:Int)-1)) (M.pm [] []) h)
def Qv.f (k:Nat) (a0:Li) (a1:Int):Option (Int):=(Qt.f k a0 a1).bind fun t2=>(some t2)
theorem Qv.calls {a0:Li} {a1:Int} {r:Int} (hr0:Rd w (.slice Ap0 np0 cp0) (nums .u8 a0)) (h:Qv.f k a0 a1=some r):Calls prog 122 #[(.slice Ap0 np0 cp0),.y a1] w (Ret fun v w'=>v= .i r∧Mem w w' (Gs [] [])):=by
 obtain rfl:=hr0.ln
 unfold Qv.f at h
 refine calls_S func122 ?_
 have M:=Mem.r0 w
 refine .gq 8 ?_
 obtain ⟨t2,ht2,h⟩:=bs h
 refine .ca (Qt.calls (hr0.mono M.below) ht2) ?_
 rintro _ W1 ⟨rfl,M_⟩
 replace M:=M.cg M_
 refine .gq 2 ?_
 obtain rfl:=sj h
 exact .ret func122 ⟨rfl,(M.pm [] [])⟩
def Yb.l0:Nat→Int→Li→Option (Int)
 | 0,_,_=>none
 | k+1,a0,a1=>(Qv.f k a1 128).bind fun t6=>(if (decide ((I64 ((a1.length:Int)-t6))>(a1.length:Int)))=true then (some 0) else (gd (0≤(I64 ((a1.length:Int)-(I64 ((a1.length:Int)-t6))))) (gd ((I64 ((a1.length:Int)-(I64 ((a1.length:Int)-t6))))≤(a1.length:Int)) ((Yc.f k a0 (I64 ((a1.length:Int)-t6))).bind fun t15=>((Qu.f k ((a1.take ((a1.length:Int):Int).toNat).drop (I64 ((a1.length:Int)-(I64 ((a1.length:Int)-t6))):Int).toNat) t15).bind fun t20=>((some (I64 ((a1.length:Int)-(I64 ((a1.length:Int)-t6))):Int)).bind fun y21=>((some (decide ((I64 ((a1.length:Int)-t6))>(a1.length:Int)):Bool)).bind fun y22=>(if (!t20)=true then (some 0) else (some (I64 ((a1.length:Int)-t6)))))))))))
def Yb.f (k:Nat) (a0:Int) (a1:Li):Option (Int):=gd (0≤(I64 ((a1.length:Int)-1))) (gd ((I64 ((a1.length:Int)-1))<(a1.length:Int)) (if (a0==2)=true then (Yb.l0 k a0 a1) else (if (decide ((I64 (rd a1 (I64 ((a1.length:Int)-1))))<1))=true then (some 0) else (if (decide ((I64 (rd a1 (I64 ((a1.length:Int)-1))))>(a1.length:Int)))=true then (some 0) else (if (a0==1)=true then (gd (0≤(I64 ((a1.length:Int)-(I64 (rd a1 (I64 ((a1.length:Int)-1))))))) (gd ((I64 ((a1.length:Int)-(I64 (rd a1 (I64 ((a1.length:Int)-1))))))≤(a1.length:Int)) ((Yc.f k a0 (I64 (rd a1 (I64 ((a1.length:Int)-1))))).bind fun t34=>((Qu.f k ((a1.take ((a1.length:Int):Int).toNat).drop (I64 ((a1.length:Int)-(I64 (rd a1 (I64 ((a1.length:Int)-1))))):Int).toNat) t34).bind fun t39=>((some (decide ((I64 (rd a1 (I64 ((a1.length:Int)-1))))<1):Bool)).bind fun y40=>((some (I64 ((a1.length:Int)-(I64 (rd a1 (I64 ((a1.length:Int)-1))))):Int)).bind fun y41=>((some (decide ((I64 (rd a1 (I64 ((a1.length:Int)-1))))>(a1.length:Int)):Bool)).bind fun y42=>(if (!t39)=true then (some 0) else (some (I64 (rd a1 (I64 ((a1.length:Int)-1))))))))))))) else (some (I64 (rd a1 (I64 ((a1.length:Int)-1))))))))))
abbrev Yb.R (r:Int) (w:World):Value→World→Prop:=fun v w'=>v= .i r∧Mem w w' (Gs [] [])
theorem Yb.calls {a0:Int} {a1:Li} {r:Int} (hr1:Rd w (.slice Ap1 np1 cp1) (nums .u8 a1)) (h:Yb.f k a0 a1=some r):Calls prog 75 #[.i a0,(.slice Ap1 np1 cp1)] w (Ret (Yb.R r w)):=by
 obtain rfl:=hr1.ln
 unfold Yb.f at h
 refine calls_S func75 ?_
 have M:=Mem.r0 w
 refine .gq 16 ?_
 obtain ⟨c2,h⟩:=ifd h
 obtain ⟨c3,h⟩:=ifd h
 obtain ⟨pq1,Cq1⟩:=(hr1.mono M.below).na c2 c3
 refine .ix Cq1<| .lc Cq1<| .gq 9 ?_
 rcases ift h with ⟨c4,h⟩ | ⟨c4,h⟩
 ·refine .kn 16 c4<| .gq 4 ?_
  have l0: ∀k_≤k,∀ {W:World} (M:Mem w W (Gs [] [])) (h:Yb.l0 k_ a0 a1=some r),RL 75 f75 (Yb.R r w) [1,0,1,1,1,1,1,1] [(0,.i a0),(1,.slice Ap1 a1.length cp1),(5,.i (a1.length:Int))] W:=by
   refine loopI (by intros;rename_i h;simp [Yb.l0] at h) fun k hk ih0 W M h=> ?_
   simp only [Yb.l0] at h
   refine .gq 4 ?_
   obtain ⟨t6,ht6,h⟩:=bs h
   refine .ca (Qv.calls (hr1.mono M.below) ht6) ?_
   rintro _ W5 ⟨rfl,M_⟩
   replace M:=M.cg M_
   refine .gq 5<| .at (show RL 75 f75 (Yb.R r w) [1,0,1,1,1,1,1,1,1,0,0] [(0,.i a0),(1,.slice Ap1 a1.length cp1),(5,.i (a1.length:Int)),(6,.i (I64 ((a1.length:Int)-t6)))] _ from .dr [] M fun W7 M=> ?_)
   refine .pz tr [0,1,2,3] ?_
   rcases ift h with ⟨c8,h⟩ | ⟨c8,h⟩
   ·refine .kn 48 c8<| .pz tr [4,5,6,7,8,9,10,11,12,13,14]<| .dn tr<| .gq 5 ?_
    obtain rfl:=sj h
    exact .ret func75 ⟨rfl,(M.pm [] [])⟩
   refine .kn 48 c8<| .pz tr [4,5,6,7] ?_
   obtain ⟨c9,h⟩:=ifd h
   obtain ⟨c10,h⟩:=ifd h
   refine .ct tr 8 (I64 ((a1.length:Int)-(I64 ((a1.length:Int)-t6)))) (a1.length:Int) (hr1.mono M.below) fun A11 c12 hs13=> .pz tr [9,10] ?_
   obtain ⟨t15,ht15,h⟩:=bs h
   refine .a1 tr 11<| .ca (Yc.calls ht15) ?_
   rintro _ W14 ⟨A16,c17,rfl,M_⟩
   refine .ca M_ [] ?_
   replace M:=M.cg M_
   obtain ⟨t20,ht20,h⟩:=bs h
   refine .a1 tr 12<| .ca (Qu.calls (hs13 _ (hr1.mono M.below)) (M.or 0) ht20) ?_
   rintro _ W19 ⟨rfl,M_⟩
   refine .ca M_ [] ?_
   replace M:=M.cg M_
   refine .pz tr [13,14]<| .dn tr ?_
   let y21:Int:=I64 ((a1.length:Int)-(I64 ((a1.length:Int)-t6)))
   replace h:=bz (y:=y21) h rfl
   let y22:Bool:=decide ((I64 ((a1.length:Int)-t6))>(a1.length:Int))
   replace h:=bz (y:=y22) h rfl
   rcases ift h with ⟨c23,h⟩ | ⟨c23,h⟩
   ·refine .kn 59 c23<| .gq 5 ?_
    obtain rfl:=sj h
    exact .ret func75 ⟨rfl,(M.pm [] [])⟩
   refine .kn 59 c23<| .gq 7 ?_
   obtain rfl:=sj h
   exact .ret func75 ⟨rfl,(M.pm [] [])⟩
  exact .at (l0 k k.le_refl (M.pm [] []) h)
 refine .kn 16 c4<| .gq 4<| .at (show RL 75 f75 (Yb.R r w) [1,0,1,1,1,0,0] [(0,.i a0),(1,.slice Ap1 a1.length cp1),(5,.i (a1.length:Int)),(6,.i (I64 (rd a1 (I64 ((a1.length:Int)-1)))))] _ from .dr [] M fun W24 M=> ?_)
 refine .pz tr [0,1,2] ?_
 rcases ift h with ⟨c25,h⟩ | ⟨c25,h⟩
 ·refine .kn 19 c25<| .pz tr [3,4,5,6,7,8,9,10,11,12,13,14,15,16,17,18,19,20,21,22]<| .dn tr<| .gq 5 ?_
  obtain rfl:=sj h
  exact .ret func75 ⟨rfl,(M.pm [] [])⟩
 refine .kn 19 c25<| .pz tr [3,4,5,6,7] ?_
 rcases ift h with ⟨c26,h⟩ | ⟨c26,h⟩
 ·refine .kn 24 c26<| .pz tr [8,9,10,11,12,13,14,15,16,17,18,19,20,21,22]<| .dn tr<| .gq 5 ?_
  obtain rfl:=sj h
  exact .ret func75 ⟨rfl,(M.pm [] [])⟩
 refine .kn 24 c26<| .pz tr [8,9,10] ?_
 rcases ift h with ⟨c27,h⟩ | ⟨c27,h⟩
 ·refine .kn 27 c27<| .pz tr [11,12,13,14] ?_
  obtain ⟨c28,h⟩:=ifd h
  obtain ⟨c29,h⟩:=ifd h
  refine .ct tr 15 (I64 ((a1.length:Int)-(I64 (rd a1 (I64 ((a1.length:Int)-1)))))) (a1.length:Int) (hr1.mono M.below) fun A30 c31 hs32=> .pz tr [16,17] ?_
  obtain ⟨t34,ht34,h⟩:=bs h
  refine .a1 tr 18<| .ca (Yc.calls ht34) ?_
  rintro _ W33 ⟨A35,c36,rfl,M_⟩
  refine .ca M_ [] ?_
  replace M:=M.cg M_
  obtain ⟨t39,ht39,h⟩:=bs h
  refine .a1 tr 19<| .ca (Qu.calls (hs32 _ (hr1.mono M.below)) (M.or 0) ht39) ?_
  rintro _ W38 ⟨rfl,M_⟩
  refine .ca M_ [] ?_
  replace M:=M.cg M_
  refine .pz tr [20,21,22]<| .dn tr ?_
  let y40:Bool:=decide ((I64 (rd a1 (I64 ((a1.length:Int)-1))))<1)
  replace h:=bz (y:=y40) h rfl
  let y41:Int:=I64 ((a1.length:Int)-(I64 (rd a1 (I64 ((a1.length:Int)-1)))))
  replace h:=bz (y:=y41) h rfl
  let y42:Bool:=decide ((I64 (rd a1 (I64 ((a1.length:Int)-1))))>(a1.length:Int))
  replace h:=bz (y:=y42) h rfl
  rcases ift h with ⟨c43,h⟩ | ⟨c43,h⟩
  ·refine .kn 39 c43<| .gq 5 ?_
   obtain rfl:=sj h
   exact .ret func75 ⟨rfl,(M.pm [] [])⟩
  refine .kn 39 c43<| .gq 8 ?_
  obtain rfl:=sj h
  exact .ret func75 ⟨rfl,(M.pm [] [])⟩
 refine .kn 27 c27<| .pz tr [11,12,13,14,15,16,17,18,19,20,21,22]<| .dn tr<| .gq 8 ?_
 obtain rfl:=sj h
 exact .ret func75 ⟨rfl,(M.pm [] [])⟩
def Ya.f (k:Nat) (a0:Int) (a1:Int) (a2:Li):Option (Li×Int):=(Ye.f k a0).bind fun t2=>(if (!t2)=true then (some (([]:Li),3)) else ((Yd.f k a1).bind fun t6=>(if (!t6)=true then (some (([]:Li),1)) else (if ((a2.length:Int) != a1)=true then (some (([]:Li),1)) else ((Yb.f k a0 a2).bind fun t12=>(if (t12==0)=true then (some (([]:Li),8)) else (gd (0≤(I64 (a1-t12))) (gd ((I64 (a1-t12))≤(a2.length:Int)) ((Yz.f k ((a2.take (I64 (a1-t12):Int).toNat).drop (0:Int).toNat)).bind fun t21=>(some (t21,0)))))))))))
theorem Ya.calls {a0:Int} {a1:Int} {a2:Li} {r:Li×Int} (hr2:Rd w (.slice Ap2 np2 cp2) (nums .u8 a2)) (h:Ya.f k a0 a1 a2=some r):Calls prog 34 #[.i a0,.i a1,(.slice Ap2 np2 cp2)] w (Ret fun v w'=> ∃A0' c0',v= .tuple #[.slice A0' r.1.length c0',.i r.2]∧Mem w w' (Gs [⟨.slice A0' r.1.length c0',5,1,nums .u8 r.1⟩] [])):=by
 obtain rfl:=hr2.ln
 unfold Ya.f at h
 refine calls_S func34 ?_
 have M:=Mem.r0 w
 refine .gq 10 ?_
 obtain ⟨t2,ht2,h⟩:=bs h
 refine .ca (Ye.calls ht2) ?_
 rintro _ W1 ⟨rfl,M_⟩
 replace M:=M.cg M_
 refine .gq 3 ?_
 rcases ift h with ⟨c3,h⟩ | ⟨c3,h⟩
 ·refine .kn 9 c3<| .gq 6 ?_
  replace M:=M.n1 5
  obtain rfl:=sj h
  exact .ret func34 ⟨none,0,rfl,(M.pm [0] [])⟩
 refine .kn 9 c3<| .gq 5 ?_
 obtain ⟨t6,ht6,h⟩:=bs h
 refine .ca (Yd.calls ht6) ?_
 rintro _ W5 ⟨rfl,M_⟩
 replace M:=M.cg M_
 refine .gq 3 ?_
 rcases ift h with ⟨c7,h⟩ | ⟨c7,h⟩
 ·refine .kn 13 c7<| .gq 8 ?_
  replace M:=M.n1 5
  obtain rfl:=sj h
  exact .ret func34 ⟨none,0,rfl,(M.pm [0] [])⟩
 refine .kn 13 c7<| .gq 8 ?_
 rcases ift h with ⟨c9,h⟩ | ⟨c9,h⟩
 ·refine .kn 13 c9<| .gq 6 ?_
  replace M:=M.n1 5
  obtain rfl:=sj h
  exact .ret func34 ⟨none,0,rfl,(M.pm [0] [])⟩
 refine .kn 13 c9<| .gq 7 ?_
 obtain ⟨t12,ht12,h⟩:=bs h
 refine .ca (Yb.calls (hr2.mono M.below) ht12) ?_
 rintro _ W11 ⟨rfl,M_⟩
 replace M:=M.cg M_
 refine .gq 8 ?_
 rcases ift h with ⟨c13,h⟩ | ⟨c13,h⟩
 ·refine .kn 25 c13<| .gq 6 ?_
  replace M:=M.n1 5
  obtain rfl:=sj h
  exact .ret func34 ⟨none,0,rfl,(M.pm [0] [])⟩
 refine .kn 25 c13<| .gq 8 ?_
 obtain ⟨c15,h⟩:=ifd h
 obtain ⟨c16,h⟩:=ifd h
 refine .ct 0 (I64 (a1-t12)) (hr2.mono M.below) fun A17 c18 hs19=> ?_
 obtain ⟨t21,ht21,h⟩:=bs h
 refine .ca (Yz.calls (hs19 _ (hr2.mono M.below)) ht21) ?_
 rintro _ W20 ⟨A22,c23,rfl,M_⟩
 replace M:=M.cg M_
 refine .gq 3 ?_
 obtain rfl:=sj h
 exact .ret func34 ⟨A22,c23,rfl,(M.pm [0] [])⟩
theorem Vb.keep {k:Nat} {a0:Cy} {a1:Li} {r:Li×Cy} (h:Vb.f k a0 a1=some r):r.2.2.2.2.2.1=a0.2.2.2.2.1:=by
 unfold Vb.f at h
 obtain ⟨_,_,h⟩:=bs h
 obtain ⟨_,_,h⟩:=bs h
 obtain ⟨_,_,h⟩:=bs h
 obtain ⟨_,_,h⟩:=bs h
 obtain ⟨_,_,h⟩:=bs h
 rcases ift h with ⟨_,h⟩ | ⟨_,h⟩
 ·rcases iftd h with ⟨_,h⟩ | ⟨_,h⟩
  ·rcases ift h with ⟨_,h⟩ | ⟨_,h⟩
   ·obtain ⟨_,h⟩:=ifd h
    obtain ⟨_,h⟩:=ifd h
    obtain ⟨_,_,h⟩:=bs h
    obtain rfl:=sj h;rfl
   obtain ⟨_,h⟩:=ifd h
   obtain ⟨_,h⟩:=ifd h
   obtain ⟨_,_,h⟩:=bs h
   obtain rfl:=sj h;rfl
  obtain rfl:=sj h;rfl
 obtain rfl:=sj h;rfl
def Q7.f (k:Nat) (a0:Cy) (a1:Li):Option (Li×Cy):=(a0.2.2.2.2.2.2.1).bind fun s6=>((Qy.f k s6).bind fun t10=>((Va.f k (a0.1,a0.2.1,a0.2.2.1,a0.2.2.2.1,a0.2.2.2.2.1,a0.2.2.2.2.2.1,(some s6),a0.2.2.2.2.2.2.2.1,(some a0.2.2.2.2.2.2.2.2.1),a0.2.2.2.2.2.2.2.2.2.1,a0.2.2.2.2.2.2.2.2.2.2)).bind fun t12=>(if t12=true then ((Ko.f k s6 a0.2.2.2.1 a0.2.2.2.2.2.1 a0.2.2.2.2.2.2.2.2.2.2 a1).bind fun t16=>((Ve.f k t16.2).bind fun t21=>(some (t16.1,(a0.1,a0.2.1,a0.2.2.1,a0.2.2.2.1,a0.2.2.2.2.1,a0.2.2.2.2.2.1,(some s6),a0.2.2.2.2.2.2.2.1,a0.2.2.2.2.2.2.2.2.1,a0.2.2.2.2.2.2.2.2.2.1,a0.2.2.2.2.2.2.2.2.2.2))))) else (if (a0.2.2.2.2.1==4)=true then ((Vb.f k (a0.1,a0.2.1,a0.2.2.1,a0.2.2.2.1,a0.2.2.2.2.1,a0.2.2.2.2.2.1,(some s6),a0.2.2.2.2.2.2.2.1,a0.2.2.2.2.2.2.2.2.1,a0.2.2.2.2.2.2.2.2.2.1,a0.2.2.2.2.2.2.2.2.2.2) a1).bind fun t24=>(some (t24.1,t24.2))) else (if (!a0.2.2.2.2.2.1)=true then ((V9.f k a0.2.2.2.2.1 t10 a1).bind fun t37=>((Ve.f k t37.2).bind fun t42=>((Vb.f k (a0.1,a0.2.1,a0.2.2.1,a0.2.2.2.1,a0.2.2.2.2.1,a0.2.2.2.2.2.1,(some s6),a0.2.2.2.2.2.2.2.1,a0.2.2.2.2.2.2.2.2.1,a0.2.2.2.2.2.2.2.2.2.1,a0.2.2.2.2.2.2.2.2.2.2) t37.1).bind fun t44=>(some (t44.1,t44.2))))) else (if ((a1.length:Int) != t10)=true then ((Ve.f k 7).bind fun t57=>((Vb.f k (a0.1,a0.2.1,a0.2.2.1,a0.2.2.2.1,a0.2.2.2.2.1,a0.2.2.2.2.2.1,(some s6),a0.2.2.2.2.2.2.2.1,a0.2.2.2.2.2.2.2.2.1,a0.2.2.2.2.2.2.2.2.2.1,a0.2.2.2.2.2.2.2.2.2.2) a1).bind fun t60=>((Ya.f k a0.2.2.2.2.1 t10 t60.1).bind fun t72=>((Ve.f k t72.2).bind fun t77=>(some (t72.1,t60.2)))))) else ((Vb.f k (a0.1,a0.2.1,a0.2.2.1,a0.2.2.2.1,a0.2.2.2.2.1,a0.2.2.2.2.2.1,(some s6),a0.2.2.2.2.2.2.2.1,a0.2.2.2.2.2.2.2.2.1,a0.2.2.2.2.2.2.2.2.2.1,a0.2.2.2.2.2.2.2.2.2.2) a1).bind fun t99=>((Ya.f k a0.2.2.2.2.1 t10 t99.1).bind fun t111=>((Ve.f k t111.2).bind fun t116=>(some (t111.1,t99.2)))))))))))
abbrev Q7.R (gp0:Nat) (r:Li×Cy) (w0:World) (FT:List Ent) (Zm:Zp):Value→World→Prop:=fun v w'=> ∃A0' c0',∃(cs':List Value) (F':List Ent) (gq8':Nat) (csq8':List Value) (eq85':Ent),v= .slice A0' r.1.length c0'∧MxB_ctx_Ctx (andZ (Oks F') Zm) (.pointer (some ⟨gq8',0,none⟩)) cs' r.2∧Rs_modes_Mode (andZ (Oks F') Zm) csq8' r.2.2.2.2.2.2.2.2.2.1∧Own5 eq85' csq8' r.2.2.2.2.2.2.2.2.2.1∧Mem w0 w' (Gs [⟨.slice A0' r.1.length c0',5,1,nums .u8 r.1⟩,⟨.pt gp0,72,0,cs'⟩,⟨(.pointer (some ⟨gq8',0,none⟩)),100,0,csq8'⟩,eq85'] [F',FT])
theorem Q7.calls {gp0:Nat} {csp0:List Value} {a0:Cy} {gq8:Nat} {csq8:List Value} {eq85:Ent} {a1:Li} {r:Li×Cy} (hp0:MxB_ctx_Ctx Zm (.pt gq8) csp0 a0) (hq8:Rs_modes_Mode Zm csq8 a0.2.2.2.2.2.2.2.2.1) (hq85:Own5 eq85 csq8 a0.2.2.2.2.2.2.2.2.1) (hZm: ∀W,Kept w0 W→Oks FT W→Zm W) (M0:Mem w0 w (Gs [⟨.pt gp0,72,0,csp0⟩,⟨(.pt gq8),100,0,csq8⟩,eq85] [FT])) (hr1:RdF Zp1 (.slice Ap1 np1 cp1) (nums .u8 a1)) (hZp1: ∀W,Kept w0 W→Oks FT W→Zp1 W) (h:Q7.f k a0 a1=some r):Calls prog 52 #[.pt gp0,(.slice Ap1 np1 cp1)] w (Ret (Q7.R gp0 r w0 FT Zm)):=by
 obtain rfl:=(hr1 _ (hZp1 _ M0.kept (M0.oks 0))).ln
 obtain ⟨uo3_0,_,_,_,_,uo3_5,rfl,ho3_0,rfl,rfl,⟨Ao3_3,co3_3,rfl,ho3_3⟩,⟨Ao3_4,co3_4,rfl,ho3_4⟩⟩:=hq8
 obtain ⟨_,_,_,_,_,_,uo5_6,_,_,_,rfl,rfl,rfl,rfl,rfl,rfl,rfl,ho5_6,⟨Ao5_7,co5_7,rfl,ho5_7⟩,⟨Ao5_9,co5_9,rfl,ho5_9⟩,⟨Ao5_10,co5_10,rfl,ho5_10⟩⟩:=hp0
 unfold Q7.f at h
 refine calls_S func52 ?_
 have M:=M0
 refine .gq 9<| .lv M 0 rfl 6 rfl ?_
 obtain ⟨s6,hx_,h⟩:=bs h
 have hps6:=rOpt.some ho5_6 hx_
 obtain ⟨g7,_,rfl,hco8,_,uo8_1,rfl,rfl,ho8_1⟩:=id hps6
 obtain ⟨t10,ht10,h⟩:=bs h
 refine .ca (Qy.calls hps6 (zk M hZm 0) ht10) ?_
 rintro _ W9 ⟨rfl,M_⟩
 replace M:=M.cg M_
 refine .gq 6 ?_
 obtain ⟨t12,ht12,h⟩:=bs h
 refine .ca (Va.calls (Zp0:=Kept W9) (a0:=(a0.1,a0.2.1,a0.2.2.1,a0.2.2.2.1,a0.2.2.2.2.1,a0.2.2.2.2.2.1,(some s6),a0.2.2.2.2.2.2.2.1,(some a0.2.2.2.2.2.2.2.2.1),a0.2.2.2.2.2.2.2.2.2.1,a0.2.2.2.2.2.2.2.2.2.2)) ⟨gp0,_,rfl,(M.cellsKept 0 rfl),_,_,_,_,_,_,_,_,_,_,_,rfl,rfl,rfl,rfl,rfl,rfl,rfl,(upc _ _ _ _ (zk M hZm 0) (.inr ⟨s6,rfl,hps6⟩)),(upn (zk M hZm 0) (rno ho5_7 (zl M hZm 0))),(.inr ⟨_,rfl,⟨gq8,_,rfl,(M.cellsKept 1 rfl),_,_,_,_,_,_,rfl,(upc _ _ _ _ (zk M hZm 0) ho3_0),rfl,rfl,(upn (zk M hZm 0) (rno ho3_3 (zl M hZm 0))),(upn (zk M hZm 0) (rno ho3_4 (zl M hZm 0)))⟩⟩),(upn (zk M hZm 0) (rno ho5_9 (zl M hZm 0))),(upn (zk M hZm 0) (rno ho5_10 (zl M hZm 0)))⟩ (fun _ h_=>h_) ht12) ?_
 rintro _ W11 ⟨rfl,M_⟩
 replace M:=M.cg M_
 refine .gq 1 ?_
 rcases ift h with ⟨c13,h⟩ | ⟨c13,h⟩
 ·refine .kn 18 c13<| .gq 2<| .at (show RL 52 f52 (Q7.R gp0 r w0 FT Zm) [1,1,0,1,0,0] [(0,.pt gp0),(1,.slice Ap1 a1.length cp1)] _ from .dr [] M fun W14 M=> ?_)
  refine .pz tr [0,1,2]<| .lv tr 3 M 0 rfl 6 rfl<| .pz tr [4,5,6,7]<| .lv tr 8 M 0 rfl 3 rfl<| .pz tr [9,10,11,12]<| .lv tr 13 M 0 rfl 5 rfl<| .pz tr [14,15,16]<| .lv tr 17 M 0 rfl 10 rfl<| .pz tr [18] ?_
  obtain ⟨t16,ht16,h⟩:=bs h
  refine .a1 tr 19<| .ca (Ko.calls (ho5_10 _ (zl M hZm 0)) (hr1 _ (zl M hZp1 0)) hps6 (zk M hZm 0) ht16) ?_
  rintro _ W15 ⟨A17,c18,rfl,M_⟩
  refine .ca M_ [] ?_
  replace M:=M.cg M_
  refine .pz tr [20,21,22,23,24]<| .dn tr<| .gq 3 ?_
  obtain ⟨t21,ht21,h⟩:=bs h
  refine .ca (Ve.calls ht21) ?_
  rintro _ W20 ⟨rfl,M_⟩
  replace M:=M.cg M_
  refine .gq 6 ?_
  obtain rfl:=sj h
  exact .ret func52 ⟨A17,c18,[.bool a0.1,.bool a0.2.1,.i a0.2.2.1,.i a0.2.2.2.1,.i a0.2.2.2.2.1,.bool a0.2.2.2.2.2.1,.pt g7,.slice Ao5_7 a0.2.2.2.2.2.2.2.1.length co5_7,.pt gq8,.slice Ao5_9 a0.2.2.2.2.2.2.2.2.2.1.length co5_9,.slice Ao5_10 a0.2.2.2.2.2.2.2.2.2.2.length co5_10],([]:List Ent),gq8,[uo3_0,.i a0.2.2.2.2.2.2.2.2.1.2.1,.bool a0.2.2.2.2.2.2.2.2.1.2.2.1,.slice Ao3_3 a0.2.2.2.2.2.2.2.2.1.2.2.2.1.length co3_3,.slice Ao3_4 a0.2.2.2.2.2.2.2.2.1.2.2.2.2.1.length co3_4,uo3_5],eq85,rfl,⟨_,_,_,_,_,_,_,_,_,_,rfl,rfl,rfl,rfl,rfl,rfl,rfl,(upc _ _ _ _ (fun _ z=>z.2) (.inr ⟨s6,rfl,hps6⟩)),(upn (fun _ z=>z.2) (rno ho5_7 (zl M hZm 0))),(upn (fun _ z=>z.2) (rno ho5_9 (zl M hZm 0))),(upn (fun _ z=>z.2) (rno ho5_10 (zl M hZm 0)))⟩,⟨_,_,_,_,_,_,rfl,(upc _ _ _ _ (fun _ z=>z.2) ho3_0),rfl,rfl,(upn (fun _ z=>z.2) (rno ho3_3 (zl M hZm 0))),(upn (fun _ z=>z.2) (rno ho3_4 (zl M hZm 0)))⟩,hq85,(M.pm [0,1,2,3] [[],[0]])⟩
 refine .kn 18 c13<| .gq 9<| .lv M 0 rfl 4 rfl<| .gq 2 ?_
 rcases ift h with ⟨c22,h⟩ | ⟨c22,h⟩
 ·refine .kn 50 c22<| .gq 5 ?_
  have hs25:MxB_ctx_Ctx Zm (.pt gq8) [.bool a0.1,.bool a0.2.1,.i a0.2.2.1,.i a0.2.2.2.1,.i a0.2.2.2.2.1,.bool a0.2.2.2.2.2.1,.pt g7,.slice Ao5_7 a0.2.2.2.2.2.2.2.1.length co5_7,.pt gq8,.slice Ao5_9 a0.2.2.2.2.2.2.2.2.2.1.length co5_9,.slice Ao5_10 a0.2.2.2.2.2.2.2.2.2.2.length co5_10] (a0.1,a0.2.1,a0.2.2.1,a0.2.2.2.1,a0.2.2.2.2.1,a0.2.2.2.2.2.1,(some s6),a0.2.2.2.2.2.2.2.1,a0.2.2.2.2.2.2.2.2.1,a0.2.2.2.2.2.2.2.2.2.1,a0.2.2.2.2.2.2.2.2.2.2):=⟨_,_,_,_,_,_,_,_,_,_,rfl,rfl,rfl,rfl,rfl,rfl,rfl,(upc _ _ _ _ (fun _ z=>z) (.inr ⟨s6,rfl,hps6⟩)),(upn (fun _ z=>z) (rno ho5_7 (zl M hZm 0))),(upn (fun _ z=>z) (rno ho5_9 (zl M hZm 0))),(upn (fun _ z=>z) (rno ho5_10 (zl M hZm 0)))⟩
  have hs26:Rs_modes_Mode Zm [uo3_0,.i a0.2.2.2.2.2.2.2.2.1.2.1,.bool a0.2.2.2.2.2.2.2.2.1.2.2.1,.slice Ao3_3 a0.2.2.2.2.2.2.2.2.1.2.2.2.1.length co3_3,.slice Ao3_4 a0.2.2.2.2.2.2.2.2.1.2.2.2.2.1.length co3_4,uo3_5] a0.2.2.2.2.2.2.2.2.1:=⟨_,_,_,_,_,_,rfl,(upc _ _ _ _ (fun _ z=>z) ho3_0),rfl,rfl,(upn (fun _ z=>z) (rno ho3_3 (zl M hZm 0))),(upn (fun _ z=>z) (rno ho3_4 (zl M hZm 0)))⟩
  obtain ⟨t24,ht24,h⟩:=bs h
  refine .ca (Vb.calls (hp0:=hs25) (hq8:=hs26) (hq85:=hq85) (hZm:=fun _ hk_ hT_=>(hZm _ hk_ (hT_.fg 0 rfl))) (M0:=M.fm [0,1,2] [] [0] rfl rfl rfl) (Zp1:=fun W_=>Rd W_ (.slice Ap1 a1.length cp1) (nums .u8 a1)) (hr1:=fun _ h_=>h_) (hZp1:=fun _ hk_ hT_=>(hr1 _ (hZp1 _ hk_ (hT_.fg 0 rfl)))) (h:=ht24)) ?_
  rintro _ W23 ⟨A27,c28,cst24,Ft24,gq8t24,csq8t24,eq85t24,rfl,hRt24,hq8t24,hq85t24,M_⟩
  have hr30:MxB_ctx_Ctx (andZ (Oks Ft24) Zm) (.pt gq8t24) cst24 t24.2:=hRt24
  have hrhr308:Rs_modes_Mode (andZ (Oks Ft24) Zm) csq8t24 t24.2.2.2.2.2.2.2.2.2.1:=hq8t24
  have hrhr3085:Own5 eq85t24 csq8t24 t24.2.2.2.2.2.2.2.2.2.1:=hq85t24
  replace M:=M_.uf
  obtain ⟨uo32_0,_,_,_,_,uo32_5,rfl,ho32_0,rfl,rfl,⟨Ao32_3,co32_3,rfl,ho32_3⟩,⟨Ao32_4,co32_4,rfl,ho32_4⟩⟩:=hrhr308
  obtain ⟨_,_,_,_,_,_,uo34_6,_,_,_,rfl,rfl,rfl,rfl,rfl,rfl,rfl,ho34_6,⟨Ao34_7,co34_7,rfl,ho34_7⟩,⟨Ao34_9,co34_9,rfl,ho34_9⟩,⟨Ao34_10,co34_10,rfl,ho34_10⟩⟩:=hr30
  refine .gq 2 ?_
  obtain rfl:=sj h
  exact .ret func52 ⟨A27,c28,[.bool t24.2.1,.bool t24.2.2.1,.i t24.2.2.2.1,.i t24.2.2.2.2.1,.i t24.2.2.2.2.2.1,.bool t24.2.2.2.2.2.2.1,uo34_6,.slice Ao34_7 t24.2.2.2.2.2.2.2.2.1.length co34_7,.pt gq8t24,.slice Ao34_9 t24.2.2.2.2.2.2.2.2.2.2.1.length co34_9,.slice Ao34_10 t24.2.2.2.2.2.2.2.2.2.2.2.length co34_10],Ft24,gq8t24,[uo32_0,.i t24.2.2.2.2.2.2.2.2.2.1.2.1,.bool t24.2.2.2.2.2.2.2.2.2.1.2.2.1,.slice Ao32_3 t24.2.2.2.2.2.2.2.2.2.1.2.2.2.1.length co32_3,.slice Ao32_4 t24.2.2.2.2.2.2.2.2.2.1.2.2.2.2.1.length co32_4,uo32_5],eq85t24,rfl,⟨_,_,_,_,_,_,_,_,_,_,rfl,rfl,rfl,rfl,rfl,rfl,rfl,(upc _ _ _ _ (fun _ z=>(ai z.1 z.2)) ho34_6),(upn (fun _ z=>(ai z.1 z.2)) (rno ho34_7 (ai (M.oks 0) (zl M hZm 1)))),(upn (fun _ z=>(ai z.1 z.2)) (rno ho34_9 (ai (M.oks 0) (zl M hZm 1)))),(upn (fun _ z=>(ai z.1 z.2)) (rno ho34_10 (ai (M.oks 0) (zl M hZm 1))))⟩,⟨_,_,_,_,_,_,rfl,(upc _ _ _ _ (fun _ z=>(ai z.1 z.2)) ho32_0),rfl,rfl,(upn (fun _ z=>(ai z.1 z.2)) (rno ho32_3 (ai (M.oks 0) (zl M hZm 1)))),(upn (fun _ z=>(ai z.1 z.2)) (rno ho32_4 (ai (M.oks 0) (zl M hZm 1))))⟩,hrhr3085,(M.pm [0,1,2,3] [[0],[1]])⟩
 refine .kn 50 c22<| .gq 9<| .lv M 0 rfl 5 rfl<| .gq 2 ?_
 rcases ift h with ⟨c35,h⟩ | ⟨c35,h⟩
 ·refine .kn 59 c35<| .gq 7<| .lv M 0 rfl 4 rfl<| .gq 2 ?_
  obtain ⟨t37,ht37,h⟩:=bs h
  refine .ca (V9.calls (hr1 _ (zl M hZp1 0)) ht37) ?_
  rintro _ W36 ⟨A38,c39,rfl,M_⟩
  replace M:=M.cg M_
  refine .gq 9 ?_
  obtain ⟨t42,ht42,h⟩:=bs h
  refine .ca (Ve.calls ht42) ?_
  rintro _ W41 ⟨rfl,M_⟩
  replace M:=M.cg M_
  refine .gq 5 ?_
  have hs45:MxB_ctx_Ctx Zm (.pt gq8) [.bool a0.1,.bool a0.2.1,.i a0.2.2.1,.i a0.2.2.2.1,.i a0.2.2.2.2.1,.bool a0.2.2.2.2.2.1,.pt g7,.slice Ao5_7 a0.2.2.2.2.2.2.2.1.length co5_7,.pt gq8,.slice Ao5_9 a0.2.2.2.2.2.2.2.2.2.1.length co5_9,.slice Ao5_10 a0.2.2.2.2.2.2.2.2.2.2.length co5_10] (a0.1,a0.2.1,a0.2.2.1,a0.2.2.2.1,a0.2.2.2.2.1,a0.2.2.2.2.2.1,(some s6),a0.2.2.2.2.2.2.2.1,a0.2.2.2.2.2.2.2.2.1,a0.2.2.2.2.2.2.2.2.2.1,a0.2.2.2.2.2.2.2.2.2.2):=⟨_,_,_,_,_,_,_,_,_,_,rfl,rfl,rfl,rfl,rfl,rfl,rfl,(upc _ _ _ _ (fun _ z=>z) (.inr ⟨s6,rfl,hps6⟩)),(upn (fun _ z=>z) (rno ho5_7 (zl M hZm 0))),(upn (fun _ z=>z) (rno ho5_9 (zl M hZm 0))),(upn (fun _ z=>z) (rno ho5_10 (zl M hZm 0)))⟩
  have hs46:Rs_modes_Mode Zm [uo3_0,.i a0.2.2.2.2.2.2.2.2.1.2.1,.bool a0.2.2.2.2.2.2.2.2.1.2.2.1,.slice Ao3_3 a0.2.2.2.2.2.2.2.2.1.2.2.2.1.length co3_3,.slice Ao3_4 a0.2.2.2.2.2.2.2.2.1.2.2.2.2.1.length co3_4,uo3_5] a0.2.2.2.2.2.2.2.2.1:=⟨_,_,_,_,_,_,rfl,(upc _ _ _ _ (fun _ z=>z) ho3_0),rfl,rfl,(upn (fun _ z=>z) (rno ho3_3 (zl M hZm 0))),(upn (fun _ z=>z) (rno ho3_4 (zl M hZm 0)))⟩
  obtain ⟨t44,ht44,h⟩:=bs h
  refine .ca (Vb.calls (hp0:=hs45) (hq8:=hs46) (hq85:=hq85) (hZm:=fun _ hk_ hT_=>(hZm _ hk_ (hT_.fg 0 rfl))) (M0:=M.fm [1,2,3] [0] [0] rfl rfl rfl) (Zp1:=fun W_=>Rd W_ (.slice A38 t37.1.length c39) (nums .u8 t37.1)) (hr1:=fun _ h_=>h_) (hZp1:=fun _ hk_ hT_=>(hT_.fr 0 rfl)) (h:=ht44)) ?_
  rintro _ W43 ⟨A47,c48,cst44,Ft44,gq8t44,csq8t44,eq85t44,rfl,hRt44,hq8t44,hq85t44,M_⟩
  have hr50:MxB_ctx_Ctx (andZ (Oks Ft44) Zm) (.pt gq8t44) cst44 t44.2:=hRt44
  have hrhr508:Rs_modes_Mode (andZ (Oks Ft44) Zm) csq8t44 t44.2.2.2.2.2.2.2.2.2.1:=hq8t44
  have hrhr5085:Own5 eq85t44 csq8t44 t44.2.2.2.2.2.2.2.2.2.1:=hq85t44
  replace M:=M_.uf
  obtain ⟨uo52_0,_,_,_,_,uo52_5,rfl,ho52_0,rfl,rfl,⟨Ao52_3,co52_3,rfl,ho52_3⟩,⟨Ao52_4,co52_4,rfl,ho52_4⟩⟩:=hrhr508
  obtain ⟨_,_,_,_,_,_,uo54_6,_,_,_,rfl,rfl,rfl,rfl,rfl,rfl,rfl,ho54_6,⟨Ao54_7,co54_7,rfl,ho54_7⟩,⟨Ao54_9,co54_9,rfl,ho54_9⟩,⟨Ao54_10,co54_10,rfl,ho54_10⟩⟩:=hr50
  refine .gq 2 ?_
  obtain rfl:=sj h
  exact .ret func52 ⟨A47,c48,[.bool t44.2.1,.bool t44.2.2.1,.i t44.2.2.2.1,.i t44.2.2.2.2.1,.i t44.2.2.2.2.2.1,.bool t44.2.2.2.2.2.2.1,uo54_6,.slice Ao54_7 t44.2.2.2.2.2.2.2.2.1.length co54_7,.pt gq8t44,.slice Ao54_9 t44.2.2.2.2.2.2.2.2.2.2.1.length co54_9,.slice Ao54_10 t44.2.2.2.2.2.2.2.2.2.2.2.length co54_10],Ft44,gq8t44,[uo52_0,.i t44.2.2.2.2.2.2.2.2.2.1.2.1,.bool t44.2.2.2.2.2.2.2.2.2.1.2.2.1,.slice Ao52_3 t44.2.2.2.2.2.2.2.2.2.1.2.2.2.1.length co52_3,.slice Ao52_4 t44.2.2.2.2.2.2.2.2.2.1.2.2.2.2.1.length co52_4,uo52_5],eq85t44,rfl,⟨_,_,_,_,_,_,_,_,_,_,rfl,rfl,rfl,rfl,rfl,rfl,rfl,(upc _ _ _ _ (fun _ z=>(ai z.1 z.2)) ho54_6),(upn (fun _ z=>(ai z.1 z.2)) (rno ho54_7 (ai (M.oks 0) (zl M hZm 1)))),(upn (fun _ z=>(ai z.1 z.2)) (rno ho54_9 (ai (M.oks 0) (zl M hZm 1)))),(upn (fun _ z=>(ai z.1 z.2)) (rno ho54_10 (ai (M.oks 0) (zl M hZm 1))))⟩,⟨_,_,_,_,_,_,rfl,(upc _ _ _ _ (fun _ z=>(ai z.1 z.2)) ho52_0),rfl,rfl,(upn (fun _ z=>(ai z.1 z.2)) (rno ho52_3 (ai (M.oks 0) (zl M hZm 1)))),(upn (fun _ z=>(ai z.1 z.2)) (rno ho52_4 (ai (M.oks 0) (zl M hZm 1))))⟩,hrhr5085,(M.pm [0,1,2,3] [[0],[1]])⟩
 refine .kn 59 c35<| .gq 10 ?_
 rcases ift h with ⟨c55,h⟩ | ⟨c55,h⟩
 ·refine .kn 79 c55<| .gq 2 ?_
  obtain ⟨t57,ht57,h⟩:=bs h
  refine .ca (Ve.calls ht57) ?_
  rintro _ W56 ⟨rfl,M_⟩
  replace M:=M.cg M_
  refine .gq 2<| .at (show RL 52 f52 (Q7.R gp0 r w0 FT Zm) [1,1,1,1,1,1,0] [(0,.pt gp0),(1,.slice Ap1 a1.length cp1),(5,.i t10)] _ from .dru M fun W58 M=> ?_)
  refine .pz tr [0,1,2,3,5,6,7]<| .a2 tr 4 8 ?_ ?_
  ·refine .lv M 0 rfl 4 rfl ?_
   have hs61:MxB_ctx_Ctx Zm (.pt gq8) [.bool a0.1,.bool a0.2.1,.i a0.2.2.1,.i a0.2.2.2.1,.i a0.2.2.2.2.1,.bool a0.2.2.2.2.2.1,.pt g7,.slice Ao5_7 a0.2.2.2.2.2.2.2.1.length co5_7,.pt gq8,.slice Ao5_9 a0.2.2.2.2.2.2.2.2.2.1.length co5_9,.slice Ao5_10 a0.2.2.2.2.2.2.2.2.2.2.length co5_10] (a0.1,a0.2.1,a0.2.2.1,a0.2.2.2.1,a0.2.2.2.2.1,a0.2.2.2.2.2.1,(some s6),a0.2.2.2.2.2.2.2.1,a0.2.2.2.2.2.2.2.2.1,a0.2.2.2.2.2.2.2.2.2.1,a0.2.2.2.2.2.2.2.2.2.2):=⟨_,_,_,_,_,_,_,_,_,_,rfl,rfl,rfl,rfl,rfl,rfl,rfl,(upc _ _ _ _ (fun _ z=>z) (.inr ⟨s6,rfl,hps6⟩)),(upn (fun _ z=>z) (rno ho5_7 (zl M hZm 0))),(upn (fun _ z=>z) (rno ho5_9 (zl M hZm 0))),(upn (fun _ z=>z) (rno ho5_10 (zl M hZm 0)))⟩
   have hs62:Rs_modes_Mode Zm [uo3_0,.i a0.2.2.2.2.2.2.2.2.1.2.1,.bool a0.2.2.2.2.2.2.2.2.1.2.2.1,.slice Ao3_3 a0.2.2.2.2.2.2.2.2.1.2.2.2.1.length co3_3,.slice Ao3_4 a0.2.2.2.2.2.2.2.2.1.2.2.2.2.1.length co3_4,uo3_5] a0.2.2.2.2.2.2.2.2.1:=⟨_,_,_,_,_,_,rfl,(upc _ _ _ _ (fun _ z=>z) ho3_0),rfl,rfl,(upn (fun _ z=>z) (rno ho3_3 (zl M hZm 0))),(upn (fun _ z=>z) (rno ho3_4 (zl M hZm 0)))⟩
   obtain ⟨t60,ht60,h⟩:=bs h
   refine .a1 tr 8<| .ca (Vb.calls (hp0:=hs61) (hq8:=hs62) (hq85:=hq85) (hZm:=fun _ hk_ hT_=>(hZm _ hk_ (hT_.fg 0 rfl))) (M0:=M.fm [0,1,2] [] [0] rfl rfl rfl) (Zp1:=fun W_=>Rd W_ (.slice Ap1 a1.length cp1) (nums .u8 a1)) (hr1:=fun _ h_=>h_) (hZp1:=fun _ hk_ hT_=>(hr1 _ (hZp1 _ hk_ (hT_.fg 0 rfl)))) (h:=ht60)) ?_
   rintro _ W59 ⟨A63,c64,cst60,Ft60,gq8t60,csq8t60,eq85t60,rfl,hRt60,hq8t60,hq85t60,M_⟩
   have hr66:MxB_ctx_Ctx (andZ (Oks Ft60) Zm) (.pt gq8t60) cst60 t60.2:=hRt60
   have hrhr668:Rs_modes_Mode (andZ (Oks Ft60) Zm) csq8t60 t60.2.2.2.2.2.2.2.2.2.1:=hq8t60
   have hrhr6685:Own5 eq85t60 csq8t60 t60.2.2.2.2.2.2.2.2.2.1:=hq85t60
   replace M:=M_.uf
   obtain ⟨uo68_0,_,_,_,_,uo68_5,rfl,ho68_0,rfl,rfl,⟨Ao68_3,co68_3,rfl,ho68_3⟩,⟨Ao68_4,co68_4,rfl,ho68_4⟩⟩:=hrhr668
   obtain ⟨_,_,_,_,_,_,uo70_6,_,_,_,rfl,rfl,rfl,rfl,rfl,rfl,rfl,ho70_6,⟨Ao70_7,co70_7,rfl,ho70_7⟩,⟨Ao70_9,co70_9,rfl,ho70_9⟩,⟨Ao70_10,co70_10,rfl,ho70_10⟩⟩:=hr66
   obtain ⟨t72,ht72,h⟩:=bs h
   refine .a1 tr 9<| .ca (Ya.calls (M.or 0) ht72) ?_
   rintro _ W71 ⟨A73,c74,rfl,M_⟩
   replace M:=M.cg M_
   refine .pz tr [10,11,12,13,14]<| .dn tr<| .gq 3 ?_
   obtain ⟨t77,ht77,h⟩:=bs h
   refine .ca (Ve.calls ht77) ?_
   rintro _ W76 ⟨rfl,M_⟩
   replace M:=M.cg M_
   refine .gq 6 ?_
   obtain rfl:=sj h
   exact .ret func52 ⟨A73,c74,[.bool t60.2.1,.bool t60.2.2.1,.i t60.2.2.2.1,.i t60.2.2.2.2.1,.i t60.2.2.2.2.2.1,.bool t60.2.2.2.2.2.2.1,uo70_6,.slice Ao70_7 t60.2.2.2.2.2.2.2.2.1.length co70_7,.pt gq8t60,.slice Ao70_9 t60.2.2.2.2.2.2.2.2.2.2.1.length co70_9,.slice Ao70_10 t60.2.2.2.2.2.2.2.2.2.2.2.length co70_10],Ft60,gq8t60,[uo68_0,.i t60.2.2.2.2.2.2.2.2.2.1.2.1,.bool t60.2.2.2.2.2.2.2.2.2.1.2.2.1,.slice Ao68_3 t60.2.2.2.2.2.2.2.2.2.1.2.2.2.1.length co68_3,.slice Ao68_4 t60.2.2.2.2.2.2.2.2.2.1.2.2.2.2.1.length co68_4,uo68_5],eq85t60,rfl,⟨_,_,_,_,_,_,_,_,_,_,rfl,rfl,rfl,rfl,rfl,rfl,rfl,(upc _ _ _ _ (fun _ z=>(ai z.1 z.2)) ho70_6),(upn (fun _ z=>(ai z.1 z.2)) (rno ho70_7 (ai (M.oks 0) (zl M hZm 1)))),(upn (fun _ z=>(ai z.1 z.2)) (rno ho70_9 (ai (M.oks 0) (zl M hZm 1)))),(upn (fun _ z=>(ai z.1 z.2)) (rno ho70_10 (ai (M.oks 0) (zl M hZm 1))))⟩,⟨_,_,_,_,_,_,rfl,(upc _ _ _ _ (fun _ z=>(ai z.1 z.2)) ho68_0),rfl,rfl,(upn (fun _ z=>(ai z.1 z.2)) (rno ho68_3 (ai (M.oks 0) (zl M hZm 1)))),(upn (fun _ z=>(ai z.1 z.2)) (rno ho68_4 (ai (M.oks 0) (zl M hZm 1))))⟩,hrhr6685,(M.pm [0,2,3,4] [[0],[1]])⟩
  ·have hs80:MxB_ctx_Ctx Zm (.pt gq8) [.bool a0.1,.bool a0.2.1,.i a0.2.2.1,.i a0.2.2.2.1,.i a0.2.2.2.2.1,.bool a0.2.2.2.2.2.1,.pt g7,.slice Ao5_7 a0.2.2.2.2.2.2.2.1.length co5_7,.pt gq8,.slice Ao5_9 a0.2.2.2.2.2.2.2.2.2.1.length co5_9,.slice Ao5_10 a0.2.2.2.2.2.2.2.2.2.2.length co5_10] (a0.1,a0.2.1,a0.2.2.1,a0.2.2.2.1,a0.2.2.2.2.1,a0.2.2.2.2.2.1,(some s6),a0.2.2.2.2.2.2.2.1,a0.2.2.2.2.2.2.2.2.1,a0.2.2.2.2.2.2.2.2.2.1,a0.2.2.2.2.2.2.2.2.2.2):=⟨_,_,_,_,_,_,_,_,_,_,rfl,rfl,rfl,rfl,rfl,rfl,rfl,(upc _ _ _ _ (fun _ z=>z) (.inr ⟨s6,rfl,hps6⟩)),(upn (fun _ z=>z) (rno ho5_7 (zl M hZm 0))),(upn (fun _ z=>z) (rno ho5_9 (zl M hZm 0))),(upn (fun _ z=>z) (rno ho5_10 (zl M hZm 0)))⟩
   have hs81:Rs_modes_Mode Zm [uo3_0,.i a0.2.2.2.2.2.2.2.2.1.2.1,.bool a0.2.2.2.2.2.2.2.2.1.2.2.1,.slice Ao3_3 a0.2.2.2.2.2.2.2.2.1.2.2.2.1.length co3_3,.slice Ao3_4 a0.2.2.2.2.2.2.2.2.1.2.2.2.2.1.length co3_4,uo3_5] a0.2.2.2.2.2.2.2.2.1:=⟨_,_,_,_,_,_,rfl,(upc _ _ _ _ (fun _ z=>z) ho3_0),rfl,rfl,(upn (fun _ z=>z) (rno ho3_3 (zl M hZm 0))),(upn (fun _ z=>z) (rno ho3_4 (zl M hZm 0)))⟩
   obtain ⟨t79,ht79,h⟩:=bs h
   refine .ca (Vb.calls (hp0:=hs80) (hq8:=hs81) (hq85:=hq85) (hZm:=fun _ hk_ hT_=>(hZm _ hk_ (hT_.fg 0 rfl))) (M0:=M.fm [0,1,2] [] [0] rfl rfl rfl) (Zp1:=fun W_=>Rd W_ (.slice Ap1 a1.length cp1) (nums .u8 a1)) (hr1:=fun _ h_=>h_) (hZp1:=fun _ hk_ hT_=>(hr1 _ (hZp1 _ hk_ (hT_.fg 0 rfl)))) (h:=ht79)) ?_
   rintro _ W78 ⟨A82,c83,cst79,Ft79,gq8t79,csq8t79,eq85t79,rfl,hRt79,hq8t79,hq85t79,M_⟩
   have hr85:MxB_ctx_Ctx (andZ (Oks Ft79) Zm) (.pt gq8t79) cst79 t79.2:=hRt79
   have hrhr858:Rs_modes_Mode (andZ (Oks Ft79) Zm) csq8t79 t79.2.2.2.2.2.2.2.2.2.1:=hq8t79
   have hrhr8585:Own5 eq85t79 csq8t79 t79.2.2.2.2.2.2.2.2.2.1:=hq85t79
   replace M:=M_.uf
   obtain ⟨uo87_0,_,_,_,_,uo87_5,rfl,ho87_0,rfl,rfl,⟨Ao87_3,co87_3,rfl,ho87_3⟩,⟨Ao87_4,co87_4,rfl,ho87_4⟩⟩:=hrhr858
   obtain ⟨_,_,_,_,_,_,uo89_6,_,_,_,rfl,rfl,rfl,rfl,rfl,rfl,rfl,ho89_6,⟨Ao89_7,co89_7,rfl,ho89_7⟩,⟨Ao89_9,co89_9,rfl,ho89_9⟩,⟨Ao89_10,co89_10,rfl,ho89_10⟩⟩:=hr85
   refine .a1 tr 4<| .lv M 1 rfl 4 (congrArg (fun x=>some (Value.i x)) (Vb.keep ht79)) ?_
   obtain ⟨t91,ht91,h⟩:=bs h
   refine .a1 tr 9<| .ca (Ya.calls (M.or 0) ht91) ?_
   rintro _ W90 ⟨A92,c93,rfl,M_⟩
   replace M:=M.cg M_
   refine .pz tr [10,11,12,13,14]<| .dn tr<| .gq 3 ?_
   obtain ⟨t96,ht96,h⟩:=bs h
   refine .ca (Ve.calls ht96) ?_
   rintro _ W95 ⟨rfl,M_⟩
   replace M:=M.cg M_
   refine .gq 6 ?_
   obtain rfl:=sj h
   exact .ret func52 ⟨A92,c93,[.bool t79.2.1,.bool t79.2.2.1,.i t79.2.2.2.1,.i t79.2.2.2.2.1,.i t79.2.2.2.2.2.1,.bool t79.2.2.2.2.2.2.1,uo89_6,.slice Ao89_7 t79.2.2.2.2.2.2.2.2.1.length co89_7,.pt gq8t79,.slice Ao89_9 t79.2.2.2.2.2.2.2.2.2.2.1.length co89_9,.slice Ao89_10 t79.2.2.2.2.2.2.2.2.2.2.2.length co89_10],Ft79,gq8t79,[uo87_0,.i t79.2.2.2.2.2.2.2.2.2.1.2.1,.bool t79.2.2.2.2.2.2.2.2.2.1.2.2.1,.slice Ao87_3 t79.2.2.2.2.2.2.2.2.2.1.2.2.2.1.length co87_3,.slice Ao87_4 t79.2.2.2.2.2.2.2.2.2.1.2.2.2.2.1.length co87_4,uo87_5],eq85t79,rfl,⟨_,_,_,_,_,_,_,_,_,_,rfl,rfl,rfl,rfl,rfl,rfl,rfl,(upc _ _ _ _ (fun _ z=>(ai z.1 z.2)) ho89_6),(upn (fun _ z=>(ai z.1 z.2)) (rno ho89_7 (ai (M.oks 0) (zl M hZm 1)))),(upn (fun _ z=>(ai z.1 z.2)) (rno ho89_9 (ai (M.oks 0) (zl M hZm 1)))),(upn (fun _ z=>(ai z.1 z.2)) (rno ho89_10 (ai (M.oks 0) (zl M hZm 1))))⟩,⟨_,_,_,_,_,_,rfl,(upc _ _ _ _ (fun _ z=>(ai z.1 z.2)) ho87_0),rfl,rfl,(upn (fun _ z=>(ai z.1 z.2)) (rno ho87_3 (ai (M.oks 0) (zl M hZm 1)))),(upn (fun _ z=>(ai z.1 z.2)) (rno ho87_4 (ai (M.oks 0) (zl M hZm 1))))⟩,hrhr8585,(M.pm [0,2,3,4] [[0],[1]])⟩
 refine .kn 79 c55<| .gq 3<| .at (show RL 52 f52 (Q7.R gp0 r w0 FT Zm) [1,1,1,1,1,1,0] [(0,.pt gp0),(1,.slice Ap1 a1.length cp1),(5,.i t10)] _ from .dru M fun W97 M=> ?_)
 refine .pz tr [0,1,2,3,5,6,7]<| .a2 tr 4 8 ?_ ?_
 ·refine .lv M 0 rfl 4 rfl ?_
  have hs100:MxB_ctx_Ctx Zm (.pt gq8) [.bool a0.1,.bool a0.2.1,.i a0.2.2.1,.i a0.2.2.2.1,.i a0.2.2.2.2.1,.bool a0.2.2.2.2.2.1,.pt g7,.slice Ao5_7 a0.2.2.2.2.2.2.2.1.length co5_7,.pt gq8,.slice Ao5_9 a0.2.2.2.2.2.2.2.2.2.1.length co5_9,.slice Ao5_10 a0.2.2.2.2.2.2.2.2.2.2.length co5_10] (a0.1,a0.2.1,a0.2.2.1,a0.2.2.2.1,a0.2.2.2.2.1,a0.2.2.2.2.2.1,(some s6),a0.2.2.2.2.2.2.2.1,a0.2.2.2.2.2.2.2.2.1,a0.2.2.2.2.2.2.2.2.2.1,a0.2.2.2.2.2.2.2.2.2.2):=⟨_,_,_,_,_,_,_,_,_,_,rfl,rfl,rfl,rfl,rfl,rfl,rfl,(upc _ _ _ _ (fun _ z=>z) (.inr ⟨s6,rfl,hps6⟩)),(upn (fun _ z=>z) (rno ho5_7 (zl M hZm 0))),(upn (fun _ z=>z) (rno ho5_9 (zl M hZm 0))),(upn (fun _ z=>z) (rno ho5_10 (zl M hZm 0)))⟩
  have hs101:Rs_modes_Mode Zm [uo3_0,.i a0.2.2.2.2.2.2.2.2.1.2.1,.bool a0.2.2.2.2.2.2.2.2.1.2.2.1,.slice Ao3_3 a0.2.2.2.2.2.2.2.2.1.2.2.2.1.length co3_3,.slice Ao3_4 a0.2.2.2.2.2.2.2.2.1.2.2.2.2.1.length co3_4,uo3_5] a0.2.2.2.2.2.2.2.2.1:=⟨_,_,_,_,_,_,rfl,(upc _ _ _ _ (fun _ z=>z) ho3_0),rfl,rfl,(upn (fun _ z=>z) (rno ho3_3 (zl M hZm 0))),(upn (fun _ z=>z) (rno ho3_4 (zl M hZm 0)))⟩
  obtain ⟨t99,ht99,h⟩:=bs h
  refine .a1 tr 8<| .ca (Vb.calls (hp0:=hs100) (hq8:=hs101) (hq85:=hq85) (hZm:=fun _ hk_ hT_=>(hZm _ hk_ (hT_.fg 0 rfl))) (M0:=M.fm [0,1,2] [] [0] rfl rfl rfl) (Zp1:=fun W_=>Rd W_ (.slice Ap1 a1.length cp1) (nums .u8 a1)) (hr1:=fun _ h_=>h_) (hZp1:=fun _ hk_ hT_=>(hr1 _ (hZp1 _ hk_ (hT_.fg 0 rfl)))) (h:=ht99)) ?_
  rintro _ W98 ⟨A102,c103,cst99,Ft99,gq8t99,csq8t99,eq85t99,rfl,hRt99,hq8t99,hq85t99,M_⟩
  have hr105:MxB_ctx_Ctx (andZ (Oks Ft99) Zm) (.pt gq8t99) cst99 t99.2:=hRt99
  have hrhr1058:Rs_modes_Mode (andZ (Oks Ft99) Zm) csq8t99 t99.2.2.2.2.2.2.2.2.2.1:=hq8t99
  have hrhr10585:Own5 eq85t99 csq8t99 t99.2.2.2.2.2.2.2.2.2.1:=hq85t99
  replace M:=M_.uf
  obtain ⟨uo107_0,_,_,_,_,uo107_5,rfl,ho107_0,rfl,rfl,⟨Ao107_3,co107_3,rfl,ho107_3⟩,⟨Ao107_4,co107_4,rfl,ho107_4⟩⟩:=hrhr1058
  obtain ⟨_,_,_,_,_,_,uo109_6,_,_,_,rfl,rfl,rfl,rfl,rfl,rfl,rfl,ho109_6,⟨Ao109_7,co109_7,rfl,ho109_7⟩,⟨Ao109_9,co109_9,rfl,ho109_9⟩,⟨Ao109_10,co109_10,rfl,ho109_10⟩⟩:=hr105
  obtain ⟨t111,ht111,h⟩:=bs h
  refine .a1 tr 9<| .ca (Ya.calls (M.or 0) ht111) ?_
  rintro _ W110 ⟨A112,c113,rfl,M_⟩
  replace M:=M.cg M_
  refine .pz tr [10,11,12,13,14]<| .dn tr<| .gq 3 ?_
  obtain ⟨t116,ht116,h⟩:=bs h
  refine .ca (Ve.calls ht116) ?_
  rintro _ W115 ⟨rfl,M_⟩
  replace M:=M.cg M_
  refine .gq 6 ?_
  obtain rfl:=sj h
  exact .ret func52 ⟨A112,c113,[.bool t99.2.1,.bool t99.2.2.1,.i t99.2.2.2.1,.i t99.2.2.2.2.1,.i t99.2.2.2.2.2.1,.bool t99.2.2.2.2.2.2.1,uo109_6,.slice Ao109_7 t99.2.2.2.2.2.2.2.2.1.length co109_7,.pt gq8t99,.slice Ao109_9 t99.2.2.2.2.2.2.2.2.2.2.1.length co109_9,.slice Ao109_10 t99.2.2.2.2.2.2.2.2.2.2.2.length co109_10],Ft99,gq8t99,[uo107_0,.i t99.2.2.2.2.2.2.2.2.2.1.2.1,.bool t99.2.2.2.2.2.2.2.2.2.1.2.2.1,.slice Ao107_3 t99.2.2.2.2.2.2.2.2.2.1.2.2.2.1.length co107_3,.slice Ao107_4 t99.2.2.2.2.2.2.2.2.2.1.2.2.2.2.1.length co107_4,uo107_5],eq85t99,rfl,⟨_,_,_,_,_,_,_,_,_,_,rfl,rfl,rfl,rfl,rfl,rfl,rfl,(upc _ _ _ _ (fun _ z=>(ai z.1 z.2)) ho109_6),(upn (fun _ z=>(ai z.1 z.2)) (rno ho109_7 (ai (M.oks 0) (zl M hZm 1)))),(upn (fun _ z=>(ai z.1 z.2)) (rno ho109_9 (ai (M.oks 0) (zl M hZm 1)))),(upn (fun _ z=>(ai z.1 z.2)) (rno ho109_10 (ai (M.oks 0) (zl M hZm 1))))⟩,⟨_,_,_,_,_,_,rfl,(upc _ _ _ _ (fun _ z=>(ai z.1 z.2)) ho107_0),rfl,rfl,(upn (fun _ z=>(ai z.1 z.2)) (rno ho107_3 (ai (M.oks 0) (zl M hZm 1)))),(upn (fun _ z=>(ai z.1 z.2)) (rno ho107_4 (ai (M.oks 0) (zl M hZm 1))))⟩,hrhr10585,(M.pm [0,2,3,4] [[0],[1]])⟩
 ·have hs119:MxB_ctx_Ctx Zm (.pt gq8) [.bool a0.1,.bool a0.2.1,.i a0.2.2.1,.i a0.2.2.2.1,.i a0.2.2.2.2.1,.bool a0.2.2.2.2.2.1,.pt g7,.slice Ao5_7 a0.2.2.2.2.2.2.2.1.length co5_7,.pt gq8,.slice Ao5_9 a0.2.2.2.2.2.2.2.2.2.1.length co5_9,.slice Ao5_10 a0.2.2.2.2.2.2.2.2.2.2.length co5_10] (a0.1,a0.2.1,a0.2.2.1,a0.2.2.2.1,a0.2.2.2.2.1,a0.2.2.2.2.2.1,(some s6),a0.2.2.2.2.2.2.2.1,a0.2.2.2.2.2.2.2.2.1,a0.2.2.2.2.2.2.2.2.2.1,a0.2.2.2.2.2.2.2.2.2.2):=⟨_,_,_,_,_,_,_,_,_,_,rfl,rfl,rfl,rfl,rfl,rfl,rfl,(upc _ _ _ _ (fun _ z=>z) (.inr ⟨s6,rfl,hps6⟩)),(upn (fun _ z=>z) (rno ho5_7 (zl M hZm 0))),(upn (fun _ z=>z) (rno ho5_9 (zl M hZm 0))),(upn (fun _ z=>z) (rno ho5_10 (zl M hZm 0)))⟩
  have hs120:Rs_modes_Mode Zm [uo3_0,.i a0.2.2.2.2.2.2.2.2.1.2.1,.bool a0.2.2.2.2.2.2.2.2.1.2.2.1,.slice Ao3_3 a0.2.2.2.2.2.2.2.2.1.2.2.2.1.length co3_3,.slice Ao3_4 a0.2.2.2.2.2.2.2.2.1.2.2.2.2.1.length co3_4,uo3_5] a0.2.2.2.2.2.2.2.2.1:=⟨_,_,_,_,_,_,rfl,(upc _ _ _ _ (fun _ z=>z) ho3_0),rfl,rfl,(upn (fun _ z=>z) (rno ho3_3 (zl M hZm 0))),(upn (fun _ z=>z) (rno ho3_4 (zl M hZm 0)))⟩
  obtain ⟨t118,ht118,h⟩:=bs h
  refine .ca (Vb.calls (hp0:=hs119) (hq8:=hs120) (hq85:=hq85) (hZm:=fun _ hk_ hT_=>(hZm _ hk_ (hT_.fg 0 rfl))) (M0:=M.fm [0,1,2] [] [0] rfl rfl rfl) (Zp1:=fun W_=>Rd W_ (.slice Ap1 a1.length cp1) (nums .u8 a1)) (hr1:=fun _ h_=>h_) (hZp1:=fun _ hk_ hT_=>(hr1 _ (hZp1 _ hk_ (hT_.fg 0 rfl)))) (h:=ht118)) ?_
  rintro _ W117 ⟨A121,c122,cst118,Ft118,gq8t118,csq8t118,eq85t118,rfl,hRt118,hq8t118,hq85t118,M_⟩
  have hr124:MxB_ctx_Ctx (andZ (Oks Ft118) Zm) (.pt gq8t118) cst118 t118.2:=hRt118
  have hrhr1248:Rs_modes_Mode (andZ (Oks Ft118) Zm) csq8t118 t118.2.2.2.2.2.2.2.2.2.1:=hq8t118
  have hrhr12485:Own5 eq85t118 csq8t118 t118.2.2.2.2.2.2.2.2.2.1:=hq85t118
  replace M:=M_.uf
  obtain ⟨uo126_0,_,_,_,_,uo126_5,rfl,ho126_0,rfl,rfl,⟨Ao126_3,co126_3,rfl,ho126_3⟩,⟨Ao126_4,co126_4,rfl,ho126_4⟩⟩:=hrhr1248
  obtain ⟨_,_,_,_,_,_,uo128_6,_,_,_,rfl,rfl,rfl,rfl,rfl,rfl,rfl,ho128_6,⟨Ao128_7,co128_7,rfl,ho128_7⟩,⟨Ao128_9,co128_9,rfl,ho128_9⟩,⟨Ao128_10,co128_10,rfl,ho128_10⟩⟩:=hr124
  refine .a1 tr 4<| .lv M 1 rfl 4 (congrArg (fun x=>some (Value.i x)) (Vb.keep ht118)) ?_
  obtain ⟨t130,ht130,h⟩:=bs h
  refine .a1 tr 9<| .ca (Ya.calls (M.or 0) ht130) ?_
  rintro _ W129 ⟨A131,c132,rfl,M_⟩
  replace M:=M.cg M_
  refine .pz tr [10,11,12,13,14]<| .dn tr<| .gq 3 ?_
  obtain ⟨t135,ht135,h⟩:=bs h
  refine .ca (Ve.calls ht135) ?_
  rintro _ W134 ⟨rfl,M_⟩
  replace M:=M.cg M_
  refine .gq 6 ?_
  obtain rfl:=sj h
  exact .ret func52 ⟨A131,c132,[.bool t118.2.1,.bool t118.2.2.1,.i t118.2.2.2.1,.i t118.2.2.2.2.1,.i t118.2.2.2.2.2.1,.bool t118.2.2.2.2.2.2.1,uo128_6,.slice Ao128_7 t118.2.2.2.2.2.2.2.2.1.length co128_7,.pt gq8t118,.slice Ao128_9 t118.2.2.2.2.2.2.2.2.2.2.1.length co128_9,.slice Ao128_10 t118.2.2.2.2.2.2.2.2.2.2.2.length co128_10],Ft118,gq8t118,[uo126_0,.i t118.2.2.2.2.2.2.2.2.2.1.2.1,.bool t118.2.2.2.2.2.2.2.2.2.1.2.2.1,.slice Ao126_3 t118.2.2.2.2.2.2.2.2.2.1.2.2.2.1.length co126_3,.slice Ao126_4 t118.2.2.2.2.2.2.2.2.2.1.2.2.2.2.1.length co126_4,uo126_5],eq85t118,rfl,⟨_,_,_,_,_,_,_,_,_,_,rfl,rfl,rfl,rfl,rfl,rfl,rfl,(upc _ _ _ _ (fun _ z=>(ai z.1 z.2)) ho128_6),(upn (fun _ z=>(ai z.1 z.2)) (rno ho128_7 (ai (M.oks 0) (zl M hZm 1)))),(upn (fun _ z=>(ai z.1 z.2)) (rno ho128_9 (ai (M.oks 0) (zl M hZm 1)))),(upn (fun _ z=>(ai z.1 z.2)) (rno ho128_10 (ai (M.oks 0) (zl M hZm 1))))⟩,⟨_,_,_,_,_,_,rfl,(upc _ _ _ _ (fun _ z=>(ai z.1 z.2)) ho126_0),rfl,rfl,(upn (fun _ z=>(ai z.1 z.2)) (rno ho126_3 (ai (M.oks 0) (zl M hZm 1)))),(upn (fun _ z=>(ai z.1 z.2)) (rno ho126_4 (ai (M.oks 0) (zl M hZm 1))))⟩,hrhr12485,(M.pm [0,2,3,4] [[0],[1]])⟩
def Q7.p (k:Nat) (a0:Cy) (a1:Li):Option (Int):=(a0.2.2.2.2.2.2.1).bind fun s6=>((Qy.f k s6).bind fun t10=>((Va.f k (a0.1,a0.2.1,a0.2.2.1,a0.2.2.2.1,a0.2.2.2.2.1,a0.2.2.2.2.2.1,(some s6),a0.2.2.2.2.2.2.2.1,(some a0.2.2.2.2.2.2.2.2.1),a0.2.2.2.2.2.2.2.2.2.1,a0.2.2.2.2.2.2.2.2.2.2)).bind fun t12=>(if t12=true then ((Ko.f k s6 a0.2.2.2.1 a0.2.2.2.2.2.1 a0.2.2.2.2.2.2.2.2.2.2 a1).bind fun t16=>(orp (Ve.p k t16.2) (fun n20=>(some n20)) (none))) else (if (a0.2.2.2.2.1==4)=true then (orp (Vb.p k (a0.1,a0.2.1,a0.2.2.1,a0.2.2.2.1,a0.2.2.2.2.1,a0.2.2.2.2.2.1,(some s6),a0.2.2.2.2.2.2.2.1,a0.2.2.2.2.2.2.2.2.1,a0.2.2.2.2.2.2.2.2.2.1,a0.2.2.2.2.2.2.2.2.2.2) a1) (fun n28=>(some n28)) (none)) else (if (!a0.2.2.2.2.2.1)=true then ((V9.f k a0.2.2.2.2.1 t10 a1).bind fun t39=>(orp (Ve.p k t39.2) (fun n43=>(some n43)) ((Ve.f k t39.2).bind fun t45=>(orp (Vb.p k (a0.1,a0.2.1,a0.2.2.1,a0.2.2.2.1,a0.2.2.2.2.1,a0.2.2.2.2.2.1,(some s6),a0.2.2.2.2.2.2.2.1,a0.2.2.2.2.2.2.2.2.1,a0.2.2.2.2.2.2.2.2.2.1,a0.2.2.2.2.2.2.2.2.2.2) t39.1) (fun n50=>(some n50)) (none))))) else (if ((a1.length:Int) != t10)=true then (orp (Ve.p k 7) (fun n60=>(some n60)) ((Ve.f k 7).bind fun t62=>((Vb.f k (a0.1,a0.2.1,a0.2.2.1,a0.2.2.2.1,a0.2.2.2.2.1,a0.2.2.2.2.2.1,(some s6),a0.2.2.2.2.2.2.2.1,a0.2.2.2.2.2.2.2.2.1,a0.2.2.2.2.2.2.2.2.2.1,a0.2.2.2.2.2.2.2.2.2.2) a1).bind fun t65=>((Ya.f k a0.2.2.2.2.1 t10 t65.1).bind fun t77=>(orp (Ve.p k t77.2) (fun n81=>(some n81)) (none)))))) else ((Vb.f k (a0.1,a0.2.1,a0.2.2.1,a0.2.2.2.1,a0.2.2.2.2.1,a0.2.2.2.2.2.1,(some s6),a0.2.2.2.2.2.2.2.1,a0.2.2.2.2.2.2.2.2.1,a0.2.2.2.2.2.2.2.2.2.1,a0.2.2.2.2.2.2.2.2.2.2) a1).bind fun t106=>((Ya.f k a0.2.2.2.2.1 t10 t106.1).bind fun t118=>(orp (Ve.p k t118.2) (fun n122=>(some n122)) (none))))))))))
theorem Q7.panics {k:Nat} {gp0:Nat} {csp0:List Value} {a0:Cy} {gq8:Nat} {csq8:List Value} {eq85:Ent} {Ap1:Option Addr} {np1 cp1:Nat} {a1:Li} {Zp1:Zp} {r:Int} {w:World} {w0:World} {FT:List Ent} {Zm:Zp} (hp0:MxB_ctx_Ctx Zm (.pt gq8) csp0 a0) (hq8:Rs_modes_Mode Zm csq8 a0.2.2.2.2.2.2.2.2.1) (hq85:Own5 eq85 csq8 a0.2.2.2.2.2.2.2.2.1) (hZm: ∀W,Kept w0 W→Oks FT W→Zm W) (M0:Mem w0 w (Gs [⟨.pt gp0,72,0,csp0⟩,⟨(.pt gq8),100,0,csq8⟩,eq85] [FT])) (hr1:RdF Zp1 (.slice Ap1 np1 cp1) (nums .u8 a1)) (hZp1: ∀W,Kept w0 W→Oks FT W→Zp1 W) (h:Q7.p k a0 a1=some r):Calls prog 52 #[.pt gp0,(.slice Ap1 np1 cp1)] w (Pan r fun w'=>Mem w0 w' (Gs [] [FT])):=by
 obtain rfl:=(hr1 _ (hZp1 _ M0.kept (M0.oks 0))).ln
 obtain ⟨uo3_0,_,_,_,_,uo3_5,rfl,ho3_0,rfl,rfl,⟨Ao3_3,co3_3,rfl,ho3_3⟩,⟨Ao3_4,co3_4,rfl,ho3_4⟩⟩:=hq8
 obtain ⟨_,_,_,_,_,_,uo5_6,_,_,_,rfl,rfl,rfl,rfl,rfl,rfl,rfl,ho5_6,⟨Ao5_7,co5_7,rfl,ho5_7⟩,⟨Ao5_9,co5_9,rfl,ho5_9⟩,⟨Ao5_10,co5_10,rfl,ho5_10⟩⟩:=hp0
 unfold Q7.p at h
 refine calls_S func52 ?_
 have M:=M0
 refine .gq 9<| .lv M 0 rfl 6 rfl ?_
 obtain ⟨s6,hx_,h⟩:=bs h
 have hps6:=rOpt.some ho5_6 hx_
 obtain ⟨g7,_,rfl,hco8,_,uo8_1,rfl,rfl,ho8_1⟩:=id hps6
 obtain ⟨t10,ht10,h⟩:=bs h
 refine .ca (Qy.calls hps6 (zk M hZm 0) ht10) ?_
 rintro _ W9 ⟨rfl,M_⟩
 replace M:=M.cg M_
 refine .gq 6 ?_
 obtain ⟨t12,ht12,h⟩:=bs h
 refine .ca (Va.calls (Zp0:=Kept W9) (a0:=(a0.1,a0.2.1,a0.2.2.1,a0.2.2.2.1,a0.2.2.2.2.1,a0.2.2.2.2.2.1,(some s6),a0.2.2.2.2.2.2.2.1,(some a0.2.2.2.2.2.2.2.2.1),a0.2.2.2.2.2.2.2.2.2.1,a0.2.2.2.2.2.2.2.2.2.2)) ⟨gp0,_,rfl,(M.cellsKept 0 rfl),_,_,_,_,_,_,_,_,_,_,_,rfl,rfl,rfl,rfl,rfl,rfl,rfl,(upc _ _ _ _ (zk M hZm 0) (.inr ⟨s6,rfl,hps6⟩)),(upn (zk M hZm 0) (rno ho5_7 (zl M hZm 0))),(.inr ⟨_,rfl,⟨gq8,_,rfl,(M.cellsKept 1 rfl),_,_,_,_,_,_,rfl,(upc _ _ _ _ (zk M hZm 0) ho3_0),rfl,rfl,(upn (zk M hZm 0) (rno ho3_3 (zl M hZm 0))),(upn (zk M hZm 0) (rno ho3_4 (zl M hZm 0)))⟩⟩),(upn (zk M hZm 0) (rno ho5_9 (zl M hZm 0))),(upn (zk M hZm 0) (rno ho5_10 (zl M hZm 0)))⟩ (fun _ h_=>h_) ht12) ?_
 rintro _ W11 ⟨rfl,M_⟩
 replace M:=M.cg M_
 refine .gq 1 ?_
 rcases ift h with ⟨c13,h⟩ | ⟨c13,h⟩
 ·refine .kn 18 c13<| .gq 2<| .at (show RQ 52 f52 r (fun w'=>Mem w0 w' (Gs [] [FT])) [1,1,0,1,0,0] [(0,.pt gp0),(1,.slice Ap1 a1.length cp1)] _ from .dr [] M fun W14 M=> ?_)
  refine .pz tr [0,1,2]<| .lv tr 3 M 0 rfl 6 rfl<| .pz tr [4,5,6,7]<| .lv tr 8 M 0 rfl 3 rfl<| .pz tr [9,10,11,12]<| .lv tr 13 M 0 rfl 5 rfl<| .pz tr [14,15,16]<| .lv tr 17 M 0 rfl 10 rfl<| .pz tr [18] ?_
  obtain ⟨t16,ht16,h⟩:=bs h
  refine .a1 tr 19<| .ca (Ko.calls (ho5_10 _ (zl M hZm 0)) (hr1 _ (zl M hZp1 0)) hps6 (zk M hZm 0) ht16) ?_
  rintro _ W15 ⟨A17,c18,rfl,M_⟩
  refine .ca M_ [] ?_
  replace M:=M.cg M_
  refine .pz tr [20,21,22,23,24]<| .dn tr<| .gq 3 ?_
  rcases orpE h with ⟨n20,hn20,h⟩ | ⟨_,h⟩
  ·obtain rfl:=sj h
   exact .pq func52 (Ve.panics hn20) fun _ M_=>(Mem.pm (M.cg M_) [] [[0]] rfl rfl rfl)
  cases h
 refine .kn 18 c13<| .gq 9<| .lv M 0 rfl 4 rfl<| .gq 2 ?_
 rcases ift h with ⟨c23,h⟩ | ⟨c23,h⟩
 ·refine .kn 50 c23<| .gq 5 ?_
  have hs26:MxB_ctx_Ctx Zm (.pt gq8) [.bool a0.1,.bool a0.2.1,.i a0.2.2.1,.i a0.2.2.2.1,.i a0.2.2.2.2.1,.bool a0.2.2.2.2.2.1,.pt g7,.slice Ao5_7 a0.2.2.2.2.2.2.2.1.length co5_7,.pt gq8,.slice Ao5_9 a0.2.2.2.2.2.2.2.2.2.1.length co5_9,.slice Ao5_10 a0.2.2.2.2.2.2.2.2.2.2.length co5_10] (a0.1,a0.2.1,a0.2.2.1,a0.2.2.2.1,a0.2.2.2.2.1,a0.2.2.2.2.2.1,(some s6),a0.2.2.2.2.2.2.2.1,a0.2.2.2.2.2.2.2.2.1,a0.2.2.2.2.2.2.2.2.2.1,a0.2.2.2.2.2.2.2.2.2.2):=⟨_,_,_,_,_,_,_,_,_,_,rfl,rfl,rfl,rfl,rfl,rfl,rfl,(upc _ _ _ _ (fun _ z=>z) (.inr ⟨s6,rfl,hps6⟩)),(upn (fun _ z=>z) (rno ho5_7 (zl M hZm 0))),(upn (fun _ z=>z) (rno ho5_9 (zl M hZm 0))),(upn (fun _ z=>z) (rno ho5_10 (zl M hZm 0)))⟩
  have hs27:Rs_modes_Mode Zm [uo3_0,.i a0.2.2.2.2.2.2.2.2.1.2.1,.bool a0.2.2.2.2.2.2.2.2.1.2.2.1,.slice Ao3_3 a0.2.2.2.2.2.2.2.2.1.2.2.2.1.length co3_3,.slice Ao3_4 a0.2.2.2.2.2.2.2.2.1.2.2.2.2.1.length co3_4,uo3_5] a0.2.2.2.2.2.2.2.2.1:=⟨_,_,_,_,_,_,rfl,(upc _ _ _ _ (fun _ z=>z) ho3_0),rfl,rfl,(upn (fun _ z=>z) (rno ho3_3 (zl M hZm 0))),(upn (fun _ z=>z) (rno ho3_4 (zl M hZm 0)))⟩
  rcases orpE h with ⟨n28,hn28,h⟩ | ⟨_,h⟩
  ·obtain rfl:=sj h
   exact .pq func52 (Vb.panics (hp0:=hs26) (hq8:=hs27) (hq85:=hq85) (hZm:=fun _ hk_ hT_=>(hZm _ hk_ (hT_.fg 0 rfl))) (M0:=M.fm [0,1,2] [] [0] rfl rfl rfl) (Zp1:=fun W_=>Rd W_ (.slice Ap1 a1.length cp1) (nums .u8 a1)) (hr1:=fun _ h_=>h_) (hZp1:=fun _ hk_ hT_=>(hr1 _ (hZp1 _ hk_ (hT_.fg 0 rfl)))) (h:=hn28)) fun _ M_=>(M_.u1.pm [] [[0]])
  cases h
 refine .kn 50 c23<| .gq 9<| .lv M 0 rfl 5 rfl<| .gq 2 ?_
 rcases ift h with ⟨c37,h⟩ | ⟨c37,h⟩
 ·refine .kn 59 c37<| .gq 7<| .lv M 0 rfl 4 rfl<| .gq 2 ?_
  obtain ⟨t39,ht39,h⟩:=bs h
  refine .ca (V9.calls (hr1 _ (zl M hZp1 0)) ht39) ?_
  rintro _ W38 ⟨A40,c41,rfl,M_⟩
  replace M:=M.cg M_
  refine .gq 9 ?_
  rcases orpE h with ⟨n43,hn43,h⟩ | ⟨_,h⟩
  ·obtain rfl:=sj h
   exact .pq func52 (Ve.panics hn43) fun _ M_=>(Mem.pm (M.cg M_) [] [[0]] rfl rfl rfl)
  obtain ⟨t45,ht45,h⟩:=bs h
  refine .ca (Ve.calls ht45) ?_
  rintro _ W44 ⟨rfl,M_⟩
  replace M:=M.cg M_
  refine .gq 5 ?_
  have hs48:MxB_ctx_Ctx Zm (.pt gq8) [.bool a0.1,.bool a0.2.1,.i a0.2.2.1,.i a0.2.2.2.1,.i a0.2.2.2.2.1,.bool a0.2.2.2.2.2.1,.pt g7,.slice Ao5_7 a0.2.2.2.2.2.2.2.1.length co5_7,.pt gq8,.slice Ao5_9 a0.2.2.2.2.2.2.2.2.2.1.length co5_9,.slice Ao5_10 a0.2.2.2.2.2.2.2.2.2.2.length co5_10] (a0.1,a0.2.1,a0.2.2.1,a0.2.2.2.1,a0.2.2.2.2.1,a0.2.2.2.2.2.1,(some s6),a0.2.2.2.2.2.2.2.1,a0.2.2.2.2.2.2.2.2.1,a0.2.2.2.2.2.2.2.2.2.1,a0.2.2.2.2.2.2.2.2.2.2):=⟨_,_,_,_,_,_,_,_,_,_,rfl,rfl,rfl,rfl,rfl,rfl,rfl,(upc _ _ _ _ (fun _ z=>z) (.inr ⟨s6,rfl,hps6⟩)),(upn (fun _ z=>z) (rno ho5_7 (zl M hZm 0))),(upn (fun _ z=>z) (rno ho5_9 (zl M hZm 0))),(upn (fun _ z=>z) (rno ho5_10 (zl M hZm 0)))⟩
  have hs49:Rs_modes_Mode Zm [uo3_0,.i a0.2.2.2.2.2.2.2.2.1.2.1,.bool a0.2.2.2.2.2.2.2.2.1.2.2.1,.slice Ao3_3 a0.2.2.2.2.2.2.2.2.1.2.2.2.1.length co3_3,.slice Ao3_4 a0.2.2.2.2.2.2.2.2.1.2.2.2.2.1.length co3_4,uo3_5] a0.2.2.2.2.2.2.2.2.1:=⟨_,_,_,_,_,_,rfl,(upc _ _ _ _ (fun _ z=>z) ho3_0),rfl,rfl,(upn (fun _ z=>z) (rno ho3_3 (zl M hZm 0))),(upn (fun _ z=>z) (rno ho3_4 (zl M hZm 0)))⟩
  rcases orpE h with ⟨n50,hn50,h⟩ | ⟨_,h⟩
  ·obtain rfl:=sj h
   exact .pq func52 (Vb.panics (hp0:=hs48) (hq8:=hs49) (hq85:=hq85) (hZm:=fun _ hk_ hT_=>(hZm _ hk_ (hT_.fg 0 rfl))) (M0:=M.fm [1,2,3] [0] [0] rfl rfl rfl) (Zp1:=fun W_=>Rd W_ (.slice A40 t39.1.length c41) (nums .u8 t39.1)) (hr1:=fun _ h_=>h_) (hZp1:=fun _ hk_ hT_=>(hT_.fr 0 rfl)) (h:=hn50)) fun _ M_=>(M_.u1.pm [] [[0]])
  cases h
 refine .kn 59 c37<| .gq 10 ?_
 rcases ift h with ⟨c59,h⟩ | ⟨c59,h⟩
 ·refine .kn 79 c59<| .gq 2 ?_
  rcases orpE h with ⟨n60,hn60,h⟩ | ⟨_,h⟩
  ·obtain rfl:=sj h
   exact .pq func52 (Ve.panics hn60) fun _ M_=>(Mem.pm (M.cg M_) [] [[0]] rfl rfl rfl)
  obtain ⟨t62,ht62,h⟩:=bs h
  refine .ca (Ve.calls ht62) ?_
  rintro _ W61 ⟨rfl,M_⟩
  replace M:=M.cg M_
  refine .gq 2<| .at (show RQ 52 f52 r (fun w'=>Mem w0 w' (Gs [] [FT])) [1,1,1,1,1,1,0] [(0,.pt gp0),(1,.slice Ap1 a1.length cp1),(5,.i t10)] _ from .dru M fun W63 M=> ?_)
  refine .pz tr [0,1,2,3,5,6,7]<| .a2 tr 4 8 ?_ ?_
  ·refine .lv M 0 rfl 4 rfl ?_
   have hs66:MxB_ctx_Ctx Zm (.pt gq8) [.bool a0.1,.bool a0.2.1,.i a0.2.2.1,.i a0.2.2.2.1,.i a0.2.2.2.2.1,.bool a0.2.2.2.2.2.1,.pt g7,.slice Ao5_7 a0.2.2.2.2.2.2.2.1.length co5_7,.pt gq8,.slice Ao5_9 a0.2.2.2.2.2.2.2.2.2.1.length co5_9,.slice Ao5_10 a0.2.2.2.2.2.2.2.2.2.2.length co5_10] (a0.1,a0.2.1,a0.2.2.1,a0.2.2.2.1,a0.2.2.2.2.1,a0.2.2.2.2.2.1,(some s6),a0.2.2.2.2.2.2.2.1,a0.2.2.2.2.2.2.2.2.1,a0.2.2.2.2.2.2.2.2.2.1,a0.2.2.2.2.2.2.2.2.2.2):=⟨_,_,_,_,_,_,_,_,_,_,rfl,rfl,rfl,rfl,rfl,rfl,rfl,(upc _ _ _ _ (fun _ z=>z) (.inr ⟨s6,rfl,hps6⟩)),(upn (fun _ z=>z) (rno ho5_7 (zl M hZm 0))),(upn (fun _ z=>z) (rno ho5_9 (zl M hZm 0))),(upn (fun _ z=>z) (rno ho5_10 (zl M hZm 0)))⟩
   have hs67:Rs_modes_Mode Zm [uo3_0,.i a0.2.2.2.2.2.2.2.2.1.2.1,.bool a0.2.2.2.2.2.2.2.2.1.2.2.1,.slice Ao3_3 a0.2.2.2.2.2.2.2.2.1.2.2.2.1.length co3_3,.slice Ao3_4 a0.2.2.2.2.2.2.2.2.1.2.2.2.2.1.length co3_4,uo3_5] a0.2.2.2.2.2.2.2.2.1:=⟨_,_,_,_,_,_,rfl,(upc _ _ _ _ (fun _ z=>z) ho3_0),rfl,rfl,(upn (fun _ z=>z) (rno ho3_3 (zl M hZm 0))),(upn (fun _ z=>z) (rno ho3_4 (zl M hZm 0)))⟩
   obtain ⟨t65,ht65,h⟩:=bs h
   refine .a1 tr 8<| .ca (Vb.calls (hp0:=hs66) (hq8:=hs67) (hq85:=hq85) (hZm:=fun _ hk_ hT_=>(hZm _ hk_ (hT_.fg 0 rfl))) (M0:=M.fm [0,1,2] [] [0] rfl rfl rfl) (Zp1:=fun W_=>Rd W_ (.slice Ap1 a1.length cp1) (nums .u8 a1)) (hr1:=fun _ h_=>h_) (hZp1:=fun _ hk_ hT_=>(hr1 _ (hZp1 _ hk_ (hT_.fg 0 rfl)))) (h:=ht65)) ?_
   rintro _ W64 ⟨A68,c69,cst65,Ft65,gq8t65,csq8t65,eq85t65,rfl,hRt65,hq8t65,hq85t65,M_⟩
   have hr71:MxB_ctx_Ctx (andZ (Oks Ft65) Zm) (.pt gq8t65) cst65 t65.2:=hRt65
   have hrhr718:Rs_modes_Mode (andZ (Oks Ft65) Zm) csq8t65 t65.2.2.2.2.2.2.2.2.2.1:=hq8t65
   have hrhr7185:Own5 eq85t65 csq8t65 t65.2.2.2.2.2.2.2.2.2.1:=hq85t65
   replace M:=M_.uf
   obtain ⟨uo73_0,_,_,_,_,uo73_5,rfl,ho73_0,rfl,rfl,⟨Ao73_3,co73_3,rfl,ho73_3⟩,⟨Ao73_4,co73_4,rfl,ho73_4⟩⟩:=hrhr718
   obtain ⟨_,_,_,_,_,_,uo75_6,_,_,_,rfl,rfl,rfl,rfl,rfl,rfl,rfl,ho75_6,⟨Ao75_7,co75_7,rfl,ho75_7⟩,⟨Ao75_9,co75_9,rfl,ho75_9⟩,⟨Ao75_10,co75_10,rfl,ho75_10⟩⟩:=hr71
   obtain ⟨t77,ht77,h⟩:=bs h
   refine .a1 tr 9<| .ca (Ya.calls (M.or 0) ht77) ?_
   rintro _ W76 ⟨A78,c79,rfl,M_⟩
   replace M:=M.cg M_
   refine .pz tr [10,11,12,13,14]<| .dn tr<| .gq 3 ?_
   rcases orpE h with ⟨n81,hn81,h⟩ | ⟨_,h⟩
   ·obtain rfl:=sj h
    exact .pq func52 (Ve.panics hn81) fun _ M_=>(Mem.pm (M.cg M_) [] [[1]] rfl rfl rfl)
   cases h
  ·have hs86:MxB_ctx_Ctx Zm (.pt gq8) [.bool a0.1,.bool a0.2.1,.i a0.2.2.1,.i a0.2.2.2.1,.i a0.2.2.2.2.1,.bool a0.2.2.2.2.2.1,.pt g7,.slice Ao5_7 a0.2.2.2.2.2.2.2.1.length co5_7,.pt gq8,.slice Ao5_9 a0.2.2.2.2.2.2.2.2.2.1.length co5_9,.slice Ao5_10 a0.2.2.2.2.2.2.2.2.2.2.length co5_10] (a0.1,a0.2.1,a0.2.2.1,a0.2.2.2.1,a0.2.2.2.2.1,a0.2.2.2.2.2.1,(some s6),a0.2.2.2.2.2.2.2.1,a0.2.2.2.2.2.2.2.2.1,a0.2.2.2.2.2.2.2.2.2.1,a0.2.2.2.2.2.2.2.2.2.2):=⟨_,_,_,_,_,_,_,_,_,_,rfl,rfl,rfl,rfl,rfl,rfl,rfl,(upc _ _ _ _ (fun _ z=>z) (.inr ⟨s6,rfl,hps6⟩)),(upn (fun _ z=>z) (rno ho5_7 (zl M hZm 0))),(upn (fun _ z=>z) (rno ho5_9 (zl M hZm 0))),(upn (fun _ z=>z) (rno ho5_10 (zl M hZm 0)))⟩
   have hs87:Rs_modes_Mode Zm [uo3_0,.i a0.2.2.2.2.2.2.2.2.1.2.1,.bool a0.2.2.2.2.2.2.2.2.1.2.2.1,.slice Ao3_3 a0.2.2.2.2.2.2.2.2.1.2.2.2.1.length co3_3,.slice Ao3_4 a0.2.2.2.2.2.2.2.2.1.2.2.2.2.1.length co3_4,uo3_5] a0.2.2.2.2.2.2.2.2.1:=⟨_,_,_,_,_,_,rfl,(upc _ _ _ _ (fun _ z=>z) ho3_0),rfl,rfl,(upn (fun _ z=>z) (rno ho3_3 (zl M hZm 0))),(upn (fun _ z=>z) (rno ho3_4 (zl M hZm 0)))⟩
   obtain ⟨t85,ht85,h⟩:=bs h
   refine .ca (Vb.calls (hp0:=hs86) (hq8:=hs87) (hq85:=hq85) (hZm:=fun _ hk_ hT_=>(hZm _ hk_ (hT_.fg 0 rfl))) (M0:=M.fm [0,1,2] [] [0] rfl rfl rfl) (Zp1:=fun W_=>Rd W_ (.slice Ap1 a1.length cp1) (nums .u8 a1)) (hr1:=fun _ h_=>h_) (hZp1:=fun _ hk_ hT_=>(hr1 _ (hZp1 _ hk_ (hT_.fg 0 rfl)))) (h:=ht85)) ?_
   rintro _ W84 ⟨A88,c89,cst85,Ft85,gq8t85,csq8t85,eq85t85,rfl,hRt85,hq8t85,hq85t85,M_⟩
   have hr91:MxB_ctx_Ctx (andZ (Oks Ft85) Zm) (.pt gq8t85) cst85 t85.2:=hRt85
   have hrhr918:Rs_modes_Mode (andZ (Oks Ft85) Zm) csq8t85 t85.2.2.2.2.2.2.2.2.2.1:=hq8t85
   have hrhr9185:Own5 eq85t85 csq8t85 t85.2.2.2.2.2.2.2.2.2.1:=hq85t85
   replace M:=M_.uf
   obtain ⟨uo93_0,_,_,_,_,uo93_5,rfl,ho93_0,rfl,rfl,⟨Ao93_3,co93_3,rfl,ho93_3⟩,⟨Ao93_4,co93_4,rfl,ho93_4⟩⟩:=hrhr918
   obtain ⟨_,_,_,_,_,_,uo95_6,_,_,_,rfl,rfl,rfl,rfl,rfl,rfl,rfl,ho95_6,⟨Ao95_7,co95_7,rfl,ho95_7⟩,⟨Ao95_9,co95_9,rfl,ho95_9⟩,⟨Ao95_10,co95_10,rfl,ho95_10⟩⟩:=hr91
   refine .a1 tr 4<| .lv M 1 rfl 4 (congrArg (fun x=>some (Value.i x)) (Vb.keep ht85)) ?_
   obtain ⟨t97,ht97,h⟩:=bs h
   refine .a1 tr 9<| .ca (Ya.calls (M.or 0) ht97) ?_
   rintro _ W96 ⟨A98,c99,rfl,M_⟩
   replace M:=M.cg M_
   refine .pz tr [10,11,12,13,14]<| .dn tr<| .gq 3 ?_
   rcases orpE h with ⟨n101,hn101,h⟩ | ⟨_,h⟩
   ·obtain rfl:=sj h
    exact .pq func52 (Ve.panics hn101) fun _ M_=>(Mem.pm (M.cg M_) [] [[1]] rfl rfl rfl)
   cases h
 refine .kn 79 c59<| .gq 3<| .at (show RQ 52 f52 r (fun w'=>Mem w0 w' (Gs [] [FT])) [1,1,1,1,1,1,0] [(0,.pt gp0),(1,.slice Ap1 a1.length cp1),(5,.i t10)] _ from .dru M fun W104 M=> ?_)
 refine .pz tr [0,1,2,3,5,6,7]<| .a2 tr 4 8 ?_ ?_
 ·refine .lv M 0 rfl 4 rfl ?_
  have hs107:MxB_ctx_Ctx Zm (.pt gq8) [.bool a0.1,.bool a0.2.1,.i a0.2.2.1,.i a0.2.2.2.1,.i a0.2.2.2.2.1,.bool a0.2.2.2.2.2.1,.pt g7,.slice Ao5_7 a0.2.2.2.2.2.2.2.1.length co5_7,.pt gq8,.slice Ao5_9 a0.2.2.2.2.2.2.2.2.2.1.length co5_9,.slice Ao5_10 a0.2.2.2.2.2.2.2.2.2.2.length co5_10] (a0.1,a0.2.1,a0.2.2.1,a0.2.2.2.1,a0.2.2.2.2.1,a0.2.2.2.2.2.1,(some s6),a0.2.2.2.2.2.2.2.1,a0.2.2.2.2.2.2.2.2.1,a0.2.2.2.2.2.2.2.2.2.1,a0.2.2.2.2.2.2.2.2.2.2):=⟨_,_,_,_,_,_,_,_,_,_,rfl,rfl,rfl,rfl,rfl,rfl,rfl,(upc _ _ _ _ (fun _ z=>z) (.inr ⟨s6,rfl,hps6⟩)),(upn (fun _ z=>z) (rno ho5_7 (zl M hZm 0))),(upn (fun _ z=>z) (rno ho5_9 (zl M hZm 0))),(upn (fun _ z=>z) (rno ho5_10 (zl M hZm 0)))⟩
  have hs108:Rs_modes_Mode Zm [uo3_0,.i a0.2.2.2.2.2.2.2.2.1.2.1,.bool a0.2.2.2.2.2.2.2.2.1.2.2.1,.slice Ao3_3 a0.2.2.2.2.2.2.2.2.1.2.2.2.1.length co3_3,.slice Ao3_4 a0.2.2.2.2.2.2.2.2.1.2.2.2.2.1.length co3_4,uo3_5] a0.2.2.2.2.2.2.2.2.1:=⟨_,_,_,_,_,_,rfl,(upc _ _ _ _ (fun _ z=>z) ho3_0),rfl,rfl,(upn (fun _ z=>z) (rno ho3_3 (zl M hZm 0))),(upn (fun _ z=>z) (rno ho3_4 (zl M hZm 0)))⟩
  obtain ⟨t106,ht106,h⟩:=bs h
  refine .a1 tr 8<| .ca (Vb.calls (hp0:=hs107) (hq8:=hs108) (hq85:=hq85) (hZm:=fun _ hk_ hT_=>(hZm _ hk_ (hT_.fg 0 rfl))) (M0:=M.fm [0,1,2] [] [0] rfl rfl rfl) (Zp1:=fun W_=>Rd W_ (.slice Ap1 a1.length cp1) (nums .u8 a1)) (hr1:=fun _ h_=>h_) (hZp1:=fun _ hk_ hT_=>(hr1 _ (hZp1 _ hk_ (hT_.fg 0 rfl)))) (h:=ht106)) ?_
  rintro _ W105 ⟨A109,c110,cst106,Ft106,gq8t106,csq8t106,eq85t106,rfl,hRt106,hq8t106,hq85t106,M_⟩
  have hr112:MxB_ctx_Ctx (andZ (Oks Ft106) Zm) (.pt gq8t106) cst106 t106.2:=hRt106
  have hrhr1128:Rs_modes_Mode (andZ (Oks Ft106) Zm) csq8t106 t106.2.2.2.2.2.2.2.2.2.1:=hq8t106
  have hrhr11285:Own5 eq85t106 csq8t106 t106.2.2.2.2.2.2.2.2.2.1:=hq85t106
  replace M:=M_.uf
  obtain ⟨uo114_0,_,_,_,_,uo114_5,rfl,ho114_0,rfl,rfl,⟨Ao114_3,co114_3,rfl,ho114_3⟩,⟨Ao114_4,co114_4,rfl,ho114_4⟩⟩:=hrhr1128
  obtain ⟨_,_,_,_,_,_,uo116_6,_,_,_,rfl,rfl,rfl,rfl,rfl,rfl,rfl,ho116_6,⟨Ao116_7,co116_7,rfl,ho116_7⟩,⟨Ao116_9,co116_9,rfl,ho116_9⟩,⟨Ao116_10,co116_10,rfl,ho116_10⟩⟩:=hr112
  obtain ⟨t118,ht118,h⟩:=bs h
  refine .a1 tr 9<| .ca (Ya.calls (M.or 0) ht118) ?_
  rintro _ W117 ⟨A119,c120,rfl,M_⟩
  replace M:=M.cg M_
  refine .pz tr [10,11,12,13,14]<| .dn tr<| .gq 3 ?_
  rcases orpE h with ⟨n122,hn122,h⟩ | ⟨_,h⟩
  ·obtain rfl:=sj h
   exact .pq func52 (Ve.panics hn122) fun _ M_=>(Mem.pm (M.cg M_) [] [[1]] rfl rfl rfl)
  cases h
 ·have hs127:MxB_ctx_Ctx Zm (.pt gq8) [.bool a0.1,.bool a0.2.1,.i a0.2.2.1,.i a0.2.2.2.1,.i a0.2.2.2.2.1,.bool a0.2.2.2.2.2.1,.pt g7,.slice Ao5_7 a0.2.2.2.2.2.2.2.1.length co5_7,.pt gq8,.slice Ao5_9 a0.2.2.2.2.2.2.2.2.2.1.length co5_9,.slice Ao5_10 a0.2.2.2.2.2.2.2.2.2.2.length co5_10] (a0.1,a0.2.1,a0.2.2.1,a0.2.2.2.1,a0.2.2.2.2.1,a0.2.2.2.2.2.1,(some s6),a0.2.2.2.2.2.2.2.1,a0.2.2.2.2.2.2.2.2.1,a0.2.2.2.2.2.2.2.2.2.1,a0.2.2.2.2.2.2.2.2.2.2):=⟨_,_,_,_,_,_,_,_,_,_,rfl,rfl,rfl,rfl,rfl,rfl,rfl,(upc _ _ _ _ (fun _ z=>z) (.inr ⟨s6,rfl,hps6⟩)),(upn (fun _ z=>z) (rno ho5_7 (zl M hZm 0))),(upn (fun _ z=>z) (rno ho5_9 (zl M hZm 0))),(upn (fun _ z=>z) (rno ho5_10 (zl M hZm 0)))⟩
  have hs128:Rs_modes_Mode Zm [uo3_0,.i a0.2.2.2.2.2.2.2.2.1.2.1,.bool a0.2.2.2.2.2.2.2.2.1.2.2.1,.slice Ao3_3 a0.2.2.2.2.2.2.2.2.1.2.2.2.1.length co3_3,.slice Ao3_4 a0.2.2.2.2.2.2.2.2.1.2.2.2.2.1.length co3_4,uo3_5] a0.2.2.2.2.2.2.2.2.1:=⟨_,_,_,_,_,_,rfl,(upc _ _ _ _ (fun _ z=>z) ho3_0),rfl,rfl,(upn (fun _ z=>z) (rno ho3_3 (zl M hZm 0))),(upn (fun _ z=>z) (rno ho3_4 (zl M hZm 0)))⟩
  obtain ⟨t126,ht126,h⟩:=bs h
  refine .ca (Vb.calls (hp0:=hs127) (hq8:=hs128) (hq85:=hq85) (hZm:=fun _ hk_ hT_=>(hZm _ hk_ (hT_.fg 0 rfl))) (M0:=M.fm [0,1,2] [] [0] rfl rfl rfl) (Zp1:=fun W_=>Rd W_ (.slice Ap1 a1.length cp1) (nums .u8 a1)) (hr1:=fun _ h_=>h_) (hZp1:=fun _ hk_ hT_=>(hr1 _ (hZp1 _ hk_ (hT_.fg 0 rfl)))) (h:=ht126)) ?_
  rintro _ W125 ⟨A129,c130,cst126,Ft126,gq8t126,csq8t126,eq85t126,rfl,hRt126,hq8t126,hq85t126,M_⟩
  have hr132:MxB_ctx_Ctx (andZ (Oks Ft126) Zm) (.pt gq8t126) cst126 t126.2:=hRt126
  have hrhr1328:Rs_modes_Mode (andZ (Oks Ft126) Zm) csq8t126 t126.2.2.2.2.2.2.2.2.2.1:=hq8t126
  have hrhr13285:Own5 eq85t126 csq8t126 t126.2.2.2.2.2.2.2.2.2.1:=hq85t126
  replace M:=M_.uf
  obtain ⟨uo134_0,_,_,_,_,uo134_5,rfl,ho134_0,rfl,rfl,⟨Ao134_3,co134_3,rfl,ho134_3⟩,⟨Ao134_4,co134_4,rfl,ho134_4⟩⟩:=hrhr1328
  obtain ⟨_,_,_,_,_,_,uo136_6,_,_,_,rfl,rfl,rfl,rfl,rfl,rfl,rfl,ho136_6,⟨Ao136_7,co136_7,rfl,ho136_7⟩,⟨Ao136_9,co136_9,rfl,ho136_9⟩,⟨Ao136_10,co136_10,rfl,ho136_10⟩⟩:=hr132
  refine .a1 tr 4<| .lv M 1 rfl 4 (congrArg (fun x=>some (Value.i x)) (Vb.keep ht126)) ?_
  obtain ⟨t138,ht138,h⟩:=bs h
  refine .a1 tr 9<| .ca (Ya.calls (M.or 0) ht138) ?_
  rintro _ W137 ⟨A139,c140,rfl,M_⟩
  replace M:=M.cg M_
  refine .pz tr [10,11,12,13,14]<| .dn tr<| .gq 3 ?_
  rcases orpE h with ⟨n142,hn142,h⟩ | ⟨_,h⟩
  ·obtain rfl:=sj h
   exact .pq func52 (Ve.panics hn142) fun _ M_=>(Mem.pm (M.cg M_) [] [[1]] rfl rfl rfl)
  cases h
end Go.Scr.S

namespace Go.Scr.S
variable {k np0 cp0 np1 cp1 np2 cp2 np3 cp3 np4 cp4:Nat} {Ap0 Ap1 Ap2 Ap3 Ap4:Option Addr} {w w0:World} {FT:List Ent} {Zm Zp0 Zp1 Zp2 Zp3:Zp}
open Go.RowKit (Below)
open Go.Proofs.Tryz (prog f14 func14)
def Q5.l0:Nat→Cy→Li→Int→Int→Int→Option (Li×Int×Cy)
 | 0,_,_,_,_,_=>none
 | k+1,a0,a1,t23,t25,x6_0=>(some (decide ((I64 (((a0.2.2.2.2.2.2.2.2.2.1++a1).length:Int)-x6_0))>t23):Bool)).bind fun y26=>(if y26=true then (Q5.l0 k a0 a1 t23 t25 (I64 (x6_0+t25))) else (gd (0≤x6_0) (gd (x6_0≤((a0.2.2.2.2.2.2.2.2.2.1++a1).length:Int)) ((Vb.f k (a0.1,a0.2.1,a0.2.2.1,a0.2.2.2.1,a0.2.2.2.2.1,a0.2.2.2.2.2.1,a0.2.2.2.2.2.2.1,a0.2.2.2.2.2.2.2.1,a0.2.2.2.2.2.2.2.2.1,(a0.2.2.2.2.2.2.2.2.2.1++a1),a0.2.2.2.2.2.2.2.2.2.2) (((a0.2.2.2.2.2.2.2.2.2.1++a1).take (x6_0:Int).toNat).drop (0:Int).toNat)).bind fun t34=>(gd (0≤x6_0) (gd (x6_0≤(t34.2.2.2.2.2.2.2.2.2.2.1.length:Int)) ((Yz.f k ((t34.2.2.2.2.2.2.2.2.2.2.1.take ((t34.2.2.2.2.2.2.2.2.2.2.1.length:Int):Int).toNat).drop (x6_0:Int).toNat)).bind fun t53=>(some (t34.1,0,(t34.2.1,t34.2.2.1,t34.2.2.2.1,t34.2.2.2.2.1,t34.2.2.2.2.2.1,t34.2.2.2.2.2.2.1,t34.2.2.2.2.2.2.2.1,t34.2.2.2.2.2.2.2.2.1,t34.2.2.2.2.2.2.2.2.2.1,t53,t34.2.2.2.2.2.2.2.2.2.2.2))))))))))
def Q5.f (k:Nat) (a0:Cy) (a1:Li):Option (Li×Int×Cy):=(Q9.f k (a0.1,a0.2.1,a0.2.2.1,a0.2.2.2.1,a0.2.2.2.2.1,a0.2.2.2.2.2.1,a0.2.2.2.2.2.2.1,a0.2.2.2.2.2.2.2.1,(some a0.2.2.2.2.2.2.2.2.1),a0.2.2.2.2.2.2.2.2.2.1,a0.2.2.2.2.2.2.2.2.2.2)).bind fun t14=>(gd (a0.2.2.2.2.2.2.2.2.2.1.length+a1.length≤1000000000) ((Q8.f k (a0.1,a0.2.1,a0.2.2.1,a0.2.2.2.1,a0.2.2.2.2.1,a0.2.2.2.2.2.1,a0.2.2.2.2.2.2.1,a0.2.2.2.2.2.2.2.1,(some a0.2.2.2.2.2.2.2.2.1),(a0.2.2.2.2.2.2.2.2.2.1++a1),a0.2.2.2.2.2.2.2.2.2.2)).bind fun t23=>((V3.f k a0.2.2.2.2.2.2.2.2.1).bind fun t25=>(Q5.l0 k a0 a1 t23 t25 0))))
abbrev Q5.R (gp0:Nat) (r:Li×Int×Cy) (w0:World) (FT:List Ent) (Zm:Zp):Value→World→Prop:=fun v w'=> ∃A0' c0',∃(cs':List Value) (F':List Ent) (gq8':Nat) (csq8':List Value) (eq85':Ent) (Aq9':Option Addr) (nq9' cq9':Nat),v= .tuple #[.slice A0' r.1.length c0',.i r.2.1]∧MxA_ctx_Ctx (andZ (Oks F') Zm) (.pointer (some ⟨gq8',0,none⟩)) (.slice Aq9' nq9' cq9') cs' r.2.2∧Rs_modes_Mode (andZ (Oks F') Zm) csq8' r.2.2.2.2.2.2.2.2.2.2.1∧Own5 eq85' csq8' r.2.2.2.2.2.2.2.2.2.2.1∧Mem w0 w' (Gs [⟨.slice A0' r.1.length c0',5,1,nums .u8 r.1⟩,⟨.pt gp0,72,0,cs'⟩,⟨(.pointer (some ⟨gq8',0,none⟩)),100,0,csq8'⟩,eq85',⟨(.slice Aq9' nq9' cq9'),5,1,nums .u8 r.2.2.2.2.2.2.2.2.2.2.2.1⟩] [F',FT])
theorem Q5.calls {gp0:Nat} {csp0:List Value} {a0:Cy} {gq8:Nat} {csq8:List Value} {eq85:Ent} {Aq9:Option Addr} {nq9 cq9:Nat} {a1:Li} {r:Li×Int×Cy} (hp0:MxA_ctx_Ctx Zm (.pt gq8) (.slice Aq9 nq9 cq9) csp0 a0) (hq8:Rs_modes_Mode Zm csq8 a0.2.2.2.2.2.2.2.2.1) (hq85:Own5 eq85 csq8 a0.2.2.2.2.2.2.2.2.1) (hZm: ∀W,Kept w0 W→Oks FT W→Zm W) (M0:Mem w0 w (Gs [⟨.pt gp0,72,0,csp0⟩,⟨(.pt gq8),100,0,csq8⟩,eq85,⟨(.slice Aq9 nq9 cq9),5,1,nums .u8 a0.2.2.2.2.2.2.2.2.2.1⟩] [FT])) (hr1:RdF Zp1 (.slice Ap1 np1 cp1) (nums .u8 a1)) (hZp1: ∀W,Kept w0 W→Oks FT W→Zp1 W) (h:Q5.f k a0 a1=some r):Calls prog 14 #[.pt gp0,(.slice Ap1 np1 cp1)] w (Ret (Q5.R gp0 r w0 FT Zm)):=by
 obtain rfl:=(hr1 _ (hZp1 _ M0.kept (M0.oks 0))).ln
 obtain rfl:=(M0.or 3).ln
 obtain ⟨uo3_0,_,_,_,_,uo3_5,rfl,ho3_0,rfl,rfl,⟨Ao3_3,co3_3,rfl,ho3_3⟩,⟨Ao3_4,co3_4,rfl,ho3_4⟩⟩:=hq8
 obtain ⟨_,_,_,_,_,_,uo6_6,_,_,rfl,rfl,rfl,rfl,rfl,rfl,rfl,ho6_6,⟨Ao6_7,co6_7,rfl,ho6_7⟩,⟨Ao6_10,co6_10,rfl,ho6_10⟩⟩:=hp0
 unfold Q5.f at h
 refine calls_S func14 ?_
 have M:=M0
 refine .gq 2<| .nw 22 ([.slice none 0 0]) M fun g7 W8 M=> .nw 30 ([.i 0]) M fun g10 W11 M=> .gq 4<| .df (d:=⟨.fn (.func 47) #[],#[.pt g7,.pt g10]⟩)<| .gq 4 ?_
 obtain ⟨t14,ht14,h⟩:=bs h
 refine .ca (Q9.calls (Zp0:=Kept W11) (a0:=(a0.1,a0.2.1,a0.2.2.1,a0.2.2.2.1,a0.2.2.2.2.1,a0.2.2.2.2.2.1,a0.2.2.2.2.2.2.1,a0.2.2.2.2.2.2.2.1,(some a0.2.2.2.2.2.2.2.2.1),a0.2.2.2.2.2.2.2.2.2.1,a0.2.2.2.2.2.2.2.2.2.2)) ⟨gp0,_,rfl,(M.cellsKept 2 rfl),_,_,_,_,_,_,_,_,_,_,_,rfl,rfl,rfl,rfl,rfl,rfl,rfl,(upc _ _ _ _ (zk M hZm 0) ho6_6),(upn (zk M hZm 0) (rno ho6_7 (zl M hZm 0))),(.inr ⟨_,rfl,⟨gq8,_,rfl,(M.cellsKept 3 rfl),_,_,_,_,_,_,rfl,(upc _ _ _ _ (zk M hZm 0) ho3_0),rfl,rfl,(upn (zk M hZm 0) (rno ho3_3 (zl M hZm 0))),(upn (zk M hZm 0) (rno ho3_4 (zl M hZm 0)))⟩⟩),(rno (RdF.of_rd (M.rd 5 rfl)) (Kept.refl _)),(upn (zk M hZm 0) (rno ho6_10 (zl M hZm 0)))⟩ (fun _ h_=>h_) ht14) ?_
 rintro _ W13 ⟨rfl,M_⟩
 replace M:=M.cg M_
 refine .gq 7<| .lv M 2 rfl 9 rfl<| .gq 1 ?_
 obtain ⟨c18,h⟩:=ifd h
 refine .an M 5 rfl (hr1 _ (zl M hZp1 0)) c18 fun A15 c16 W17 M=> .gq 2<| .vf 9 (.slice A15 ((a0.2.2.2.2.2.2.2.2.2.1++a1).length) c16) M 2 rfl fun W20 M=> .gq 2<| .at (show RL 14 f14 (Q5.R gp0 r w0 FT Zm) [1,0,1,1,1,0] [(0,.pt gp0),(4,.pt g7),(5,.pt g10)] _ _ from .dr [] M fun W21 M=> ?_)
 refine .pz tr [0,2,3,4]<| .lv tr 5 M 2 rfl 8 rfl ?_
 obtain ⟨t23,ht23,h⟩:=bs h
 refine .a1 tr 1<| .ca (Q8.calls (Zp0:=Kept W21) (a0:=(a0.1,a0.2.1,a0.2.2.1,a0.2.2.2.1,a0.2.2.2.2.1,a0.2.2.2.2.2.1,a0.2.2.2.2.2.2.1,a0.2.2.2.2.2.2.2.1,(some a0.2.2.2.2.2.2.2.2.1),(a0.2.2.2.2.2.2.2.2.2.1++a1),a0.2.2.2.2.2.2.2.2.2.2)) ⟨gp0,_,rfl,(M.cellsKept 2 rfl),_,_,_,_,_,_,_,_,_,_,_,rfl,rfl,rfl,rfl,rfl,rfl,rfl,(upc _ _ _ _ (zk M hZm 0) ho6_6),(upn (zk M hZm 0) (rno ho6_7 (zl M hZm 0))),(.inr ⟨_,rfl,⟨gq8,_,rfl,(M.cellsKept 3 rfl),_,_,_,_,_,_,rfl,(upc _ _ _ _ (zk M hZm 0) ho3_0),rfl,rfl,(upn (zk M hZm 0) (rno ho3_3 (zl M hZm 0))),(upn (zk M hZm 0) (rno ho3_4 (zl M hZm 0)))⟩⟩),(rno (RdF.of_rd (M.rd 5 rfl)) (Kept.refl _)),(upn (zk M hZm 0) (rno ho6_10 (zl M hZm 0)))⟩ (fun _ h_=>h_) ht23) ?_
 rintro _ W22 ⟨rfl,M_⟩
 refine .ca M_ [] ?_
 replace M:=M.cg M_
 obtain ⟨t25,ht25,h⟩:=bs h
 refine .a1 tr 6<| .ca (V3.calls (Zp0:=Kept W22) (a0:=a0.2.2.2.2.2.2.2.2.1) ⟨gq8,_,rfl,(M.cellsKept 3 rfl),_,_,_,_,_,_,rfl,(upc _ _ _ _ (zk M hZm 0) ho3_0),rfl,rfl,(upn (zk M hZm 0) (rno ho3_3 (zl M hZm 0))),(upn (zk M hZm 0) (rno ho3_4 (zl M hZm 0)))⟩ (fun _ h_=>h_) ht25) ?_
 rintro _ W24 ⟨rfl,M_⟩
 refine .ca M_ [] ?_
 replace M:=M.cg M_
 refine .pz tr [7,8,9]<| .dn tr<| .gq 2 ?_
 have l0: ∀k_≤k,∀(x6_0:Int) {W:World} (M:Mem w0 W (Gs [⟨.pt gp0,72,0,[.bool a0.1,.bool a0.2.1,.i a0.2.2.1,.i a0.2.2.2.1,.i a0.2.2.2.2.1,.bool a0.2.2.2.2.2.1,uo6_6,.slice Ao6_7 a0.2.2.2.2.2.2.2.1.length co6_7,.pt gq8,.slice A15 ((a0.2.2.2.2.2.2.2.2.2.1++a1).length) c16,.slice Ao6_10 a0.2.2.2.2.2.2.2.2.2.2.length co6_10]⟩,⟨.pt g7,22,0,[.slice none 0 0]⟩,⟨.pt g10,30,0,[.i 0]⟩,⟨.pt gq8,100,0,[uo3_0,.i a0.2.2.2.2.2.2.2.2.1.2.1,.bool a0.2.2.2.2.2.2.2.2.1.2.2.1,.slice Ao3_3 a0.2.2.2.2.2.2.2.2.1.2.2.2.1.length co3_3,.slice Ao3_4 a0.2.2.2.2.2.2.2.2.1.2.2.2.2.1.length co3_4,uo3_5]⟩,⟨.slice A15 ((a0.2.2.2.2.2.2.2.2.2.1++a1).length) c16,5,1,nums .u8 (a0.2.2.2.2.2.2.2.2.2.1++a1)⟩,eq85] [FT])) (h:Q5.l0 k_ a0 a1 t23 t25 x6_0=some r),RL 14 f14 (Q5.R gp0 r w0 FT Zm) [1,0,1,1,1,1,1] [(0,.pt gp0),(4,.pt g7),(5,.pt g10),(6,.i x6_0),(7,.i t23),(8,.i t25)] W [⟨.fn (.func 47) #[],#[.pt g7,.pt g10]⟩]:=by
  refine loopI (by intros;rename_i h;simp [Q5.l0] at h) fun k hk ih0 x6_0 W M h=> ?_
  simp only [Q5.l0] at h
  refine .gq 6<| .lv M 0 rfl 9 rfl<| .gq 6 ?_
  let y26:Bool:=decide ((I64 (((a0.2.2.2.2.2.2.2.2.2.1++a1).length:Int)-x6_0))>t23)
  replace h:=bz (y:=y26) h rfl
  rcases ift h with ⟨c27,h⟩ | ⟨c27,h⟩
  ·exact .kn 35 c27<| .gq 11<| .at (ih0 k (by omega) (I64 (x6_0+t25)) (M.pm [0,1,2,3,4,5] [[0]]) h)
  refine .kn 35 c27<| .gq 8<| .lv M 0 rfl 9 rfl<| .gq 1 ?_
  obtain ⟨c28,h⟩:=ifd h
  obtain ⟨c29,h⟩:=ifd h
  refine .ct 0 x6_0 (M.or 4) fun A30 c31 hs32=> ?_
  obtain ⟨Fq35,hfq35,M⟩:=M.fs 4
  have hs36:MxB_ctx_Ctx (andZ Zm (Oks Fq35)) (.pt gq8) [.bool a0.1,.bool a0.2.1,.i a0.2.2.1,.i a0.2.2.2.1,.i a0.2.2.2.2.1,.bool a0.2.2.2.2.2.1,uo6_6,.slice Ao6_7 a0.2.2.2.2.2.2.2.1.length co6_7,.pt gq8,.slice A15 ((a0.2.2.2.2.2.2.2.2.2.1++a1).length) c16,.slice Ao6_10 a0.2.2.2.2.2.2.2.2.2.2.length co6_10] (a0.1,a0.2.1,a0.2.2.1,a0.2.2.2.1,a0.2.2.2.2.1,a0.2.2.2.2.2.1,a0.2.2.2.2.2.2.1,a0.2.2.2.2.2.2.2.1,a0.2.2.2.2.2.2.2.2.1,(a0.2.2.2.2.2.2.2.2.2.1++a1),a0.2.2.2.2.2.2.2.2.2.2):=⟨_,_,_,_,_,_,_,_,_,_,rfl,rfl,rfl,rfl,rfl,rfl,rfl,(upc _ _ _ _ (fun _ z=>z.1) ho6_6),(upn (fun _ z=>z.1) (rno ho6_7 (zl M hZm 1))),(upn (fun _ z=>z.2) (rno hfq35 (M.oks 0))),(upn (fun _ z=>z.1) (rno ho6_10 (zl M hZm 1)))⟩
  have hs37:Rs_modes_Mode (andZ Zm (Oks Fq35)) [uo3_0,.i a0.2.2.2.2.2.2.2.2.1.2.1,.bool a0.2.2.2.2.2.2.2.2.1.2.2.1,.slice Ao3_3 a0.2.2.2.2.2.2.2.2.1.2.2.2.1.length co3_3,.slice Ao3_4 a0.2.2.2.2.2.2.2.2.1.2.2.2.2.1.length co3_4,uo3_5] a0.2.2.2.2.2.2.2.2.1:=⟨_,_,_,_,_,_,rfl,(upc _ _ _ _ (fun _ z=>z.1) ho3_0),rfl,rfl,(upn (fun _ z=>z.1) (rno ho3_3 (zl M hZm 1))),(upn (fun _ z=>z.1) (rno ho3_4 (zl M hZm 1)))⟩
  obtain ⟨t34,ht34,h⟩:=bs h
  refine .ca (Vb.calls (hp0:=hs36) (hq8:=hs37) (hq85:=hq85) (hZm:=fun _ hk_ hT_=>(ai (hZm _ hk_ (hT_.fg 1 rfl)) (hT_.fg 0 rfl))) (M0:=M.fm [0,3,4] [1,2] [0,1] rfl rfl rfl) (Zp1:=fun W_=>Rd W_ (.slice A30 ((((a0.2.2.2.2.2.2.2.2.2.1++a1).take (x6_0:Int).toNat).drop (0:Int).toNat).length) c31) (nums .u8 (((a0.2.2.2.2.2.2.2.2.2.1++a1).take (x6_0:Int).toNat).drop (0:Int).toNat))) (hr1:=fun _ h_=>h_) (hZp1:=fun _ hk_ hT_=>(hs32 _ (hfq35 _ (hT_.fg 0 rfl)))) (h:=ht34)) ?_
  rintro _ W33 ⟨A38,c39,cst34,Ft34,gq8t34,csq8t34,eq85t34,rfl,hRt34,hq8t34,hq85t34,M_⟩
  have hr41:MxB_ctx_Ctx (andZ (Oks Ft34) (andZ Zm (Oks Fq35))) (.pt gq8t34) cst34 t34.2:=hRt34
  have hrhr418:Rs_modes_Mode (andZ (Oks Ft34) (andZ Zm (Oks Fq35))) csq8t34 t34.2.2.2.2.2.2.2.2.2.1:=hq8t34
  have hrhr4185:Own5 eq85t34 csq8t34 t34.2.2.2.2.2.2.2.2.2.1:=hq85t34
  replace M:=M_.uf
  obtain ⟨uo43_0,_,_,_,_,uo43_5,rfl,ho43_0,rfl,rfl,⟨Ao43_3,co43_3,rfl,ho43_3⟩,⟨Ao43_4,co43_4,rfl,ho43_4⟩⟩:=hrhr418
  obtain ⟨_,_,_,_,_,_,uo45_6,_,_,_,rfl,rfl,rfl,rfl,rfl,rfl,rfl,ho45_6,⟨Ao45_7,co45_7,rfl,ho45_7⟩,⟨Ao45_9,co45_9,rfl,ho45_9⟩,⟨Ao45_10,co45_10,rfl,ho45_10⟩⟩:=hr41
  refine .vf 0 (.slice A38 t34.1.length c39) M 4 rfl fun W46 M=> .gq 7<| .lv M 1 rfl 9 rfl<| .gq 1 ?_
  obtain ⟨c47,h⟩:=ifd h
  obtain ⟨c48,h⟩:=ifd h
  refine .ct x6_0 (t34.2.2.2.2.2.2.2.2.2.2.1.length:Int) (ho45_9 _ (ai (M.oks 0) (ai (zl M hZm 2) (M.oks 1)))) fun A49 c50 hs51=> ?_
  obtain ⟨t53,ht53,h⟩:=bs h
  refine .ca (Yz.calls (hs51 _ (ho45_9 _ (ai (M.oks 0) (ai (zl M hZm 2) (M.oks 1))))) ht53) ?_
  rintro _ W52 ⟨A54,c55,rfl,M_⟩
  replace M:=M.cg M_
  refine .gq 2<| .vf 9 (.slice A54 t53.length c55) M 2 rfl fun W57 M=> .gq 3<| .lv M 5 rfl 0 rfl<| .vf 0 (.slice A38 t34.1.length c39) M 5 rfl fun W58 M=> .vf 0 (.i 0) M 6 rfl fun W59 M=> .gq 1 ?_
  obtain rfl:=sj h
  exact .rd func14 4 22 5 30 M 5 6 rfl rfl (ctx_caught.D _ _ _) ⟨A38,c39,[.bool t34.2.1,.bool t34.2.2.1,.i t34.2.2.2.1,.i t34.2.2.2.2.1,.i t34.2.2.2.2.2.1,.bool t34.2.2.2.2.2.2.1,uo45_6,.slice Ao45_7 t34.2.2.2.2.2.2.2.2.1.length co45_7,.pt gq8t34,.slice A54 t53.length c55,.slice Ao45_10 t34.2.2.2.2.2.2.2.2.2.2.2.length co45_10],(List.flatten [Ft34,Fq35]),gq8t34,[uo43_0,.i t34.2.2.2.2.2.2.2.2.2.1.2.1,.bool t34.2.2.2.2.2.2.2.2.2.1.2.2.1,.slice Ao43_3 t34.2.2.2.2.2.2.2.2.2.1.2.2.2.1.length co43_3,.slice Ao43_4 t34.2.2.2.2.2.2.2.2.2.1.2.2.2.2.1.length co43_4,uo43_5],eq85t34,A54,t53.length,c55,rfl,⟨_,_,_,_,_,_,_,_,_,rfl,rfl,rfl,rfl,rfl,rfl,rfl,(upc _ _ _ _ (fun _ z=>(ai (Oks.g z.1 0 rfl) (ai z.2 (Oks.g z.1 1 rfl)))) ho45_6),(upn (fun _ z=>(ai (Oks.g z.1 0 rfl) (ai z.2 (Oks.g z.1 1 rfl)))) (rno ho45_7 (ai (M.oks 0) (ai (zl M hZm 2) (M.oks 1))))),(upn (fun _ z=>(ai (Oks.g z.1 0 rfl) (ai z.2 (Oks.g z.1 1 rfl)))) (rno ho45_10 (ai (M.oks 0) (ai (zl M hZm 2) (M.oks 1)))))⟩,⟨_,_,_,_,_,_,rfl,(upc _ _ _ _ (fun _ z=>(ai (Oks.g z.1 0 rfl) (ai z.2 (Oks.g z.1 1 rfl)))) ho43_0),rfl,rfl,(upn (fun _ z=>(ai (Oks.g z.1 0 rfl) (ai z.2 (Oks.g z.1 1 rfl)))) (rno ho43_3 (ai (M.oks 0) (ai (zl M hZm 2) (M.oks 1))))),(upn (fun _ z=>(ai (Oks.g z.1 0 rfl) (ai z.2 (Oks.g z.1 1 rfl)))) (rno ho43_4 (ai (M.oks 0) (ai (zl M hZm 2) (M.oks 1)))))⟩,hrhr4185,(M.pm [1,2,3,4,0] [[0,1],[2]])⟩ (by kernel_rfl) (by kernel_rfl) (by kernel_rfl)
 exact .at (l0 k k.le_refl 0 (M.pm [2,1,0,3,5,4] [[0]]) h)
end Go.Scr.S

namespace Go.Scr.S
variable {k np0 cp0 np1 cp1 np2 cp2 np3 cp3 np4 cp4:Nat} {Ap0 Ap1 Ap2 Ap3 Ap4:Option Addr} {w w0:World} {FT:List Ent} {Zm Zp0 Zp1 Zp2 Zp3:Zp}
open Go.RowKit (Below)
open Go.Proofs.Tryz (prog f15 func15)
def Q3.f (k:Nat) (a0:Cy):Option (Li×Int):=(Q9.f k (a0.1,a0.2.1,a0.2.2.1,a0.2.2.2.1,a0.2.2.2.2.1,a0.2.2.2.2.2.1,a0.2.2.2.2.2.2.1,a0.2.2.2.2.2.2.2.1,(some a0.2.2.2.2.2.2.2.2.1),a0.2.2.2.2.2.2.2.2.2.1,a0.2.2.2.2.2.2.2.2.2.2)).bind fun t14=>(orp (Q7.p k (a0.1,false,a0.2.2.1,a0.2.2.2.1,a0.2.2.2.2.1,a0.2.2.2.2.2.1,a0.2.2.2.2.2.2.1,a0.2.2.2.2.2.2.2.1,a0.2.2.2.2.2.2.2.2.1,([]:Li),a0.2.2.2.2.2.2.2.2.2.2) a0.2.2.2.2.2.2.2.2.2.1) (fun n21=>(some (([]:Li),n21))) ((Q7.f k (a0.1,false,a0.2.2.1,a0.2.2.2.1,a0.2.2.2.2.1,a0.2.2.2.2.2.1,a0.2.2.2.2.2.2.1,a0.2.2.2.2.2.2.2.1,a0.2.2.2.2.2.2.2.2.1,([]:Li),a0.2.2.2.2.2.2.2.2.2.2) a0.2.2.2.2.2.2.2.2.2.1).bind fun t18=>(some (t18.1,0))))
theorem Q3.calls {gp0:Nat} {csp0:List Value} {a0:Cy} {gq8:Nat} {csq8:List Value} {eq85:Ent} {Aq9:Option Addr} {nq9 cq9:Nat} {r:Li×Int} (hp0:MxA_ctx_Ctx Zm (.pt gq8) (.slice Aq9 nq9 cq9) csp0 a0) (hq8:Rs_modes_Mode Zm csq8 a0.2.2.2.2.2.2.2.2.1) (hq85:Own5 eq85 csq8 a0.2.2.2.2.2.2.2.2.1) (hZm: ∀W,Kept w0 W→Oks FT W→Zm W) (M0:Mem w0 w (Gs [⟨.pt gp0,72,0,csp0⟩,⟨(.pt gq8),100,0,csq8⟩,eq85,⟨(.slice Aq9 nq9 cq9),5,1,nums .u8 a0.2.2.2.2.2.2.2.2.2.1⟩] [FT])) (h:Q3.f k a0=some r):Calls prog 15 #[.pt gp0] w (Ret fun v w'=> ∃A0' c0',v= .tuple #[.slice A0' r.1.length c0',.i r.2]∧Mem w0 w' (Gs [⟨.slice A0' r.1.length c0',5,1,nums .u8 r.1⟩] [FT])):=by
 obtain rfl:=(M0.or 3).ln
 obtain ⟨uo3_0,_,_,_,_,uo3_5,rfl,ho3_0,rfl,rfl,⟨Ao3_3,co3_3,rfl,ho3_3⟩,⟨Ao3_4,co3_4,rfl,ho3_4⟩⟩:=hq8
 obtain ⟨_,_,_,_,_,_,uo6_6,_,_,rfl,rfl,rfl,rfl,rfl,rfl,rfl,ho6_6,⟨Ao6_7,co6_7,rfl,ho6_7⟩,⟨Ao6_10,co6_10,rfl,ho6_10⟩⟩:=hp0
 unfold Q3.f at h
 refine calls_S func15 ?_
 have M:=M0
 refine .gq 2<| .nw 22 ([.slice none 0 0]) M fun g7 W8 M=> .nw 30 ([.i 0]) M fun g10 W11 M=> .gq 3<| .df (d:=⟨.fn (.func 47) #[],#[.pt g7,.pt g10]⟩)<| .gq 4 ?_
 obtain ⟨t14,ht14,h⟩:=bs h
 refine .ca (Q9.calls (Zp0:=Kept W11) (a0:=(a0.1,a0.2.1,a0.2.2.1,a0.2.2.2.1,a0.2.2.2.2.1,a0.2.2.2.2.2.1,a0.2.2.2.2.2.2.1,a0.2.2.2.2.2.2.2.1,(some a0.2.2.2.2.2.2.2.2.1),a0.2.2.2.2.2.2.2.2.2.1,a0.2.2.2.2.2.2.2.2.2.2)) ⟨gp0,_,rfl,(M.cellsKept 2 rfl),_,_,_,_,_,_,_,_,_,_,_,rfl,rfl,rfl,rfl,rfl,rfl,rfl,(upc _ _ _ _ (zk M hZm 0) ho6_6),(upn (zk M hZm 0) (rno ho6_7 (zl M hZm 0))),(.inr ⟨_,rfl,⟨gq8,_,rfl,(M.cellsKept 3 rfl),_,_,_,_,_,_,rfl,(upc _ _ _ _ (zk M hZm 0) ho3_0),rfl,rfl,(upn (zk M hZm 0) (rno ho3_3 (zl M hZm 0))),(upn (zk M hZm 0) (rno ho3_4 (zl M hZm 0)))⟩⟩),(rno (RdF.of_rd (M.rd 5 rfl)) (Kept.refl _)),(upn (zk M hZm 0) (rno ho6_10 (zl M hZm 0)))⟩ (fun _ h_=>h_) ht14) ?_
 rintro _ W13 ⟨rfl,M_⟩
 replace M:=M.cg M_
 refine .gq 6<| .lv M 2 rfl 9 rfl<| .gq 8<| .vf 1 (.bool false) M 2 rfl fun W15 M=> .gq 2<| .vf 9 (.slice none 0 0) M 2 rfl fun W16 M=> .gq 5 ?_
 have hs19:MxB_ctx_Ctx Zm (.pt gq8) [.bool a0.1,.bool false,.i a0.2.2.1,.i a0.2.2.2.1,.i a0.2.2.2.2.1,.bool a0.2.2.2.2.2.1,uo6_6,.slice Ao6_7 a0.2.2.2.2.2.2.2.1.length co6_7,.pt gq8,.slice none 0 0,.slice Ao6_10 a0.2.2.2.2.2.2.2.2.2.2.length co6_10] (a0.1,false,a0.2.2.1,a0.2.2.2.1,a0.2.2.2.2.1,a0.2.2.2.2.2.1,a0.2.2.2.2.2.2.1,a0.2.2.2.2.2.2.2.1,a0.2.2.2.2.2.2.2.2.1,([]:Li),a0.2.2.2.2.2.2.2.2.2.2):=⟨_,_,_,_,_,_,_,_,_,_,rfl,rfl,rfl,rfl,rfl,rfl,rfl,(upc _ _ _ _ (fun _ z=>z) ho6_6),(upn (fun _ z=>z) (rno ho6_7 (zl M hZm 0))),⟨_,_,rfl,fun _ _=>Rd.nil _ _⟩,(upn (fun _ z=>z) (rno ho6_10 (zl M hZm 0)))⟩
 have hs20:Rs_modes_Mode Zm [uo3_0,.i a0.2.2.2.2.2.2.2.2.1.2.1,.bool a0.2.2.2.2.2.2.2.2.1.2.2.1,.slice Ao3_3 a0.2.2.2.2.2.2.2.2.1.2.2.2.1.length co3_3,.slice Ao3_4 a0.2.2.2.2.2.2.2.2.1.2.2.2.2.1.length co3_4,uo3_5] a0.2.2.2.2.2.2.2.2.1:=⟨_,_,_,_,_,_,rfl,(upc _ _ _ _ (fun _ z=>z) ho3_0),rfl,rfl,(upn (fun _ z=>z) (rno ho3_3 (zl M hZm 0))),(upn (fun _ z=>z) (rno ho3_4 (zl M hZm 0)))⟩
 rcases orpE h with ⟨n21,hn21,h⟩ | ⟨_,h⟩
 ·obtain rfl:=sj h
  exact .pd func15 2 3 (Q7.panics (hp0:=hs19) (hq8:=hs20) (hq85:=hq85) (hZm:=fun _ hk_ hT_=>(hZm _ hk_ (hT_.fg 0 rfl))) (M0:=M.fm [2,3,4] [0,1,5] [0] rfl rfl rfl) (Zp1:=fun W_=>Rd W_ (.slice Aq9 a0.2.2.2.2.2.2.2.2.2.1.length cq9) (nums .u8 a0.2.2.2.2.2.2.2.2.2.1)) (hr1:=fun _ h_=>h_) (hZp1:=fun _ hk_ hT_=>(hT_.fr 2 rfl)) (h:=hn21)) (fun _ M_=>M_.u1) 1 0 rfl rfl rfl (fun _ M=>⟨none,0,rfl,(Mem.pm (M.n1 5) [0] [[0]] rfl rfl rfl)⟩)
 obtain ⟨t18,ht18,h⟩:=bs h
 refine .ca (Q7.calls (hp0:=hs19) (hq8:=hs20) (hq85:=hq85) (hZm:=fun _ hk_ hT_=>(hZm _ hk_ (hT_.fg 0 rfl))) (M0:=M.fm [2,3,4] [0,1,5] [0] rfl rfl rfl) (Zp1:=fun W_=>Rd W_ (.slice Aq9 a0.2.2.2.2.2.2.2.2.2.1.length cq9) (nums .u8 a0.2.2.2.2.2.2.2.2.2.1)) (hr1:=fun _ h_=>h_) (hZp1:=fun _ hk_ hT_=>(hT_.fr 2 rfl)) (h:=ht18)) ?_
 rintro _ W17 ⟨A22,c23,cst18,Ft18,gq8t18,csq8t18,eq85t18,rfl,hRt18,hq8t18,hq85t18,M_⟩
 have hr25:MxB_ctx_Ctx (andZ (Oks Ft18) Zm) (.pt gq8t18) cst18 t18.2:=hRt18
 have hrhr258:Rs_modes_Mode (andZ (Oks Ft18) Zm) csq8t18 t18.2.2.2.2.2.2.2.2.2.1:=hq8t18
 have hrhr2585:Own5 eq85t18 csq8t18 t18.2.2.2.2.2.2.2.2.2.1:=hq85t18
 replace M:=M_.uf
 obtain ⟨uo27_0,_,_,_,_,uo27_5,rfl,ho27_0,rfl,rfl,⟨Ao27_3,co27_3,rfl,ho27_3⟩,⟨Ao27_4,co27_4,rfl,ho27_4⟩⟩:=hrhr258
 obtain ⟨_,_,_,_,_,_,uo29_6,_,_,_,rfl,rfl,rfl,rfl,rfl,rfl,rfl,ho29_6,⟨Ao29_7,co29_7,rfl,ho29_7⟩,⟨Ao29_9,co29_9,rfl,ho29_9⟩,⟨Ao29_10,co29_10,rfl,ho29_10⟩⟩:=hr25
 refine .vf 0 (.slice A22 t18.1.length c23) M 5 rfl fun W30 M=> .vf 0 (.i 0) M 4 rfl fun W31 M=> .gq 1 ?_
 obtain rfl:=sj h
 exact .rd func15 2 22 3 30 M 5 4 rfl rfl (ctx_caught.D _ _ _) ⟨A22,c23,rfl,(M.pm [0] [[1]])⟩ (by kernel_rfl) (by kernel_rfl) (by kernel_rfl)
end Go.Scr.S

namespace Go.Scr.S
variable {k np0 cp0 np1 cp1 np2 cp2 np3 cp3 np4 cp4:Nat} {Ap0 Ap1 Ap2 Ap3 Ap4:Option Addr} {w w0:World} {FT:List Ent} {Zm Zp0 Zp1 Zp2 Zp3:Zp}
open Go.RowKit (Below)
open Go.Proofs.Tryz (prog f20 func20)
def Yf.l0:Nat→Lj→Cy→Li→Int→Option (Li×Int)
 | 0,_,_,_,_=>none
 | k+1,a3,x10_0,x12_0,x30_0=>if (decide (x30_0<(a3.length:Int)))=true then (gd (0≤x30_0) (gd (x30_0<(a3.length:Int)) ((Q5.f k x10_0 (rdr ([]:Li) a3 x30_0)).bind fun t31=>(if (t31.2.1 != 0)=true then (some (([]:Li),t31.2.1)) else (gd (x12_0.length+t31.1.length≤1000000000) (Yf.l0 k a3 t31.2.2 (x12_0++t31.1) (I64 (x30_0+1)))))))) else ((Q3.f k x10_0).bind fun t51=>(if (t51.2 != 0)=true then (some (([]:Li),t51.2)) else ((Y3.f k ([x12_0,t51.1]:Lj)).bind fun t67=>(some (t67,0)))))
def Yf.f (k:Nat) (a0:Int×Int×Int×Bool) (a1:Li) (a2:Li) (a3:Lj):Option (Li×Int):=(Vc.f k).bind fun t5=>((Q4.f k t5 a0 a1 a2).bind fun t9=>(if (t9.1 != 0)=true then (some (([]:Li),t9.1)) else (Yf.l0 k a3 t9.2 ([]:Li) 0)))
abbrev Yf.R (r:Li×Int) (w:World):Value→World→Prop:=fun v w'=> ∃A0' c0',v= .tuple #[.slice A0' r.1.length c0',.i r.2]∧Mem w w' (Gs [⟨.slice A0' r.1.length c0',5,1,nums .u8 r.1⟩] [])
theorem Yf.calls {a0:Int×Int×Int×Bool} {a1:Li} {a2:Li} {vp3:Value} {a3:Lj} {r:Li×Int} (hr1:Rd w (.slice Ap1 np1 cp1) (nums .u8 a1)) (hr2:Rd w (.slice Ap2 np2 cp2) (nums .u8 a2)) (hp3:(rRows (rNums .u8)) Zp3 vp3 a3) (hZp3: ∀W,Kept w W→Zp3 W) (hG1:Rg w 1 (nums .u8 [1,2,4,8,16,32,64,128])) (h:Yf.f k a0 a1 a2 a3=some r):Calls prog 20 #[.agg #[.i a0.1,.i a0.2.1,.i a0.2.2.1,.bool a0.2.2.2],(.slice Ap1 np1 cp1),(.slice Ap2 np2 cp2),vp3] w (Ret (Yf.R r w)):=by
 obtain rfl:=hr1.ln
 obtain rfl:=hr2.ln
 obtain ⟨Ap3,cp3,cs3,rfl,hr3,hq3⟩:=hp3
 unfold Yf.f at h
 refine calls_S func20 ?_
 have M:=Mem.r0 w
 refine .gq 2<| .nw 27 ([.i a0.1,.i a0.2.1,.i a0.2.2.1,.bool a0.2.2.2]) M fun g1 W2 M=> .gq 5 ?_
 obtain ⟨t5,ht5,h⟩:=bs h
 refine .ca (Vc.calls ht5) ?_
 rintro _ W4 ⟨gt5_0,cst5_0,Ft5_0,rfl,hRt5_0,M_⟩
 obtain ⟨_,_,_,_,_,_,uo6_6,_,uo6_8,_,_,rfl,rfl,rfl,rfl,rfl,rfl,rfl,ho6_6,⟨Ao6_7,co6_7,rfl,ho6_7⟩,ho6_8,⟨Ao6_9,co6_9,rfl,ho6_9⟩,⟨Ao6_10,co6_10,rfl,ho6_10⟩⟩:=hRt5_0
 replace M:=M.cg M_
 refine .gq 6<| .y (yl_ldp (g:=g1) (off:=0) 4 [.i a0.1,.i a0.2.1,.i a0.2.2.1,.bool a0.2.2.2] rfl) (fun i_ u_ hu_=>match i_,hu_ with | 0,h_=>(M.var_at 1 rfl (i:=0) (u:=u_) h_).1 | 1,h_=>(M.var_at 1 rfl (i:=1) (u:=u_) h_).1 | 2,h_=>(M.var_at 1 rfl (i:=2) (u:=u_) h_).1 | 3,h_=>(M.var_at 1 rfl (i:=3) (u:=u_) h_).1 | _+4,h_=>by cases h_)<| .gq 2 ?_
 have hs10:Rs_ctx_Ctx (Oks Ft5_0) [.bool t5.1,.bool t5.2.1,.i t5.2.2.1,.i t5.2.2.2.1,.i t5.2.2.2.2.1,.bool t5.2.2.2.2.2.1,uo6_6,.slice Ao6_7 t5.2.2.2.2.2.2.2.1.length co6_7,uo6_8,.slice Ao6_9 t5.2.2.2.2.2.2.2.2.2.1.length co6_9,.slice Ao6_10 t5.2.2.2.2.2.2.2.2.2.2.length co6_10] t5:=⟨_,_,_,_,_,_,_,_,_,_,_,rfl,rfl,rfl,rfl,rfl,rfl,rfl,(upc _ _ _ _ (fun _ z=>z) ho6_6),(upn (fun _ z=>z) (rno ho6_7 (M.oks 0))),((up_opt (up_ptr up_Rs_modes_Mode)) _ _ _ _ (fun _ z=>z) ho6_8),(upn (fun _ z=>z) (rno ho6_9 (M.oks 0))),(upn (fun _ z=>z) (rno ho6_10 (M.oks 0)))⟩
 obtain ⟨t9,ht9,h⟩:=bs h
 refine .ca (Q4.calls (hp0:=hs10) (hZm:=fun _ hk_ hT_=>(hT_.fg 0 rfl)) (M0:=M.fm [0] [1] [0] rfl rfl rfl) (Zp2:=fun W_=>Rd W_ (.slice Ap1 a1.length cp1) (nums .u8 a1)) (hr2:=fun _ h_=>h_) (hZp2:=fun _ hk_ hT_=>(hr1.kept hk_)) (Zp3:=fun W_=>Rd W_ (.slice Ap2 a2.length cp2) (nums .u8 a2)) (hr3:=fun _ h_=>h_) (hZp3:=fun _ hk_ hT_=>(hr2.kept hk_)) (hG1:=hG1) (h:=ht9)) ?_
 rintro _ W8 ⟨cst9,Ft9,gq8t9,csq8t9,eq85t9,Aq9t9,nq9t9,cq9t9,rfl,hRt9,hq8t9,hq85t9,M_⟩
 have hr11:MxA_ctx_Ctx (andZ (Oks Ft9) (Oks Ft5_0)) (.pt gq8t9) (.slice Aq9t9 nq9t9 cq9t9) cst9 t9.2:=hRt9
 have hrhr118:Rs_modes_Mode (andZ (Oks Ft9) (Oks Ft5_0)) csq8t9 t9.2.2.2.2.2.2.2.2.2.1:=hq8t9
 have hrhr1185:Own5 eq85t9 csq8t9 t9.2.2.2.2.2.2.2.2.2.1:=hq85t9
 replace M:=M_.uf
 obtain rfl:=(M_.or 3).ln
 obtain ⟨uo13_0,_,_,_,_,uo13_5,rfl,ho13_0,rfl,rfl,⟨Ao13_3,co13_3,rfl,ho13_3⟩,⟨Ao13_4,co13_4,rfl,ho13_4⟩⟩:=hrhr118
 obtain ⟨_,_,_,_,_,_,uo16_6,_,_,rfl,rfl,rfl,rfl,rfl,rfl,rfl,ho16_6,⟨Ao16_7,co16_7,rfl,ho16_7⟩,⟨Ao16_10,co16_10,rfl,ho16_10⟩⟩:=hr11
 refine .gq 7 ?_
 rcases ift h with ⟨c17,h⟩ | ⟨c17,h⟩
 ·refine .kn 26 c17<| .gq 7 ?_
  replace M:=M.n1 5
  obtain rfl:=sj h
  exact .ret func20 ⟨none,0,rfl,(M.pm [0] [])⟩
 refine .kn 26 c17<| .gq 15 ?_
 replace M:=M.n1 5
 have l0: ∀k_≤k,∀(cs10_0:List Value) (x10_0:Cy) (F10_0:List Ent) (gq810_0:Nat) (csq810_0:List Value) (eq8510_0:Ent) (Aq910_0:Option Addr) (nq910_0 cq910_0:Nat) (A12_0:Option Addr) (c12_0:Nat) (x12_0:Li) (x30_0:Int) {W:World} (M:Mem w W (Gs [⟨.pt gt5_0,72,0,cs10_0⟩,⟨.pt gq810_0,100,0,csq810_0⟩,eq8510_0,⟨.slice Aq910_0 nq910_0 cq910_0,5,1,nums .u8 x10_0.2.2.2.2.2.2.2.2.2.1⟩,⟨.slice A12_0 x12_0.length c12_0,5,1,nums .u8 x12_0⟩] [F10_0,Ft9,Ft5_0])) (hR10_0:MxA_ctx_Ctx (andZ (Oks F10_0) (andZ (Oks Ft9) (Oks Ft5_0))) (.pt gq810_0) (.slice Aq910_0 nq910_0 cq910_0) cs10_0 x10_0) (hq810_0:Rs_modes_Mode (andZ (Oks F10_0) (andZ (Oks Ft9) (Oks Ft5_0))) csq810_0 x10_0.2.2.2.2.2.2.2.2.1) (hq8510_0:Own5 eq8510_0 csq810_0 x10_0.2.2.2.2.2.2.2.2.1) (h:Yf.l0 k_ a3 x10_0 x12_0 x30_0=some r),RL 20 f20 (Yf.R r w) [1,1,1,1,0,1,0,0] [(10,.pt gt5_0),(12,.slice A12_0 x12_0.length c12_0),(28,.slice Ap3 a3.length cp3),(29,.i (a3.length:Int)),(30,.i x30_0)] W:=by
  refine loopI (by intros;rename_i h;simp [Yf.l0] at h) fun k hk ih0 cs10_0 x10_0 F10_0 gq810_0 csq810_0 eq8510_0 Aq910_0 nq910_0 cq910_0 A12_0 c12_0 x12_0 x30_0 W M hR10_0 hq810_0 hq8510_0 h=> ?_
  simp only [Yf.l0] at h
  obtain rfl:=(M.or 3).ln
  obtain ⟨uo22_0,_,_,_,_,uo22_5,rfl,ho22_0,rfl,rfl,⟨Ao22_3,co22_3,rfl,ho22_3⟩,⟨Ao22_4,co22_4,rfl,ho22_4⟩⟩:=hq810_0
  obtain ⟨_,_,_,_,_,_,uo25_6,_,_,rfl,rfl,rfl,rfl,rfl,rfl,rfl,ho25_6,⟨Ao25_7,co25_7,rfl,ho25_7⟩,⟨Ao25_10,co25_10,rfl,ho25_10⟩⟩:=hR10_0
  refine .gq 5 ?_
  rcases ift h with ⟨c26,h⟩ | ⟨c26,h⟩
  ·refine .kn 31 c26<| .gq 6 ?_
   obtain ⟨c28,h⟩:=ifd h
   obtain ⟨c29,h⟩:=ifd h
   obtain ⟨uq27,huq27,hvq27⟩:=Each2.at hq3 ([]:Li) (i:=x30_0) c28 c29
   obtain ⟨Aq27,cq27,rfl,hq27⟩:=hvq27
   obtain ⟨pq27,Cq27⟩:=(hr3 _ (hZp3 _ M.kept)).cel c28 c29 huq27
   refine .ix Cq27<| .lc Cq27<| .gq 6 ?_
   have hs32:MxA_ctx_Ctx (andZ (Oks F10_0) (andZ (Oks Ft9) (Oks Ft5_0))) (.pt gq810_0) (.slice Aq910_0 x10_0.2.2.2.2.2.2.2.2.2.1.length cq910_0) [.bool x10_0.1,.bool x10_0.2.1,.i x10_0.2.2.1,.i x10_0.2.2.2.1,.i x10_0.2.2.2.2.1,.bool x10_0.2.2.2.2.2.1,uo25_6,.slice Ao25_7 x10_0.2.2.2.2.2.2.2.1.length co25_7,.pt gq810_0,.slice Aq910_0 x10_0.2.2.2.2.2.2.2.2.2.1.length cq910_0,.slice Ao25_10 x10_0.2.2.2.2.2.2.2.2.2.2.length co25_10] x10_0:=⟨_,_,_,_,_,_,_,_,_,rfl,rfl,rfl,rfl,rfl,rfl,rfl,(upc _ _ _ _ (fun _ z=>(ai z.1 (ai z.2.1 z.2.2))) ho25_6),(upn (fun _ z=>(ai z.1 (ai z.2.1 z.2.2))) (rno ho25_7 (ai (M.oks 0) (ai (M.oks 1) (M.oks 2))))),(upn (fun _ z=>(ai z.1 (ai z.2.1 z.2.2))) (rno ho25_10 (ai (M.oks 0) (ai (M.oks 1) (M.oks 2)))))⟩
   have hs33:Rs_modes_Mode (andZ (Oks F10_0) (andZ (Oks Ft9) (Oks Ft5_0))) [uo22_0,.i x10_0.2.2.2.2.2.2.2.2.1.2.1,.bool x10_0.2.2.2.2.2.2.2.2.1.2.2.1,.slice Ao22_3 x10_0.2.2.2.2.2.2.2.2.1.2.2.2.1.length co22_3,.slice Ao22_4 x10_0.2.2.2.2.2.2.2.2.1.2.2.2.2.1.length co22_4,uo22_5] x10_0.2.2.2.2.2.2.2.2.1:=⟨_,_,_,_,_,_,rfl,(upc _ _ _ _ (fun _ z=>(ai z.1 (ai z.2.1 z.2.2))) ho22_0),rfl,rfl,(upn (fun _ z=>(ai z.1 (ai z.2.1 z.2.2))) (rno ho22_3 (ai (M.oks 0) (ai (M.oks 1) (M.oks 2))))),(upn (fun _ z=>(ai z.1 (ai z.2.1 z.2.2))) (rno ho22_4 (ai (M.oks 0) (ai (M.oks 1) (M.oks 2)))))⟩
   obtain ⟨t31,ht31,h⟩:=bs h
   refine .ca (Q5.calls (hp0:=hs32) (hq8:=hs33) (hq85:=hq8510_0) (hZm:=fun _ hk_ hT_=>(ai (hT_.fg 0 rfl) (ai (hT_.fg 1 rfl) (hT_.fg 2 rfl)))) (M0:=M.fm [0,1,2,3] [4] [0,1,2] rfl rfl rfl) (Zp1:=fun W_=>Rd W_ (.slice Aq27 ((rdr ([]:Li) a3 x30_0).length) cq27) (nums .u8 (rdr ([]:Li) a3 x30_0))) (hr1:=fun _ h_=>h_) (hZp1:=fun _ hk_ hT_=>(hq27 _ (hZp3 _ hk_))) (h:=ht31)) ?_
   rintro _ W30 ⟨A34,c35,cst31,Ft31,gq8t31,csq8t31,eq85t31,Aq9t31,nq9t31,cq9t31,rfl,hRt31,hq8t31,hq85t31,M_⟩
   have hr37:MxA_ctx_Ctx (andZ (Oks Ft31) (andZ (Oks F10_0) (andZ (Oks Ft9) (Oks Ft5_0)))) (.pt gq8t31) (.slice Aq9t31 nq9t31 cq9t31) cst31 t31.2.2:=hRt31
   have hrhr378:Rs_modes_Mode (andZ (Oks Ft31) (andZ (Oks F10_0) (andZ (Oks Ft9) (Oks Ft5_0)))) csq8t31 t31.2.2.2.2.2.2.2.2.2.2.1:=hq8t31
   have hrhr3785:Own5 eq85t31 csq8t31 t31.2.2.2.2.2.2.2.2.2.2.1:=hq85t31
   replace M:=M_.uf
   obtain rfl:=(M_.or 4).ln
   obtain ⟨uo39_0,_,_,_,_,uo39_5,rfl,ho39_0,rfl,rfl,⟨Ao39_3,co39_3,rfl,ho39_3⟩,⟨Ao39_4,co39_4,rfl,ho39_4⟩⟩:=hrhr378
   obtain ⟨_,_,_,_,_,_,uo42_6,_,_,rfl,rfl,rfl,rfl,rfl,rfl,rfl,ho42_6,⟨Ao42_7,co42_7,rfl,ho42_7⟩,⟨Ao42_10,co42_10,rfl,ho42_10⟩⟩:=hr37
   refine .gq 12 ?_
   rcases ift h with ⟨c43,h⟩ | ⟨c43,h⟩
   ·refine .kn 41 c43<| .gq 7 ?_
    replace M:=M.n1 5
    obtain rfl:=sj h
    exact .ret func20 ⟨none,0,rfl,(M.pm [0] [])⟩
   refine .kn 41 c43<| .gq 5 ?_
   obtain ⟨c48,h⟩:=ifd h
   exact .an M 5 rfl (M.or 0) c48 fun A45 c46 W47 M=> .gq 8<| .at (ih0 k (by omega) [.bool t31.2.2.1,.bool t31.2.2.2.1,.i t31.2.2.2.2.1,.i t31.2.2.2.2.2.1,.i t31.2.2.2.2.2.2.1,.bool t31.2.2.2.2.2.2.2.1,uo42_6,.slice Ao42_7 t31.2.2.2.2.2.2.2.2.2.1.length co42_7,.pt gq8t31,.slice Aq9t31 t31.2.2.2.2.2.2.2.2.2.2.2.1.length cq9t31,.slice Ao42_10 t31.2.2.2.2.2.2.2.2.2.2.2.2.length co42_10] t31.2.2 (List.flatten [Ft31,F10_0]) gq8t31 [uo39_0,.i t31.2.2.2.2.2.2.2.2.2.2.1.2.1,.bool t31.2.2.2.2.2.2.2.2.2.2.1.2.2.1,.slice Ao39_3 t31.2.2.2.2.2.2.2.2.2.2.1.2.2.2.1.length co39_3,.slice Ao39_4 t31.2.2.2.2.2.2.2.2.2.2.1.2.2.2.2.1.length co39_4,uo39_5] eq85t31 Aq9t31 t31.2.2.2.2.2.2.2.2.2.2.2.1.length cq9t31 A45 c46 (x12_0++t31.1) (I64 (x30_0+1)) (M.pm [1,2,3,4,5] [[0,1],[2],[3]]) ⟨_,_,_,_,_,_,_,_,_,rfl,rfl,rfl,rfl,rfl,rfl,rfl,(upc _ _ _ _ (fun _ z=>(ai (Oks.g z.1 0 rfl) (ai (Oks.g z.1 1 rfl) (ai z.2.1 z.2.2)))) ho42_6),(upn (fun _ z=>(ai (Oks.g z.1 0 rfl) (ai (Oks.g z.1 1 rfl) (ai z.2.1 z.2.2)))) (rno ho42_7 (ai (M.oks 0) (ai (M.oks 1) (ai (M.oks 2) (M.oks 3)))))),(upn (fun _ z=>(ai (Oks.g z.1 0 rfl) (ai (Oks.g z.1 1 rfl) (ai z.2.1 z.2.2)))) (rno ho42_10 (ai (M.oks 0) (ai (M.oks 1) (ai (M.oks 2) (M.oks 3))))))⟩ ⟨_,_,_,_,_,_,rfl,(upc _ _ _ _ (fun _ z=>(ai (Oks.g z.1 0 rfl) (ai (Oks.g z.1 1 rfl) (ai z.2.1 z.2.2)))) ho39_0),rfl,rfl,(upn (fun _ z=>(ai (Oks.g z.1 0 rfl) (ai (Oks.g z.1 1 rfl) (ai z.2.1 z.2.2)))) (rno ho39_3 (ai (M.oks 0) (ai (M.oks 1) (ai (M.oks 2) (M.oks 3)))))),(upn (fun _ z=>(ai (Oks.g z.1 0 rfl) (ai (Oks.g z.1 1 rfl) (ai z.2.1 z.2.2)))) (rno ho39_4 (ai (M.oks 0) (ai (M.oks 1) (ai (M.oks 2) (M.oks 3))))))⟩ hrhr3785 h)
  refine .kn 31 c26<| .gq 5 ?_
  have hs52:MxA_ctx_Ctx (andZ (Oks F10_0) (andZ (Oks Ft9) (Oks Ft5_0))) (.pt gq810_0) (.slice Aq910_0 x10_0.2.2.2.2.2.2.2.2.2.1.length cq910_0) [.bool x10_0.1,.bool x10_0.2.1,.i x10_0.2.2.1,.i x10_0.2.2.2.1,.i x10_0.2.2.2.2.1,.bool x10_0.2.2.2.2.2.1,uo25_6,.slice Ao25_7 x10_0.2.2.2.2.2.2.2.1.length co25_7,.pt gq810_0,.slice Aq910_0 x10_0.2.2.2.2.2.2.2.2.2.1.length cq910_0,.slice Ao25_10 x10_0.2.2.2.2.2.2.2.2.2.2.length co25_10] x10_0:=⟨_,_,_,_,_,_,_,_,_,rfl,rfl,rfl,rfl,rfl,rfl,rfl,(upc _ _ _ _ (fun _ z=>(ai z.1 (ai z.2.1 z.2.2))) ho25_6),(upn (fun _ z=>(ai z.1 (ai z.2.1 z.2.2))) (rno ho25_7 (ai (M.oks 0) (ai (M.oks 1) (M.oks 2))))),(upn (fun _ z=>(ai z.1 (ai z.2.1 z.2.2))) (rno ho25_10 (ai (M.oks 0) (ai (M.oks 1) (M.oks 2)))))⟩
  have hs53:Rs_modes_Mode (andZ (Oks F10_0) (andZ (Oks Ft9) (Oks Ft5_0))) [uo22_0,.i x10_0.2.2.2.2.2.2.2.2.1.2.1,.bool x10_0.2.2.2.2.2.2.2.2.1.2.2.1,.slice Ao22_3 x10_0.2.2.2.2.2.2.2.2.1.2.2.2.1.length co22_3,.slice Ao22_4 x10_0.2.2.2.2.2.2.2.2.1.2.2.2.2.1.length co22_4,uo22_5] x10_0.2.2.2.2.2.2.2.2.1:=⟨_,_,_,_,_,_,rfl,(upc _ _ _ _ (fun _ z=>(ai z.1 (ai z.2.1 z.2.2))) ho22_0),rfl,rfl,(upn (fun _ z=>(ai z.1 (ai z.2.1 z.2.2))) (rno ho22_3 (ai (M.oks 0) (ai (M.oks 1) (M.oks 2))))),(upn (fun _ z=>(ai z.1 (ai z.2.1 z.2.2))) (rno ho22_4 (ai (M.oks 0) (ai (M.oks 1) (M.oks 2)))))⟩
  obtain ⟨t51,ht51,h⟩:=bs h
  refine .ca (Q3.calls (hp0:=hs52) (hq8:=hs53) (hq85:=hq8510_0) (hZm:=fun _ hk_ hT_=>(ai (hT_.fg 0 rfl) (ai (hT_.fg 1 rfl) (hT_.fg 2 rfl)))) (M0:=M.fm [0,1,2,3] [4] [0,1,2] rfl rfl rfl) (h:=ht51)) ?_
  rintro _ W50 ⟨A54,c55,rfl,M_⟩
  replace M:=M_.u1
  refine .gq 12 ?_
  rcases ift h with ⟨c57,h⟩ | ⟨c57,h⟩
  ·refine .kn 53 c57<| .gq 7 ?_
   replace M:=M.n1 5
   obtain rfl:=sj h
   exact .ret func20 ⟨none,0,rfl,(M.pm [0] [])⟩
  refine .kn 53 c57<| .gq 6 ?_
  obtain ⟨Fq59,hfq59,M⟩:=M.fs 1
  obtain ⟨Fq60,hfq60,M⟩:=M.fs 0
  have hqq61:Each2 ((rNums .u8) (andZ (Oks Fq59) (Oks Fq60))) [.slice A12_0 x12_0.length c12_0,.slice A54 t51.1.length c55] ([x12_0,t51.1]:Lj):=(.cons (rno (RdF.up hfq59 (fun _ z=>z.1)) (ai (M.oks 1) (M.oks 0))) (.cons (rno (RdF.up hfq60 (fun _ z=>z.2)) (ai (M.oks 1) (M.oks 0))) (Each2.nil _)))
  refine .new 22 1 2 ([.slice A12_0 x12_0.length c12_0,.slice A54 t51.1.length c55]) M (fun g62 W63 M=> ?_) rfl
  obtain ⟨Fq65,hfq65,M⟩:=M.fs 0
  obtain ⟨t67,ht67,h⟩:=bs h
  refine .ca (Y3.calls ⟨_,_,_,rfl,(hfq65.up (fun _ z=>z.1)),(Each2.up (up_nums .u8) hqq61 (fun _ z=>(ai z.2.1 z.2.2)))⟩ (fun _ z=>(ai ((M.oks 0).kept z) (ai ((M.oks 2).kept z) ((M.oks 1).kept z)))) ht67) ?_
  rintro _ W66 ⟨A68,c69,rfl,M_⟩
  replace M:=M.cg M_
  refine .gq 3 ?_
  obtain rfl:=sj h
  exact .ret func20 ⟨A68,c69,rfl,(M.pm [0] [])⟩
 exact .at (l0 k k.le_refl [.bool t9.2.1,.bool t9.2.2.1,.i t9.2.2.2.1,.i t9.2.2.2.2.1,.i t9.2.2.2.2.2.1,.bool t9.2.2.2.2.2.2.1,uo16_6,.slice Ao16_7 t9.2.2.2.2.2.2.2.2.1.length co16_7,.pt gq8t9,.slice Aq9t9 t9.2.2.2.2.2.2.2.2.2.2.1.length cq9t9,.slice Ao16_10 t9.2.2.2.2.2.2.2.2.2.2.2.length co16_10] t9.2 ([]:List Ent) gq8t9 [uo13_0,.i t9.2.2.2.2.2.2.2.2.2.1.2.1,.bool t9.2.2.2.2.2.2.2.2.2.1.2.2.1,.slice Ao13_3 t9.2.2.2.2.2.2.2.2.2.1.2.2.2.1.length co13_3,.slice Ao13_4 t9.2.2.2.2.2.2.2.2.2.1.2.2.2.2.1.length co13_4,uo13_5] eq85t9 Aq9t9 t9.2.2.2.2.2.2.2.2.2.2.1.length cq9t9 none 0 ([]:Li) 0 (M.pm [1,2,3,4,0] [[],[0],[1]]) ⟨_,_,_,_,_,_,_,_,_,rfl,rfl,rfl,rfl,rfl,rfl,rfl,(upc _ _ _ _ (fun _ z=>(ai z.2.1 z.2.2)) ho16_6),(upn (fun _ z=>(ai z.2.1 z.2.2)) (rno ho16_7 (ai (M.oks 0) (M.oks 1)))),(upn (fun _ z=>(ai z.2.1 z.2.2)) (rno ho16_10 (ai (M.oks 0) (M.oks 1))))⟩ ⟨_,_,_,_,_,_,rfl,(upc _ _ _ _ (fun _ z=>(ai z.2.1 z.2.2)) ho13_0),rfl,rfl,(upn (fun _ z=>(ai z.2.1 z.2.2)) (rno ho13_3 (ai (M.oks 0) (M.oks 1)))),(upn (fun _ z=>(ai z.2.1 z.2.2)) (rno ho13_4 (ai (M.oks 0) (M.oks 1))))⟩ hrhr1185 h)
end Go.Scr.S

namespace Go.Scr.S
variable {k np0 cp0 np1 cp1 np2 cp2 np3 cp3 np4 cp4:Nat} {Ap0 Ap1 Ap2 Ap3 Ap4:Option Addr} {w w0:World} {FT:List Ent} {Zm Zp0 Zp1 Zp2 Zp3:Zp}
open Go.RowKit (Below)
open Go.Proofs.Tryz (prog f13 func13 f16 func16 f17 func17 f46 func46 f53 func53 f54 func54 f55 func55)
def Yn.f (k:Nat) (a0:Int) (a1:Int):Option (Int):=if (decide (a1=0))=true then (none) else (if (decide ((Int.tmod a0 a1)<0))=true then (some (I64 ((Int.tmod a0 a1)+a1))) else (some (Int.tmod a0 a1)))
theorem Yn.calls {a0:Int} {a1:Int} {r:Int} (h:Yn.f k a0 a1=some r):Calls prog 46 #[.i a0,.i a1] w (Ret fun v w'=>v= .i r∧Mem w w' (Gs [] [])):=by
 unfold Yn.f at h
 refine calls_S func46 ?_
 have M:=Mem.r0 w
 refine .gq 8 ?_
 obtain ⟨c1,h⟩:=ifn h
 refine .yt (yl_rem (kd:= .i64) a0 c1)<| .gq 8 ?_
 rcases ift h with ⟨c2,h⟩ | ⟨c2,h⟩
 ·refine .kn 10 c2<| .gq 12 ?_
  obtain rfl:=sj h
  exact .ret func46 ⟨rfl,(M.pm [] [])⟩
 refine .kn 10 c2<| .gq 7 ?_
 obtain rfl:=sj h
 exact .ret func46 ⟨rfl,(M.pm [] [])⟩
def Yk.l0:Nat→Li→Li→Lj→Int→Option Lj
 | 0,_,_,_,_=>none
 | k+1,a1,x0_0,x5_0,x6_0=>if (decide (x6_0<(a1.length:Int)))=true then (if (decide (x6_0<40))=true then (gd (0≤x6_0) (gd (x6_0<(a1.length:Int)) ((Yn.f k (rd a1 x6_0) 40).bind fun t9=>(gd (0≤x6_0) (gd (x6_0<(a1.length:Int)) ((Yn.f k (I64 (Int.tdiv (rd a1 x6_0) 40)) 3).bind fun t14=>(if (t14==0)=true then (gd (0≤x6_0) (gd (x6_0<(a1.length:Int)) ((Yn.f k (rd a1 x6_0) 5).bind fun t20=>(gd (0≤(mn (I64 (8*t20)) (x0_0.length:Int))) (gd ((mn (I64 (8*t20)) (x0_0.length:Int))≤(x0_0.length:Int)) (gd (0≤(mn (I64 (8*t20)) (x0_0.length:Int))) (gd ((mn (I64 (8*t20)) (x0_0.length:Int))≤(x0_0.length:Int)) (gd (x5_0.length+([((x0_0.take (mn (I64 (8*t20)) (x0_0.length:Int):Int).toNat).drop (0:Int).toNat)]:Lj).length≤1000000000) (Yk.l0 k a1 ((x0_0.take ((x0_0.length:Int):Int).toNat).drop (mn (I64 (8*t20)) (x0_0.length:Int):Int).toNat) (x5_0++([((x0_0.take (mn (I64 (8*t20)) (x0_0.length:Int):Int).toNat).drop (0:Int).toNat)]:Lj)) (I64 (x6_0+1))))))))))) else (gd (0≤(mn t9 (x0_0.length:Int))) (gd ((mn t9 (x0_0.length:Int))≤(x0_0.length:Int)) (gd (0≤(mn t9 (x0_0.length:Int))) (gd ((mn t9 (x0_0.length:Int))≤(x0_0.length:Int)) (gd (x5_0.length+([((x0_0.take (mn t9 (x0_0.length:Int):Int).toNat).drop (0:Int).toNat)]:Lj).length≤1000000000) (Yk.l0 k a1 ((x0_0.take ((x0_0.length:Int):Int).toNat).drop (mn t9 (x0_0.length:Int):Int).toNat) (x5_0++([((x0_0.take (mn t9 (x0_0.length:Int):Int).toNat).drop (0:Int).toNat)]:Lj)) (I64 (x6_0+1))))))))))))))) else (gd (x5_0.length+([x0_0]:Lj).length≤1000000000) (some (x5_0++([x0_0]:Lj))))) else (gd (x5_0.length+([x0_0]:Lj).length≤1000000000) (some (x5_0++([x0_0]:Lj))))
def Yk.f (k:Nat) (a0:Li) (a1:Li):Option Lj:=Yk.l0 k a1 a0 ([]:Lj) 0
abbrev Yk.R (Zp0:Zp) (r:Lj) (w:World):Value→World→Prop:=fun v w'=> ∃(v0':Value) (F0':List Ent),v=v0'∧(rRows (rNums .u8)) (andZ (Oks F0') Zp0) v0' r∧Mem w w' (Gs [] [F0'])
theorem Yk.calls {a0:Li} {a1:Li} {r:Lj} (hr1:Rd w (.slice Ap1 np1 cp1) (nums .i64 a1)) (hr0:RdF Zp0 (.slice Ap0 np0 cp0) (nums .u8 a0)) (hZp0: ∀W,Kept w W→Zp0 W) (h:Yk.f k a0 a1=some r):Calls prog 13 #[(.slice Ap0 np0 cp0),(.slice Ap1 np1 cp1)] w (Ret (Yk.R Zp0 r w)):=by
 obtain rfl:=(hr0 _ (hZp0 _ (Kept.refl w))).ln
 obtain rfl:=hr1.ln
 unfold Yk.f at h
 refine calls_S func13 ?_
 have M:=Mem.r0 w
 refine .gq 15 ?_
 replace M:=M.n1 22
 have l0: ∀k_≤k,∀(A0_0:Option Addr) (c0_0:Nat) (x0_0:Li) (A5_0:Option Addr) (c5_0:Nat) (cs5_0:List Value) (x5_0:Lj) (F5_0:List Ent) (x6_0:Int) {W:World} (M:Mem w W (Gs [⟨.slice A5_0 x5_0.length c5_0,22,1,cs5_0⟩] [F5_0])) (hrx0_0:RdF Zp0 (.slice A0_0 x0_0.length c0_0) (nums .u8 x0_0)) (hq5_0:Each2 ((rNums .u8) (andZ (Oks F5_0) Zp0)) cs5_0 x5_0) (h:Yk.l0 k_ a1 x0_0 x5_0 x6_0=some r),RL 13 f13 (Yk.R Zp0 r w) [1,1,0,1,0,0] [(0,.slice A0_0 x0_0.length c0_0),(1,.slice Ap1 a1.length cp1),(5,.slice A5_0 x5_0.length c5_0),(6,.i x6_0)] W:=by
  refine loopI (by intros;rename_i h;simp [Yk.l0] at h) fun k hk ih0 A0_0 c0_0 x0_0 A5_0 c5_0 cs5_0 x5_0 F5_0 x6_0 W M hrx0_0 hq5_0 h=> ?_
  simp only [Yk.l0] at h
  refine .gq 8 ?_
  rcases ift h with ⟨c3,h⟩ | ⟨c3,h⟩
  ·refine .kn 12 c3<| .gq 4 ?_
   rcases ift h with ⟨c4,h⟩ | ⟨c4,h⟩
   ·refine .kn 15 c4<| .gq 8 ?_
    obtain ⟨c6,h⟩:=ifd h
    obtain ⟨c7,h⟩:=ifd h
    obtain ⟨pq5,Cq5⟩:=(hr1.mono M.below).na c6 c7
    refine .ix Cq5<| .lc Cq5 ?_
    obtain ⟨t9,ht9,h⟩:=bs h
    refine .ca (Yn.calls ht9) ?_
    rintro _ W8 ⟨rfl,M_⟩
    replace M:=M.cg M_
    refine .gq 7 ?_
    obtain ⟨c11,h⟩:=ifd h
    obtain ⟨c12,h⟩:=ifd h
    obtain ⟨pq10,Cq10⟩:=(hr1.mono M.below).na c11 c12
    refine .ix Cq10<| .lc Cq10<| .gq 1 ?_
    obtain ⟨t14,ht14,h⟩:=bs h
    refine .ca (Yn.calls ht14) ?_
    rintro _ W13 ⟨rfl,M_⟩
    replace M:=M.cg M_
    refine .gq 2 ?_
    rcases ift h with ⟨c15,h⟩ | ⟨c15,h⟩
    ·refine .kn 29 c15<| .gq 4 ?_
     obtain ⟨c17,h⟩:=ifd h
     obtain ⟨c18,h⟩:=ifd h
     obtain ⟨pq16,Cq16⟩:=(hr1.mono M.below).na c17 c18
     refine .ix Cq16<| .lc Cq16 ?_
     obtain ⟨t20,ht20,h⟩:=bs h
     refine .ca (Yn.calls ht20) ?_
     rintro _ W19 ⟨rfl,M_⟩
     replace M:=M.cg M_
     refine .gq 11<| .at (show RL 13 f13 (Yk.R Zp0 r w) [1,1,0,1,0,0,1,0,0,1,1,1] [(0,.slice A0_0 x0_0.length c0_0),(1,.slice Ap1 a1.length cp1),(5,.slice A5_0 x5_0.length c5_0),(6,.i x6_0),(7,.i (mn (I64 (8*t20)) (x0_0.length:Int)))] _ from .dr [0] M fun W21 M=> ?_)
     refine .pz tr [0,1,2] ?_
     obtain ⟨c22,h⟩:=ifd h
     obtain ⟨c23,h⟩:=ifd h
     refine .ct tr 3 0 (mn (I64 (8*t20)) (x0_0.length:Int)) (hrx0_0 _ (hZp0 _ M.kept)) fun A24 c25 hs26=> .pz tr [6,7] ?_
     obtain ⟨c27,h⟩:=ifd h
     obtain ⟨c28,h⟩:=ifd h
     refine .ct tr 8 (mn (I64 (8*t20)) (x0_0.length:Int)) (x0_0.length:Int) (hrx0_0 _ (hZp0 _ M.kept)) fun A29 c30 hs31=> ?_
     have hqq32:Each2 ((rNums .u8) Zp0) [.slice A24 (((x0_0.take (mn (I64 (8*t20)) (x0_0.length:Int):Int).toNat).drop (0:Int).toNat).length) c25] ([((x0_0.take (mn (I64 (8*t20)) (x0_0.length:Int):Int).toNat).drop (0:Int).toNat)]:Lj):=(.cons (rno (fun _ z=>hs26 _ (hrx0_0 _ z)) (hZp0 _ M.kept)) (Each2.nil _))
     refine .a1 tr 4<| .new 22 1 1 ([.slice A24 (((x0_0.take (mn (I64 (8*t20)) (x0_0.length:Int):Int).toNat).drop (0:Int).toNat).length) c25]) M [1] (fun g33 W34 M=> ?_) rfl
     obtain ⟨c40,h⟩:=ifd h
     have hq39:Each2 ((rNums .u8) (andZ (Oks F5_0) Zp0)) (cs5_0++[.slice A24 (((x0_0.take (mn (I64 (8*t20)) (x0_0.length:Int):Int).toNat).drop (0:Int).toNat).length) c25]) (x5_0++([((x0_0.take (mn (I64 (8*t20)) (x0_0.length:Int):Int).toNat).drop (0:Int).toNat)]:Lj)):=Each2.append hq5_0 (Each2.up (up_nums .u8) hqq32 (fun _ z=>z.2))
     refine .a1 tr 5<| .ar M 1 rfl (M.or 0) (one_rows hqq32) (by first | omega | (simp at c40 ⊢;omega)) [1] fun A36 c37 W38 M=> ?_
     rw [hq39.1] at M ⊢
     exact .pz tr [9,10]<| .dn tr<| .gq 7<| .at (ih0 k (by omega) A29 c30 ((x0_0.take ((x0_0.length:Int):Int).toNat).drop (mn (I64 (8*t20)) (x0_0.length:Int):Int).toNat) A36 c37 (cs5_0++[.slice A24 (((x0_0.take (mn (I64 (8*t20)) (x0_0.length:Int):Int).toNat).drop (0:Int).toNat).length) c25]) (x5_0++([((x0_0.take (mn (I64 (8*t20)) (x0_0.length:Int):Int).toNat).drop (0:Int).toNat)]:Lj)) F5_0 (I64 (x6_0+1)) (M.pm [1] [[0]]) (fun _ z=>hs31 _ (hrx0_0 _ z)) (Each2.up (up_nums .u8) hq39 (fun _ z=>(ai z.1 z.2))) h)
    refine .kn 29 c15<| .gq 10<| .at (show RL 13 f13 (Yk.R Zp0 r w) [1,1,0,1,0,0,1,0,0,1,1,1] [(0,.slice A0_0 x0_0.length c0_0),(1,.slice Ap1 a1.length cp1),(5,.slice A5_0 x5_0.length c5_0),(6,.i x6_0),(7,.i (mn t9 (x0_0.length:Int)))] _ from .dr [0] M fun W42 M=> ?_)
    refine .pz tr [0,1,2] ?_
    obtain ⟨c43,h⟩:=ifd h
    obtain ⟨c44,h⟩:=ifd h
    refine .ct tr 3 0 (mn t9 (x0_0.length:Int)) (hrx0_0 _ (hZp0 _ M.kept)) fun A45 c46 hs47=> .pz tr [6,7] ?_
    obtain ⟨c48,h⟩:=ifd h
    obtain ⟨c49,h⟩:=ifd h
    refine .ct tr 8 (mn t9 (x0_0.length:Int)) (x0_0.length:Int) (hrx0_0 _ (hZp0 _ M.kept)) fun A50 c51 hs52=> ?_
    have hqq53:Each2 ((rNums .u8) Zp0) [.slice A45 (((x0_0.take (mn t9 (x0_0.length:Int):Int).toNat).drop (0:Int).toNat).length) c46] ([((x0_0.take (mn t9 (x0_0.length:Int):Int).toNat).drop (0:Int).toNat)]:Lj):=(.cons (rno (fun _ z=>hs47 _ (hrx0_0 _ z)) (hZp0 _ M.kept)) (Each2.nil _))
    refine .a1 tr 4<| .new 22 1 1 ([.slice A45 (((x0_0.take (mn t9 (x0_0.length:Int):Int).toNat).drop (0:Int).toNat).length) c46]) M [1] (fun g54 W55 M=> ?_) rfl
    obtain ⟨c61,h⟩:=ifd h
    have hq60:Each2 ((rNums .u8) (andZ (Oks F5_0) Zp0)) (cs5_0++[.slice A45 (((x0_0.take (mn t9 (x0_0.length:Int):Int).toNat).drop (0:Int).toNat).length) c46]) (x5_0++([((x0_0.take (mn t9 (x0_0.length:Int):Int).toNat).drop (0:Int).toNat)]:Lj)):=Each2.append hq5_0 (Each2.up (up_nums .u8) hqq53 (fun _ z=>z.2))
    refine .a1 tr 5<| .ar M 1 rfl (M.or 0) (one_rows hqq53) (by first | omega | (simp at c61 ⊢;omega)) [1] fun A57 c58 W59 M=> ?_
    rw [hq60.1] at M ⊢
    exact .pz tr [9,10]<| .dn tr<| .gq 7<| .at (ih0 k (by omega) A50 c51 ((x0_0.take ((x0_0.length:Int):Int).toNat).drop (mn t9 (x0_0.length:Int):Int).toNat) A57 c58 (cs5_0++[.slice A45 (((x0_0.take (mn t9 (x0_0.length:Int):Int).toNat).drop (0:Int).toNat).length) c46]) (x5_0++([((x0_0.take (mn t9 (x0_0.length:Int):Int).toNat).drop (0:Int).toNat)]:Lj)) F5_0 (I64 (x6_0+1)) (M.pm [1] [[0]]) (fun _ z=>hs52 _ (hrx0_0 _ z)) (Each2.up (up_nums .u8) hq60 (fun _ z=>(ai z.1 z.2))) h)
   refine .kn 15 c4<| .gq 6 ?_
   have hqq63:Each2 ((rNums .u8) Zp0) [.slice A0_0 x0_0.length c0_0] ([x0_0]:Lj):=(.cons (rno hrx0_0 (hZp0 _ M.kept)) (Each2.nil _))
   refine .new 22 1 1 ([.slice A0_0 x0_0.length c0_0]) M (fun g64 W65 M=> ?_) rfl
   obtain ⟨c71,h⟩:=ifd h
   have hq70:Each2 ((rNums .u8) (andZ (Oks F5_0) Zp0)) (cs5_0++[.slice A0_0 x0_0.length c0_0]) (x5_0++([x0_0]:Lj)):=Each2.append hq5_0 (Each2.up (up_nums .u8) hqq63 (fun _ z=>z.2))
   refine .ar M 1 rfl (M.or 0) (one_rows hqq63) (by first | omega | (simp at c71 ⊢;omega)) fun A67 c68 W69 M=> ?_
   rw [hq70.1] at M ⊢
   refine .gq 2 ?_
   obtain ⟨Fq73,hfq73,M⟩:=M.fs 1
   obtain rfl:=sj h
   exact .ret func13 ⟨.slice A67 ((x5_0++([x0_0]:Lj)).length) c68,(List.flatten [Fq73,F5_0]),rfl,(up_rows (up_nums .u8)) _ _ _ _ (fun _ z=>(ai (Oks.g z.1 0 rfl) (ai (Oks.g z.1 1 rfl) z.2))) ⟨_,_,_,rfl,(hfq73.up (fun _ z=>z.1)),(Each2.up (up_nums .u8) hq70 (fun _ z=>(ai z.2.1 z.2.2)))⟩,(M.pm [] [[0,1]])⟩
  refine .kn 12 c3<| .gq 10 ?_
  have hqq74:Each2 ((rNums .u8) Zp0) [.slice A0_0 x0_0.length c0_0] ([x0_0]:Lj):=(.cons (rno hrx0_0 (hZp0 _ M.kept)) (Each2.nil _))
  refine .new 22 1 1 ([.slice A0_0 x0_0.length c0_0]) M (fun g75 W76 M=> ?_) rfl
  obtain ⟨c82,h⟩:=ifd h
  have hq81:Each2 ((rNums .u8) (andZ (Oks F5_0) Zp0)) (cs5_0++[.slice A0_0 x0_0.length c0_0]) (x5_0++([x0_0]:Lj)):=Each2.append hq5_0 (Each2.up (up_nums .u8) hqq74 (fun _ z=>z.2))
  refine .ar M 1 rfl (M.or 0) (one_rows hqq74) (by first | omega | (simp at c82 ⊢;omega)) fun A78 c79 W80 M=> ?_
  rw [hq81.1] at M ⊢
  refine .gq 2 ?_
  obtain ⟨Fq84,hfq84,M⟩:=M.fs 1
  obtain rfl:=sj h
  exact .ret func13 ⟨.slice A78 ((x5_0++([x0_0]:Lj)).length) c79,(List.flatten [Fq84,F5_0]),rfl,(up_rows (up_nums .u8)) _ _ _ _ (fun _ z=>(ai (Oks.g z.1 0 rfl) (ai (Oks.g z.1 1 rfl) z.2))) ⟨_,_,_,rfl,(hfq84.up (fun _ z=>z.1)),(Each2.up (up_nums .u8) hq81 (fun _ z=>(ai z.2.1 z.2.2)))⟩,(M.pm [] [[0,1]])⟩
 exact .at (l0 k k.le_refl Ap0 cp0 a0 none 0 [] ([]:Lj) ([]:List Ent) 0 (M.pm [0] [[]]) hr0 (Each2.up (up_nums .u8) ((Each2.nil _):Each2 ((rNums .u8) (Oks [])) [] ([]:Lj)) (fun _ z=>(Oks.nil _))) h)
def Yj.f (k:Nat) (a0:Int) (a1:Int):Option (Int):=if (decide (a1=0))=true then (none) else (if (decide ((Int.tmod a0 a1)<0))=true then (some (I64 ((Int.tmod a0 a1)+a1))) else (some (Int.tmod a0 a1)))
theorem Yj.calls {a0:Int} {a1:Int} {r:Int} (h:Yj.f k a0 a1=some r):Calls prog 53 #[.i a0,.i a1] w (Ret fun v w'=>v= .i r∧Mem w w' (Gs [] [])):=by
 unfold Yj.f at h
 refine calls_S func53 ?_
 have M:=Mem.r0 w
 refine .gq 8 ?_
 obtain ⟨c1,h⟩:=ifn h
 refine .yt (yl_rem (kd:= .i64) a0 c1)<| .gq 8 ?_
 rcases ift h with ⟨c2,h⟩ | ⟨c2,h⟩
 ·refine .kn 10 c2<| .gq 12 ?_
  obtain rfl:=sj h
  exact .ret func53 ⟨rfl,(M.pm [] [])⟩
 refine .kn 10 c2<| .gq 7 ?_
 obtain rfl:=sj h
 exact .ret func53 ⟨rfl,(M.pm [] [])⟩
def Yr.f (k:Nat) (a0:Int):Option Li:=if (a0==1)=true then (some ([8]:Li)) else (if (a0==2)=true then (some ([16,24]:Li)) else (if (a0==3)=true then (some ([16]:Li)) else (if (a0==4)=true then (some ([16]:Li)) else (if (a0==8)=true then (some ([16]:Li)) else (if (a0==5)=true then (some ([32]:Li)) else (if (a0==6)=true then (some ([16,24,32]:Li)) else (if (a0==7)=true then (some ([16,24,32]:Li)) else (some ([]:Li)))))))))
theorem Yr.calls {a0:Int} {r:Li} (h:Yr.f k a0=some r):Calls prog 54 #[.i a0] w (Ret fun v w'=> ∃A0' c0',v= .slice A0' r.length c0'∧Mem w w' (Gs [⟨.slice A0' r.length c0',3,1,nums .i64 r⟩] [])):=by
 unfold Yr.f at h
 refine calls_S func54 ?_
 have M:=Mem.r0 w
 refine .gq 15 ?_
 rcases ift h with ⟨c1,h⟩ | ⟨c1,h⟩
 ·refine .kn 4 c1<| .gq 3<| .new 3 1 1 (nums .i64 [8]) M fun g2 W3 M=> .gq 2 ?_
  obtain rfl:=sj h
  exact .ret func54 ⟨(pa g2),1,rfl,(M.pm [0] [])⟩
 refine .kn 4 c1<| .gq 6 ?_
 rcases ift h with ⟨c5,h⟩ | ⟨c5,h⟩
 ·refine .kn 7 c5<| .gq 3<| .new 3 1 2 (nums .i64 [16,24]) M fun g6 W7 M=> .gq 2 ?_
  obtain rfl:=sj h
  exact .ret func54 ⟨(pa g6),2,rfl,(M.pm [0] [])⟩
 refine .kn 7 c5<| .gq 7 ?_
 rcases ift h with ⟨c9,h⟩ | ⟨c9,h⟩
 ·refine .kn 10 c9<| .gq 5<| .new 3 1 1 (nums .i64 [16]) M fun g10 W11 M=> .gq 2 ?_
  obtain rfl:=sj h
  exact .ret func54 ⟨(pa g10),1,rfl,(M.pm [0] [])⟩
 refine .kn 10 c9<| .gq 6 ?_
 rcases ift h with ⟨c13,h⟩ | ⟨c13,h⟩
 ·refine .kn 10 c13<| .gq 5<| .new 3 1 1 (nums .i64 [16]) M fun g14 W15 M=> .gq 2 ?_
  obtain rfl:=sj h
  exact .ret func54 ⟨(pa g14),1,rfl,(M.pm [0] [])⟩
 refine .kn 10 c13<| .gq 5 ?_
 rcases ift h with ⟨c17,h⟩ | ⟨c17,h⟩
 ·refine .kn 10 c17<| .gq 3<| .new 3 1 1 (nums .i64 [16]) M fun g18 W19 M=> .gq 2 ?_
  obtain rfl:=sj h
  exact .ret func54 ⟨(pa g18),1,rfl,(M.pm [0] [])⟩
 refine .kn 10 c17<| .gq 6 ?_
 rcases ift h with ⟨c21,h⟩ | ⟨c21,h⟩
 ·refine .kn 15 c21<| .gq 3<| .new 3 1 1 (nums .i64 [32]) M fun g22 W23 M=> .gq 2 ?_
  obtain rfl:=sj h
  exact .ret func54 ⟨(pa g22),1,rfl,(M.pm [0] [])⟩
 refine .kn 15 c21<| .gq 7 ?_
 rcases ift h with ⟨c25,h⟩ | ⟨c25,h⟩
 ·refine .kn 18 c25<| .gq 5<| .new 3 1 3 (nums .i64 [16,24,32]) M fun g26 W27 M=> .gq 2 ?_
  obtain rfl:=sj h
  exact .ret func54 ⟨(pa g26),3,rfl,(M.pm [0] [])⟩
 refine .kn 18 c25<| .gq 5 ?_
 rcases ift h with ⟨c29,h⟩ | ⟨c29,h⟩
 ·refine .kn 18 c29<| .gq 3<| .new 3 1 3 (nums .i64 [16,24,32]) M fun g30 W31 M=> .gq 2 ?_
  obtain rfl:=sj h
  exact .ret func54 ⟨(pa g30),3,rfl,(M.pm [0] [])⟩
 refine .kn 18 c29<| .gq 7 ?_
 replace M:=M.n1 3
 obtain rfl:=sj h
 exact .ret func54 ⟨none,0,rfl,(M.pm [0] [])⟩
def Yg.l0:Nat→Int→Li→Int→Option Li
 | 0,_,_,_=>none
 | k+1,a0,x5_0,x6_0=>if (decide (x6_0<a0))=true then (gd (0≤x6_0) (gd (x6_0<((a0:Int).toNat:Int)) (Yg.l0 k a0 (x5_0.set (x6_0:Int).toNat (U8 (I64 (x6_0*37)))) (I64 (x6_0+1))))) else (some x5_0)
def Yg.f (k:Nat) (a0:Int) (a1:Li):Option Li:=gd (0≤a0) (gd (a0≤1000000000) (Yg.l0 k a0 (a1.take (List.replicate ((a0:Int).toNat) (0:Int)).length++(List.replicate ((a0:Int).toNat) (0:Int)).drop a1.length) (a1.length:Int)))
abbrev Yg.R (r:Li) (w:World):Value→World→Prop:=fun v w'=> ∃A0' c0',v= .slice A0' r.length c0'∧Mem w w' (Gs [⟨.slice A0' r.length c0',5,1,nums .u8 r⟩] [])
theorem Yg.calls {a0:Int} {a1:Li} {r:Li} (hr1:Rd w (.slice Ap1 np1 cp1) (nums .u8 a1)) (h:Yg.f k a0 a1=some r):Calls prog 55 #[.i a0,(.slice Ap1 np1 cp1)] w (Ret (Yg.R r w)):=by
 obtain rfl:=hr1.ln
 unfold Yg.f at h
 refine calls_S func55 ?_
 have M:=Mem.r0 w
 refine .gq 7 ?_
 obtain ⟨c3,h⟩:=ifd h
 obtain ⟨c4,h⟩:=ifd h
 refine .mn 5 .u8 a0 a0 M fun g2 W1 M=> .gq 6<| .cn M 0 rfl (hr1.mono M.below) fun W6 M=> .gq 10 ?_
 have l0: ∀k_≤k,∀(x5_0:Li) (x6_0:Int) {W:World} (M:Mem w W (Gs [⟨.slice (pa g2) ((a0:Int).toNat) ((a0:Int).toNat),5,1,nums .u8 x5_0⟩] [])) (h:Yg.l0 k_ a0 x5_0 x6_0=some r),RL 55 f55 (Yg.R r w) [1,1,1,0,1,0,0] [(0,.i a0),(5,.slice (pa g2) ((a0:Int).toNat) ((a0:Int).toNat)),(6,.i x6_0)] W:=by
  refine loopI (by intros;rename_i h;simp [Yg.l0] at h) fun k hk ih0 x5_0 x6_0 W M h=> ?_
  simp only [Yg.l0] at h
  refine .gq 7 ?_
  rcases ift h with ⟨c7,h⟩ | ⟨c7,h⟩
  ·refine .kn 16 c7<| .gq 10 ?_
   obtain ⟨c9,h⟩:=ifd h
   obtain ⟨c10,h⟩:=ifd h
   obtain ⟨pq8,Cq8⟩:=M.na 0 rfl c9 c10
   exact .ix Cq8<| .sn (U8 (I64 (x6_0*37))) Cq8 M 0 rfl fun W11 M=> .gq 8<| .at (ih0 k (by omega) (x5_0.set (x6_0:Int).toNat (U8 (I64 (x6_0*37)))) (I64 (x6_0+1)) (M.pm [0] []) h)
  refine .kn 16 c7<| .gq 7 ?_
  obtain rfl:=sj h
  have hn0_:=(M.or 0).ln
  exact .ret (v:= .slice (pa g2) ((a0:Int).toNat) ((a0:Int).toNat)) func55 ⟨(pa g2),(a0:Int).toNat,(by rw [hn0_]),by rw [hn0_];exact (M.pm [0] [])⟩
 exact .at (l0 k k.le_refl (a1.take (List.replicate ((a0:Int).toNat) (0:Int)).length++(List.replicate ((a0:Int).toNat) (0:Int)).drop a1.length) (a1.length:Int) (M.pm [0] []) h)
def Yh.f (k:Nat) (a0:Int) (a1:Int) (a2:Li):Option Li:=(Yr.f k a0).bind fun t2=>((Yj.f k a1 (t2.length:Int)).bind fun t7=>(gd (0≤t7) (gd (t7<(t2.length:Int)) ((Yg.f k (rd t2 t7) a2).bind fun t12=>(some t12)))))
theorem Yh.calls {a0:Int} {a1:Int} {a2:Li} {r:Li} (hr2:Rd w (.slice Ap2 np2 cp2) (nums .u8 a2)) (h:Yh.f k a0 a1 a2=some r):Calls prog 17 #[.i a0,.i a1,(.slice Ap2 np2 cp2)] w (Ret fun v w'=> ∃A0' c0',v= .slice A0' r.length c0'∧Mem w w' (Gs [⟨.slice A0' r.length c0',5,1,nums .u8 r⟩] [])):=by
 obtain rfl:=hr2.ln
 unfold Yh.f at h
 refine calls_S func17 ?_
 have M:=Mem.r0 w
 refine .gq 7 ?_
 obtain ⟨t2,ht2,h⟩:=bs h
 refine .ca (Yr.calls ht2) ?_
 rintro _ W1 ⟨A3,c4,rfl,M_⟩
 replace M:=M.cg M_
 refine .gq 8 ?_
 obtain ⟨t7,ht7,h⟩:=bs h
 refine .ca (Yj.calls ht7) ?_
 rintro _ W6 ⟨rfl,M_⟩
 replace M:=M.cg M_
 obtain ⟨c9,h⟩:=ifd h
 obtain ⟨c10,h⟩:=ifd h
 obtain ⟨pq8,Cq8⟩:=M.na 0 rfl c9 c10
 refine .ix Cq8<| .lc Cq8<| .gq 1 ?_
 obtain ⟨t12,ht12,h⟩:=bs h
 refine .ca (Yg.calls (hr2.mono M.below) ht12) ?_
 rintro _ W11 ⟨A13,c14,rfl,M_⟩
 replace M:=M.cg M_
 refine .gq 2 ?_
 obtain rfl:=sj h
 exact .ret func17 ⟨A13,c14,rfl,(M.pm [0] [])⟩
def Yi.f (k:Nat) (a0:Int):Option (Int):=(Yj.f k a0 8).bind fun t2=>(some (I64 (1+t2)))
theorem Yi.calls {a0:Int} {r:Int} (h:Yi.f k a0=some r):Calls prog 16 #[.i a0] w (Ret fun v w'=>v= .i r∧Mem w w' (Gs [] [])):=by
 unfold Yi.f at h
 refine calls_S func16 ?_
 have M:=Mem.r0 w
 refine .gq 7 ?_
 obtain ⟨t2,ht2,h⟩:=bs h
 refine .ca (Yj.calls ht2) ?_
 rintro _ W1 ⟨rfl,M_⟩
 replace M:=M.cg M_
 refine .gq 3 ?_
 obtain rfl:=sj h
 exact .ret func16 ⟨rfl,(M.pm [] [])⟩
end Go.Scr.S

namespace Go.Scr.S
variable {k np0 cp0 np1 cp1 np2 cp2 np3 cp3 np4 cp4:Nat} {Ap0 Ap1 Ap2 Ap3 Ap4:Option Addr} {w w0:World} {FT:List Ent} {Zm Zp0 Zp1 Zp2 Zp3:Zp}
open Go.RowKit (Below)
open Go.Proofs.Tryz (prog f6 func6)
def Yt.f (k:Nat):Option (Bool):=(Yv.f k (3,8,4,false) (List.replicate 16 (0:Int)) (List.replicate 8 (0:Int)) ([104,101,108,108,111,44,32,116,104,101,114,101]:Li)).bind fun t61=>((Yf.f k (3,8,4,true) (List.replicate 16 (0:Int)) (List.replicate 8 (0:Int)) ([t61.1]:Lj)).bind fun t112=>(if (t61.2==0)=true then (if (t112.2==0)=true then ((some (((strOf t112.1).toList==(⟨#[104,101,108,108,111,44,32,116,104,101,114,101]⟩:ByteArray).toList):Bool)).bind fun y118=>(if y118=true then ((some (!((strOf t61.1).toList==(strOf t112.1).toList):Bool)).bind fun y120=>(if y120=true then ((Vc.f k).bind fun t123=>((Q2.f k 7).bind fun t127=>(some (t127==16)))) else (some false))) else (some false))) else (some false)) else (some false)))
abbrev Yt.R (r:Bool) (w:World):Value→World→Prop:=fun v w'=>v= .bool r∧Mem w w' (Gs [] [])
theorem Yt.calls {r:Bool} (hG1:Rg w 1 (nums .u8 [1,2,4,8,16,32,64,128])) (h:Yt.f k=some r):Calls prog 6 #[] w (Ret (Yt.R r w)):=by
 unfold Yt.f at h
 refine calls_S func6 ?_
 have M:=Mem.r0 w
 refine .gq 7<| .nw 27 ([.i 0,.i 0,.i 0,.bool false]) M fun g1 W2 M=> .sw (N:=4) (new:=[.i 3,.i 8,.i 4,.bool false]) M 0 rfl rfl rfl (by simp [Value.oneCell']) fun W4 M=> .gq 2<| .at (show RL 6 f6 (Yt.R r w) [1,1,0] [(1,.pt g1)] _ from .dr [] M fun W5 M=> ?_)
 refine .y tr 0 (yl_ldp (g:=g1) (off:=0) 4 [.i 3,.i 8,.i 4,.bool false] rfl) (fun _ hs=>(fun i_ u_ hu_=>match i_,hu_ with | 0,h_=>M.vs hs 0 rfl 0 h_ | 1,h_=>M.vs hs 0 rfl 1 h_ | 2,h_=>M.vs hs 0 rfl 2 h_ | 3,h_=>M.vs hs 0 rfl 3 h_ | _+4,h_=>by cases h_)) ?_
 have J58: ∀(g7:Nat) (g16:Nat) (g34:Nat),RJ 6 f6 (Yt.R r w) [1,1,0] w [⟨.slice (pa g7) 16 16,5,1,nums .u8 (List.replicate 16 (0:Int))⟩,⟨.slice (pa g16) 8 8,5,1,nums .u8 (List.replicate 8 (0:Int))⟩,⟨.pt g34,5,12,nums .u8 [104,101,108,108,111,44,32,116,104,101,114,101]⟩,⟨.pt g1,27,0,[.i 3,.i 8,.i 4,.bool false]⟩] [] [2] ([0,1,2,3,4],[(1,.pt g1),(8,.agg #[.i 3,.i 8,.i 4,.bool false]),(9,.slice (pa g7) 16 16),(10,.slice (pa g16) 8 8),(12,.slice (pa g34) 12 12)]):=by
  intro g7 g16 g34 W59 M
  obtain ⟨t61,ht61,h⟩:=bs h
  refine .a1 tr 5<| .ca (Yv.calls (M.or 0) (M.or 1) (M.mr 2 rfl rfl) (hG1.mono M.below) ht61) ?_
  rintro _ W60 ⟨A62,c63,rfl,M_⟩
  refine .ca M_ [3] ?_
  replace M:=M.cg M_
  refine .pz tr [6,7,8,9,10]<| .dn tr<| .gq 3<| .vf 3 (.bool true) M 4 rfl fun W65 M=> .gq 2 ?_
  obtain ⟨Fq66,hfq66,M⟩:=M.fs 0
  refine .at (show RL 6 f6 (Yt.R r w) [1,1,1,1,0] [(1,.pt g1),(2,.slice A62 t61.1.length c63),(3,.i t61.2)] _ from .dr [] M fun W67 M=> ?_)
  refine .y tr 0 (yl_ldp (g:=g1) (off:=0) 4 [.i 3,.i 8,.i 4,.bool true] rfl) (fun _ hs=>(fun i_ u_ hu_=>match i_,hu_ with | 0,h_=>M.vs hs 3 rfl 0 h_ | 1,h_=>M.vs hs 3 rfl 1 h_ | 2,h_=>M.vs hs 3 rfl 2 h_ | 3,h_=>M.vs hs 3 rfl 3 h_ | _+4,h_=>by cases h_))<| .pz tr [3] ?_
  have J108: ∀(g69:Nat) (g79:Nat) (g99:Nat) (hqq98:Each2 ((rNums .u8) (Oks Fq66)) [.slice A62 t61.1.length c63] ([t61.1]:Lj)),RJ 6 f6 (Yt.R r w) [1,1,1,1,0] w [⟨.slice (pa g69) 16 16,5,1,nums .u8 (List.replicate 16 (0:Int))⟩,⟨.slice (pa g79) 8 8,5,1,nums .u8 (List.replicate 8 (0:Int))⟩,⟨.slice (pa g99) 1 1,22,1,[.slice A62 t61.1.length c63]⟩,⟨.slice (pa g7) 16 16,5,1,nums .u8 (List.replicate 16 (0:Int))⟩,⟨.slice (pa g16) 8 8,5,1,nums .u8 (List.replicate 8 (0:Int))⟩,⟨.pt g34,5,12,nums .u8 [104,101,108,108,111,44,32,116,104,101,114,101]⟩,⟨.pt g1,27,0,[.i 3,.i 8,.i 4,.bool true]⟩] [Fq66] [] ([0,3,1,2,4],[(1,.pt g1),(2,.slice A62 t61.1.length c63),(3,.i t61.2),(18,.agg #[.i 3,.i 8,.i 4,.bool true]),(19,.slice (pa g69) 16 16),(20,.slice (pa g79) 8 8),(22,.slice (pa g99) 1 1)]):=by
   intro g69 g79 g99 hqq98 W109 M
   obtain ⟨Fq110,hfq110,M⟩:=M.fs 2
   refine .er 2 [] ?_
   obtain ⟨t112,ht112,h⟩:=bs h
   refine .a1 tr 5<| .ca (Yf.calls (M.or 0) (M.or 1) ⟨_,_,_,rfl,(hfq110.up (fun _ z=>z.1)),(Each2.up (up_nums .u8) hqq98 (fun _ z=>z.2))⟩ (fun _ z=>(ai ((M.oks 0).kept z) ((M.oks 1).kept z))) (hG1.mono M.below) ht112) ?_
   rintro _ W111 ⟨A113,c114,rfl,M_⟩
   refine .ca M_ [] ?_
   replace M:=M.cg M_
   refine .pz tr [6,7,8,9,10]<| .dn tr<| .gq 5 ?_
   rcases ift h with ⟨c116,h⟩ | ⟨c116,h⟩
   ·refine .kn 28 c116<| .gq 4 ?_
    rcases ift h with ⟨c117,h⟩ | ⟨c117,h⟩
    ·refine .kn 32 c117<| .gq 1<| .y (yl_str (xs:=t112.1)) (M.or 0)<| .gq 3 ?_
     let y118:Bool:=((strOf t112.1).toList==(⟨#[104,101,108,108,111,44,32,116,104,101,114,101]⟩:ByteArray).toList)
     replace h:=bz (y:=y118) h rfl
     rcases ift h with ⟨c119,h⟩ | ⟨c119,h⟩
     ·refine .kn 37 c119<| .gq 1<| .y (yl_str (xs:=t61.1)) (hfq66 _ (M.oks 1))<| .gq 1<| .y (yl_str (xs:=t112.1)) (M.or 0)<| .gq 3 ?_
      let y120:Bool:= !((strOf t61.1).toList==(strOf t112.1).toList)
      replace h:=bz (y:=y120) h rfl
      rcases ift h with ⟨c121,h⟩ | ⟨c121,h⟩
      ·refine .kn 44 c121 ?_
       obtain ⟨t123,ht123,h⟩:=bs h
       refine .ca (Vc.calls ht123) ?_
       rintro _ W122 ⟨gt123_0,cst123_0,Ft123_0,rfl,hRt123_0,M_⟩
       obtain ⟨_,_,_,_,_,_,uo124_6,_,uo124_8,_,_,rfl,rfl,rfl,rfl,rfl,rfl,rfl,ho124_6,⟨Ao124_7,co124_7,rfl,ho124_7⟩,ho124_8,⟨Ao124_9,co124_9,rfl,ho124_9⟩,⟨Ao124_10,co124_10,rfl,ho124_10⟩⟩:=hRt123_0
       replace M:=M.cg M_
       refine .gq 3 ?_
       obtain ⟨t127,ht127,h⟩:=bs h
       refine .ca (Q2.calls ht127) ?_
       rintro _ W126 ⟨rfl,M_⟩
       replace M:=M.cg M_
       refine .gq 4 ?_
       obtain rfl:=sj h
       exact .ret func6 ⟨rfl,(M.pm [] [])⟩
      refine .kn 44 c121<| .gq 9 ?_
      obtain rfl:=sj h
      exact .ret func6 ⟨rfl,(M.pm [] [])⟩
     refine .kn 37 c119<| .gq 16 ?_
     obtain rfl:=sj h
     exact .ret func6 ⟨rfl,(M.pm [] [])⟩
    refine .kn 32 c117<| .gq 21 ?_
    obtain rfl:=sj h
    exact .ret func6 ⟨rfl,(M.pm [] [])⟩
   refine .kn 28 c116<| .gq 25 ?_
   obtain rfl:=sj h
   exact .ret func6 ⟨rfl,(M.pm [] [])⟩
  have J128: ∀(g72:Nat) (g89:Nat) (hqq88:Each2 ((rNums .u8) (Oks Fq66)) [.slice A62 t61.1.length c63] ([t61.1]:Lj)),RJ 6 f6 (Yt.R r w) [1,1,1,1,0] w [⟨.slice (pa g72) 8 8,5,1,nums .u8 (List.replicate 8 (0:Int))⟩,⟨.slice (pa g89) 1 1,22,1,[.slice A62 t61.1.length c63]⟩,⟨.slice (pa g7) 16 16,5,1,nums .u8 (List.replicate 16 (0:Int))⟩,⟨.slice (pa g16) 8 8,5,1,nums .u8 (List.replicate 8 (0:Int))⟩,⟨.pt g34,5,12,nums .u8 [104,101,108,108,111,44,32,116,104,101,114,101]⟩,⟨.pt g1,27,0,[.i 3,.i 8,.i 4,.bool true]⟩] [Fq66] [] ([0,3,2,4],[(1,.pt g1),(2,.slice A62 t61.1.length c63),(3,.i t61.2),(18,.agg #[.i 3,.i 8,.i 4,.bool true]),(20,.slice (pa g72) 8 8),(22,.slice (pa g89) 1 1)]):=by
   intro g72 g89 hqq88 W129 M
   exact .a1 tr 1<| .mn 5 .u8 16 16 M [] fun g131 W130 M=> .jn M [0,1,2,3,4,5,6] [[0]] (J108 g131 g72 g89 hqq88) rfl rfl
  have J133: ∀(g69:Nat) (g82:Nat) (hqq81:Each2 ((rNums .u8) (Oks Fq66)) [.slice A62 t61.1.length c63] ([t61.1]:Lj)),RJ 6 f6 (Yt.R r w) [1,1,1,1,0] w [⟨.slice (pa g69) 16 16,5,1,nums .u8 (List.replicate 16 (0:Int))⟩,⟨.slice (pa g82) 1 1,22,1,[.slice A62 t61.1.length c63]⟩,⟨.slice (pa g7) 16 16,5,1,nums .u8 (List.replicate 16 (0:Int))⟩,⟨.slice (pa g16) 8 8,5,1,nums .u8 (List.replicate 8 (0:Int))⟩,⟨.pt g34,5,12,nums .u8 [104,101,108,108,111,44,32,116,104,101,114,101]⟩,⟨.pt g1,27,0,[.i 3,.i 8,.i 4,.bool true]⟩] [Fq66] [] ([0,3,1,4],[(1,.pt g1),(2,.slice A62 t61.1.length c63),(3,.i t61.2),(18,.agg #[.i 3,.i 8,.i 4,.bool true]),(19,.slice (pa g69) 16 16),(22,.slice (pa g82) 1 1)]):=by
   intro g69 g82 hqq81 W134 M
   exact .a1 tr 2<| .mn 5 .u8 8 8 M [] fun g136 W135 M=> .jn M [1,0,2,3,4,5,6] [[0]] (J108 g69 g136 g82 hqq81) rfl rfl
  have J138: ∀(g69:Nat) (g79:Nat),RJ 6 f6 (Yt.R r w) [1,1,1,1,0] w [⟨.slice (pa g69) 16 16,5,1,nums .u8 (List.replicate 16 (0:Int))⟩,⟨.slice (pa g79) 8 8,5,1,nums .u8 (List.replicate 8 (0:Int))⟩,⟨.slice (pa g7) 16 16,5,1,nums .u8 (List.replicate 16 (0:Int))⟩,⟨.slice (pa g16) 8 8,5,1,nums .u8 (List.replicate 8 (0:Int))⟩,⟨.pt g34,5,12,nums .u8 [104,101,108,108,111,44,32,116,104,101,114,101]⟩,⟨.pt g1,27,0,[.i 3,.i 8,.i 4,.bool true]⟩] [Fq66] [] ([0,3,1,2],[(1,.pt g1),(2,.slice A62 t61.1.length c63),(3,.i t61.2),(18,.agg #[.i 3,.i 8,.i 4,.bool true]),(19,.slice (pa g69) 16 16),(20,.slice (pa g79) 8 8),(21,.slice A62 t61.1.length c63)]):=by
   intro g69 g79 W139 M
   have hqq140:Each2 ((rNums .u8) (Oks Fq66)) [.slice A62 t61.1.length c63] ([t61.1]:Lj):=(.cons (rno hfq66 (M.oks 0)) (Each2.nil _))
   refine .a1 tr 4<| .new 22 1 1 ([.slice A62 t61.1.length c63]) M [] (fun g141 W142 M=> ?_) rfl
   exact .jn M [1,2,0,3,4,5,6] [[0]] (J108 g69 g79 g141 hqq140) rfl rfl
  have J144: ∀(g75:Nat) (hqq74:Each2 ((rNums .u8) (Oks Fq66)) [.slice A62 t61.1.length c63] ([t61.1]:Lj)),RJ 6 f6 (Yt.R r w) [1,1,1,1,0] w [⟨.slice (pa g75) 1 1,22,1,[.slice A62 t61.1.length c63]⟩,⟨.slice (pa g7) 16 16,5,1,nums .u8 (List.replicate 16 (0:Int))⟩,⟨.slice (pa g16) 8 8,5,1,nums .u8 (List.replicate 8 (0:Int))⟩,⟨.pt g34,5,12,nums .u8 [104,101,108,108,111,44,32,116,104,101,114,101]⟩,⟨.pt g1,27,0,[.i 3,.i 8,.i 4,.bool true]⟩] [Fq66] [] ([0,3,4],[(1,.pt g1),(2,.slice A62 t61.1.length c63),(3,.i t61.2),(18,.agg #[.i 3,.i 8,.i 4,.bool true]),(22,.slice (pa g75) 1 1)]):=by
   intro g75 hqq74 W145 M
   refine .a2 tr 1 2 ?_ ?_
   ·exact .mn 5 .u8 16 16 M [] fun g147 W146 M=> .jn M [0,1,2,3,4,5] [[0]] (J133 g147 g75 hqq74) rfl rfl
   ·exact .mn 5 .u8 8 8 M [] fun g150 W149 M=> .jn M [0,1,2,3,4,5] [[0]] (J128 g150 g75 hqq74) rfl rfl
  have J152: ∀(g72:Nat),RJ 6 f6 (Yt.R r w) [1,1,1,1,0] w [⟨.slice (pa g72) 8 8,5,1,nums .u8 (List.replicate 8 (0:Int))⟩,⟨.slice (pa g7) 16 16,5,1,nums .u8 (List.replicate 16 (0:Int))⟩,⟨.slice (pa g16) 8 8,5,1,nums .u8 (List.replicate 8 (0:Int))⟩,⟨.pt g34,5,12,nums .u8 [104,101,108,108,111,44,32,116,104,101,114,101]⟩,⟨.pt g1,27,0,[.i 3,.i 8,.i 4,.bool true]⟩] [Fq66] [] ([0,3,2],[(1,.pt g1),(2,.slice A62 t61.1.length c63),(3,.i t61.2),(18,.agg #[.i 3,.i 8,.i 4,.bool true]),(20,.slice (pa g72) 8 8),(21,.slice A62 t61.1.length c63)]):=by
   intro g72 W153 M
   refine .a2 tr 1 4 ?_ ?_
   ·exact .mn 5 .u8 16 16 M [] fun g155 W154 M=> .jn M [0,1,2,3,4,5] [[0]] (J138 g155 g72) rfl rfl
   ·have hqq157:Each2 ((rNums .u8) (Oks Fq66)) [.slice A62 t61.1.length c63] ([t61.1]:Lj):=(.cons (rno hfq66 (M.oks 0)) (Each2.nil _))
    refine .new 22 1 1 ([.slice A62 t61.1.length c63]) M [] (fun g158 W159 M=> ?_) rfl
    exact .jn M [1,0,2,3,4,5] [[0]] (J128 g72 g158 hqq157) rfl rfl
  have J161: ∀(g69:Nat),RJ 6 f6 (Yt.R r w) [1,1,1,1,0] w [⟨.slice (pa g69) 16 16,5,1,nums .u8 (List.replicate 16 (0:Int))⟩,⟨.slice (pa g7) 16 16,5,1,nums .u8 (List.replicate 16 (0:Int))⟩,⟨.slice (pa g16) 8 8,5,1,nums .u8 (List.replicate 8 (0:Int))⟩,⟨.pt g34,5,12,nums .u8 [104,101,108,108,111,44,32,116,104,101,114,101]⟩,⟨.pt g1,27,0,[.i 3,.i 8,.i 4,.bool true]⟩] [Fq66] [] ([0,3,1],[(1,.pt g1),(2,.slice A62 t61.1.length c63),(3,.i t61.2),(18,.agg #[.i 3,.i 8,.i 4,.bool true]),(19,.slice (pa g69) 16 16),(21,.slice A62 t61.1.length c63)]):=by
   intro g69 W162 M
   refine .a2 tr 2 4 ?_ ?_
   ·exact .mn 5 .u8 8 8 M [] fun g164 W163 M=> .jn M [1,0,2,3,4,5] [[0]] (J138 g69 g164) rfl rfl
   ·have hqq166:Each2 ((rNums .u8) (Oks Fq66)) [.slice A62 t61.1.length c63] ([t61.1]:Lj):=(.cons (rno hfq66 (M.oks 0)) (Each2.nil _))
    refine .new 22 1 1 ([.slice A62 t61.1.length c63]) M [] (fun g167 W168 M=> ?_) rfl
    exact .jn M [1,0,2,3,4,5] [[0]] (J133 g69 g167 hqq166) rfl rfl
  refine .a3 tr 1 2 4 ?_ ?_ ?_
  ·exact .mn 5 .u8 16 16 M [] fun g171 W170 M=> .jn M [0,1,2,3,4] [[0]] (J161 g171) rfl rfl
  ·exact .mn 5 .u8 8 8 M [] fun g174 W173 M=> .jn M [0,1,2,3,4] [[0]] (J152 g174) rfl rfl
  ·have hqq176:Each2 ((rNums .u8) (Oks Fq66)) [.slice A62 t61.1.length c63] ([t61.1]:Lj):=(.cons (rno hfq66 (M.oks 0)) (Each2.nil _))
   refine .new 22 1 1 ([.slice A62 t61.1.length c63]) M [] (fun g177 W178 M=> ?_) rfl
   exact .jn M [0,1,2,3,4] [[0]] (J144 g177 hqq176) rfl rfl
 have J180: ∀(g10:Nat) (g24:Nat),RJ 6 f6 (Yt.R r w) [1,1,0] w [⟨.slice (pa g10) 8 8,5,1,nums .u8 (List.replicate 8 (0:Int))⟩,⟨.pt g24,5,12,nums .u8 [104,101,108,108,111,44,32,116,104,101,114,101]⟩,⟨.pt g1,27,0,[.i 3,.i 8,.i 4,.bool false]⟩] [] [1] ([0,2,3,4],[(1,.pt g1),(8,.agg #[.i 3,.i 8,.i 4,.bool false]),(10,.slice (pa g10) 8 8),(12,.slice (pa g24) 12 12)]):=by
  intro g10 g24 W181 M
  exact .a1 tr 1<| .mn 5 .u8 16 16 M [2] fun g183 W182 M=> .jn M [0,1,2,3] [] (J58 g183 g10 g24) rfl rfl
 have J185: ∀(g7:Nat) (g18:Nat),RJ 6 f6 (Yt.R r w) [1,1,0] w [⟨.slice (pa g7) 16 16,5,1,nums .u8 (List.replicate 16 (0:Int))⟩,⟨.pt g18,5,12,nums .u8 [104,101,108,108,111,44,32,116,104,101,114,101]⟩,⟨.pt g1,27,0,[.i 3,.i 8,.i 4,.bool false]⟩] [] [1] ([0,1,3,4],[(1,.pt g1),(8,.agg #[.i 3,.i 8,.i 4,.bool false]),(9,.slice (pa g7) 16 16),(12,.slice (pa g18) 12 12)]):=by
  intro g7 g18 W186 M
  exact .a1 tr 2<| .mn 5 .u8 8 8 M [2] fun g188 W187 M=> .jn M [1,0,2,3] [] (J58 g7 g188 g18) rfl rfl
 have J190: ∀(g7:Nat) (g16:Nat) (g34:Nat),RJ 6 f6 (Yt.R r w) [1,1,0] w [⟨.slice (pa g7) 16 16,5,1,nums .u8 (List.replicate 16 (0:Int))⟩,⟨.slice (pa g16) 8 8,5,1,nums .u8 (List.replicate 8 (0:Int))⟩,⟨.slice (pa g34) 12 12,5,1,nums .u8 [104,101,108,108,111,44,32,116,104,101,114,101]⟩,⟨.pt g1,27,0,[.i 3,.i 8,.i 4,.bool false]⟩] [] [2] ([0,1,2,3],[(1,.pt g1),(8,.agg #[.i 3,.i 8,.i 4,.bool false]),(9,.slice (pa g7) 16 16),(10,.slice (pa g16) 8 8),(11,.slice (pa g34) 12 12)]):=by
  intro g7 g16 g34 W191 M
  exact .a1 tr 4<| .cv M 2 rfl fun W192 M=> .jn M [0,1,2,3] [] (J58 g7 g16 g34) rfl rfl
 have J193: ∀(g12:Nat),RJ 6 f6 (Yt.R r w) [1,1,0] w [⟨.pt g12,5,12,nums .u8 [104,101,108,108,111,44,32,116,104,101,114,101]⟩,⟨.pt g1,27,0,[.i 3,.i 8,.i 4,.bool false]⟩] [] [0] ([0,3,4],[(1,.pt g1),(8,.agg #[.i 3,.i 8,.i 4,.bool false]),(12,.slice (pa g12) 12 12)]):=by
  intro g12 W194 M
  refine .a2 tr 1 2 ?_ ?_
  ·exact .mn 5 .u8 16 16 M [1] fun g196 W195 M=> .jn M [0,1,2] [] (J185 g196 g12) rfl rfl
  ·exact .mn 5 .u8 8 8 M [1] fun g199 W198 M=> .jn M [0,1,2] [] (J180 g199 g12) rfl rfl
 have J201: ∀(g10:Nat) (g24:Nat),RJ 6 f6 (Yt.R r w) [1,1,0] w [⟨.slice (pa g10) 8 8,5,1,nums .u8 (List.replicate 8 (0:Int))⟩,⟨.slice (pa g24) 12 12,5,1,nums .u8 [104,101,108,108,111,44,32,116,104,101,114,101]⟩,⟨.pt g1,27,0,[.i 3,.i 8,.i 4,.bool false]⟩] [] [1] ([0,2,3],[(1,.pt g1),(8,.agg #[.i 3,.i 8,.i 4,.bool false]),(10,.slice (pa g10) 8 8),(11,.slice (pa g24) 12 12)]):=by
  intro g10 g24 W202 M
  refine .a2 tr 1 4 ?_ ?_
  ·exact .mn 5 .u8 16 16 M [2] fun g204 W203 M=> .jn M [0,1,2,3] [] (J190 g204 g10 g24) rfl rfl
  ·exact .cv M 1 rfl fun W206 M=> .jn M [0,1,2] [] (J180 g10 g24) rfl rfl
 have J207: ∀(g7:Nat) (g18:Nat),RJ 6 f6 (Yt.R r w) [1,1,0] w [⟨.slice (pa g7) 16 16,5,1,nums .u8 (List.replicate 16 (0:Int))⟩,⟨.slice (pa g18) 12 12,5,1,nums .u8 [104,101,108,108,111,44,32,116,104,101,114,101]⟩,⟨.pt g1,27,0,[.i 3,.i 8,.i 4,.bool false]⟩] [] [1] ([0,1,3],[(1,.pt g1),(8,.agg #[.i 3,.i 8,.i 4,.bool false]),(9,.slice (pa g7) 16 16),(11,.slice (pa g18) 12 12)]):=by
  intro g7 g18 W208 M
  refine .a2 tr 2 4 ?_ ?_
  ·exact .mn 5 .u8 8 8 M [2] fun g210 W209 M=> .jn M [1,0,2,3] [] (J190 g7 g210 g18) rfl rfl
  ·exact .cv M 1 rfl fun W212 M=> .jn M [0,1,2] [] (J185 g7 g18) rfl rfl
 have J213: ∀(g7:Nat) (g16:Nat),RJ 6 f6 (Yt.R r w) [1,1,0] w [⟨.slice (pa g7) 16 16,5,1,nums .u8 (List.replicate 16 (0:Int))⟩,⟨.slice (pa g16) 8 8,5,1,nums .u8 (List.replicate 8 (0:Int))⟩,⟨.pt g1,27,0,[.i 3,.i 8,.i 4,.bool false]⟩] [] [] ([0,1,2],[(1,.pt g1),(8,.agg #[.i 3,.i 8,.i 4,.bool false]),(9,.slice (pa g7) 16 16),(10,.slice (pa g16) 8 8)]):=by
  intro g7 g16 W214 M
  exact .a1 tr 3<| .new 5 1 12 (nums .u8 [104,101,108,108,111,44,32,116,104,101,114,101]) M [0] fun g215 W216 M=> .jn M [1,2,0,3] [] (J190 g7 g16 g215) rfl rfl
 have J218: ∀(g12:Nat),RJ 6 f6 (Yt.R r w) [1,1,0] w [⟨.slice (pa g12) 12 12,5,1,nums .u8 [104,101,108,108,111,44,32,116,104,101,114,101]⟩,⟨.pt g1,27,0,[.i 3,.i 8,.i 4,.bool false]⟩] [] [0] ([0,3],[(1,.pt g1),(8,.agg #[.i 3,.i 8,.i 4,.bool false]),(11,.slice (pa g12) 12 12)]):=by
  intro g12 W219 M
  refine .a3 tr 1 2 4 ?_ ?_ ?_
  ·exact .mn 5 .u8 16 16 M [1] fun g221 W220 M=> .jn M [0,1,2] [] (J207 g221 g12) rfl rfl
  ·exact .mn 5 .u8 8 8 M [1] fun g224 W223 M=> .jn M [0,1,2] [] (J201 g224 g12) rfl rfl
  ·exact .cv M 0 rfl fun W226 M=> .jn M [0,1] [] (J193 g12) rfl rfl
 have J227: ∀(g10:Nat),RJ 6 f6 (Yt.R r w) [1,1,0] w [⟨.slice (pa g10) 8 8,5,1,nums .u8 (List.replicate 8 (0:Int))⟩,⟨.pt g1,27,0,[.i 3,.i 8,.i 4,.bool false]⟩] [] [] ([0,2],[(1,.pt g1),(8,.agg #[.i 3,.i 8,.i 4,.bool false]),(10,.slice (pa g10) 8 8)]):=by
  intro g10 W228 M
  refine .a2 tr 1 3 ?_ ?_
  ·exact .mn 5 .u8 16 16 M [] fun g230 W229 M=> .jn M [0,1,2] [] (J213 g230 g10) rfl rfl
  ·exact .new 5 1 12 (nums .u8 [104,101,108,108,111,44,32,116,104,101,114,101]) M [0] fun g232 W233 M=> .jn M [1,0,2] [] (J201 g10 g232) rfl rfl
 have J235: ∀(g7:Nat),RJ 6 f6 (Yt.R r w) [1,1,0] w [⟨.slice (pa g7) 16 16,5,1,nums .u8 (List.replicate 16 (0:Int))⟩,⟨.pt g1,27,0,[.i 3,.i 8,.i 4,.bool false]⟩] [] [] ([0,1],[(1,.pt g1),(8,.agg #[.i 3,.i 8,.i 4,.bool false]),(9,.slice (pa g7) 16 16)]):=by
  intro g7 W236 M
  refine .a2 tr 2 3 ?_ ?_
  ·exact .mn 5 .u8 8 8 M [] fun g238 W237 M=> .jn M [1,0,2] [] (J213 g7 g238) rfl rfl
  ·exact .new 5 1 12 (nums .u8 [104,101,108,108,111,44,32,116,104,101,114,101]) M [0] fun g240 W241 M=> .jn M [1,0,2] [] (J207 g7 g240) rfl rfl
 refine .a3 tr 1 2 3 ?_ ?_ ?_
 ·exact .mn 5 .u8 16 16 M [] fun g244 W243 M=> .jn M [0,1] [] (J235 g244) rfl rfl
 ·exact .mn 5 .u8 8 8 M [] fun g247 W246 M=> .jn M [0,1] [] (J227 g247) rfl rfl
 ·exact .new 5 1 12 (nums .u8 [104,101,108,108,111,44,32,116,104,101,114,101]) M [0] fun g249 W250 M=> .jn M [0,1] [] (J218 g249) rfl rfl
end Go.Scr.S
