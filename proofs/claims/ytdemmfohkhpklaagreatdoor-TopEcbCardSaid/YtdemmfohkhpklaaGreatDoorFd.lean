/- Functions that the law reaches, as plain functions, and that each call answers so: contexts, a message in pieces, the law. -/
import Derived.Test.YtdemmfohkhpklaaGreatDoorXF
import Derived.Test.YtdemmfohkhpklaaGreatDoorFa
import Derived.Test.YtdemmfohkhpklaaGreatDoorFb
import Derived.Test.YtdemmfohkhpklaaGreatDoorFc
set_option linter.unusedVariables false
set_option linter.unusedSimpArgs false
set_option maxRecDepth 100000
set_option maxHeartbeats 8000000
namespace Go.Scr.S
variable {k np0 cp0 np1 cp1 np2 cp2 np3 cp3 np4 cp4:Nat} {Ap0 Ap1 Ap2 Ap3 Ap4:Option Addr} {w w0:World} {FT:List Ent} {Zm Zp0 Zp1 Zp2 Zp3:Zp}
open Go.RowKit (Below)
open Go.Proofs.Tryz (prog f51 func51)
def MxB_ctx_Ctx (Z:Zp) (vx8:Value) (cs:List Value) (x:(Bool×Bool×Int×Int×Int×Bool×(Option Ci)×Li×Mo×Li×Li)):Prop:= ∃(u0:Value) (u1:Value) (u2:Value) (u3:Value) (u4:Value) (u5:Value) (u6:Value) (u7:Value) (u9:Value) (u10:Value),cs=[u0,u1,u2,u3,u4,u5,u6,u7,vx8,u9,u10]∧rBool Z u0 x.1∧rBool Z u1 x.2.1∧(rInt .i64) Z u2 x.2.2.1∧(rInt .i64) Z u3 x.2.2.2.1∧(rInt .i64) Z u4 x.2.2.2.2.1∧rBool Z u5 x.2.2.2.2.2.1∧(rOpt (rPtr Rs_cipher_Cipher)) Z u6 x.2.2.2.2.2.2.1∧(rNums .u8) Z u7 x.2.2.2.2.2.2.2.1∧(rNums .u8) Z u9 x.2.2.2.2.2.2.2.2.2.1∧(rNums .u8) Z u10 x.2.2.2.2.2.2.2.2.2.2
theorem up_MxB_ctx_Ctx (Z Y:Zp) (vx8:Value) (cs:List Value) (x:(Bool×Bool×Int×Int×Int×Bool×(Option Ci)×Li×Mo×Li×Li)) (hs: ∀W,Y W→Z W):MxB_ctx_Ctx Z vx8 cs x→MxB_ctx_Ctx Y vx8 cs x:=fun ⟨u0,u1,u2,u3,u4,u5,u6,u7,u9,u10,e,h0,h1,h2,h3,h4,h5,h6,h7,h9,h10⟩=>⟨u0,u1,u2,u3,u4,u5,u6,u7,u9,u10,e,up_bool _ _ _ _ hs h0,up_bool _ _ _ _ hs h1,(up_int .i64) _ _ _ _ hs h2,(up_int .i64) _ _ _ _ hs h3,(up_int .i64) _ _ _ _ hs h4,up_bool _ _ _ _ hs h5,upc _ _ _ _ hs h6,upn hs h7,upn hs h9,upn hs h10⟩
def ctx_Ctx_turn.f (k:Nat) (a0:(Bool×Bool×Int×Int×Int×Bool×(Option Ci)×Li×Mo×Li×Li)) (a1:Li):Option (Li×(Bool×Bool×Int×Int×Int×Bool×(Option Ci)×Li×Mo×Li×Li)):=(modes_Mode_Step.f k (a0.2.2.2.2.2.2.2.2.1.1,a0.2.2.2.2.2.2.2.2.1.2.1,a0.2.2.2.2.2.2.2.2.1.2.2.1,a0.2.2.2.2.2.2.2.2.1.2.2.2.1,a0.2.2.2.2.2.2.2.2.1.2.2.2.2.1,a0.2.2.2.2.2.2.2.2.1.2.2.2.2.2) a1).bind fun t6=>((ctx_refuse.f k t6.2.1).bind fun t14=>((a0.2.2.2.2.2.2.1).bind fun s15=>((cipher_Cipher_Size.f k s15).bind fun t19=>((ctx_Ctx_stolen.f k (a0.1,a0.2.1,a0.2.2.1,a0.2.2.2.1,a0.2.2.2.2.1,a0.2.2.2.2.2.1,(some s15),a0.2.2.2.2.2.2.2.1,(some (t6.2.2.1,t6.2.2.2.1,t6.2.2.2.2.1,t6.2.2.2.2.2.1,t6.2.2.2.2.2.2.1,t6.2.2.2.2.2.2.2)),a0.2.2.2.2.2.2.2.2.2.1,a0.2.2.2.2.2.2.2.2.2.2)).bind fun t21=>(if t21=true then (if (decide ((a1.length:Int)≥t19))=true then (if a0.2.2.2.2.2.1=true then (gd (0≤(I64 ((a1.length:Int)-t19))) (gd ((I64 ((a1.length:Int)-t19))≤(a1.length:Int)) (none))) else (gd (0≤(I64 ((t6.1.length:Int)-t19))) (gd ((I64 ((t6.1.length:Int)-t19))≤(t6.1.length:Int)) (none)))) else (some (t6.1,(a0.1,a0.2.1,a0.2.2.1,a0.2.2.2.1,a0.2.2.2.2.1,a0.2.2.2.2.2.1,(some s15),a0.2.2.2.2.2.2.2.1,(t6.2.2.1,t6.2.2.2.1,t6.2.2.2.2.1,t6.2.2.2.2.2.1,t6.2.2.2.2.2.2.1,t6.2.2.2.2.2.2.2),a0.2.2.2.2.2.2.2.2.2.1,a0.2.2.2.2.2.2.2.2.2.2)))) else (some (t6.1,(a0.1,a0.2.1,a0.2.2.1,a0.2.2.2.1,a0.2.2.2.2.1,a0.2.2.2.2.2.1,(some s15),a0.2.2.2.2.2.2.2.1,(t6.2.2.1,t6.2.2.2.1,t6.2.2.2.2.1,t6.2.2.2.2.2.1,t6.2.2.2.2.2.2.1,t6.2.2.2.2.2.2.2),a0.2.2.2.2.2.2.2.2.2.1,a0.2.2.2.2.2.2.2.2.2.2))))))))
theorem ctx_Ctx_turn.calls {gp0:Nat} {csp0:List Value} {a0:(Bool×Bool×Int×Int×Int×Bool×(Option Ci)×Li×Mo×Li×Li)} {gq8:Nat} {csq8:List Value} {a1:Li} {r:Li×(Bool×Bool×Int×Int×Int×Bool×(Option Ci)×Li×Mo×Li×Li)} (hp0:MxB_ctx_Ctx Zm (.pointer (pa gq8)) csp0 a0) (hq8:Rs_modes_Mode Zm csq8 a0.2.2.2.2.2.2.2.2.1) (hZm: ∀W,Kept w0 W→Oks FT W→Zm W) (hM0:Mem w0 w (Gs [⟨.pointer (pa gp0),72,0,csp0⟩,⟨(.pointer (pa gq8)),100,0,csq8⟩] [FT])) (hr1:RdF Zp1 (.slice Ap1 np1 cp1) (nums .u8 a1)) (hZp1: ∀W,Kept w0 W→Oks FT W→Zp1 W) (h:ctx_Ctx_turn.f k a0 a1=some r):Calls prog 51 #[.pointer (pa gp0),(.slice Ap1 np1 cp1)] w (Ret fun v w'=> ∃A0' c0',∃(cs':List Value) (F':List Ent) (gq8':Nat) (csq8':List Value),v= .slice A0' r.1.length c0'∧MxB_ctx_Ctx (andZ (Oks F') Zm) (.pointer (some ⟨gq8',0,none⟩)) cs' r.2∧Rs_modes_Mode (andZ (Oks F') Zm) csq8' r.2.2.2.2.2.2.2.2.2.1∧Mem w0 w' (Gs [⟨.slice A0' r.1.length c0',5,1,nums .u8 r.1⟩,⟨.pointer (pa gp0),72,0,cs'⟩,⟨(.pointer (some ⟨gq8',0,none⟩)),100,0,csq8'⟩] [F',FT])):=by
 obtain rfl:=(hr1 _ (hZp1 _ hM0.kept (hM0.oks 0))).ln
 obtain ⟨uo2_0,_,_,_,_,_,rfl,ho2_0,rfl,rfl,⟨Ao2_3,co2_3,rfl,ho2_3⟩,⟨Ao2_4,co2_4,rfl,ho2_4⟩,⟨Ao2_5,co2_5,rfl,ho2_5⟩⟩:=hq8
 obtain ⟨_,_,_,_,_,_,uo4_6,_,_,_,rfl,rfl,rfl,rfl,rfl,rfl,rfl,ho4_6,⟨Ao4_7,co4_7,rfl,ho4_7⟩,⟨Ao4_9,co4_9,rfl,ho4_9⟩,⟨Ao4_10,co4_10,rfl,ho4_10⟩⟩:=hp0
 unfold ctx_Ctx_turn.f at h
 refine calls_S func51 ?_
 have hM:=hM0
 refine .gq 9<| .lv hM 0 rfl 8 rfl<| .gq 1 ?_
 have hs7:Rs_modes_Mode Zm [uo2_0,.i a0.2.2.2.2.2.2.2.2.1.2.1,.bool a0.2.2.2.2.2.2.2.2.1.2.2.1,.slice Ao2_3 a0.2.2.2.2.2.2.2.2.1.2.2.2.1.length co2_3,.slice Ao2_4 a0.2.2.2.2.2.2.2.2.1.2.2.2.2.1.length co2_4,.slice Ao2_5 a0.2.2.2.2.2.2.2.2.1.2.2.2.2.2.length co2_5] (a0.2.2.2.2.2.2.2.2.1.1,a0.2.2.2.2.2.2.2.2.1.2.1,a0.2.2.2.2.2.2.2.2.1.2.2.1,a0.2.2.2.2.2.2.2.2.1.2.2.2.1,a0.2.2.2.2.2.2.2.2.1.2.2.2.2.1,a0.2.2.2.2.2.2.2.2.1.2.2.2.2.2):=⟨_,_,_,_,_,_,rfl,(upc _ _ _ _ (fun _ z=>z) ho2_0),rfl,rfl,(upn (fun _ z=>z) (rno ho2_3 (zl hM hZm 0))),(upn (fun _ z=>z) (rno ho2_4 (zl hM hZm 0))),(upn (fun _ z=>z) (rno ho2_5 (zl hM hZm 0)))⟩
 obtain ⟨t6,ht6,h⟩:=bs h
 refine .ca (modes_Mode_Step.calls (hp0:=hs7) (hZm:=fun _ hk_ hT_=>(hZm _ hk_ (hT_.fg 0 rfl))) (hM0:=hM.fm [1] [0] [0] rfl rfl rfl) (Zp1:=fun W_=>Rd W_ (.slice Ap1 a1.length cp1) (nums .u8 a1)) (hr1:=fun _ h_=>h_) (hZp1:=fun _ hk_ hT_=>(hr1 _ (hZp1 _ hk_ (hT_.fg 0 rfl)))) (h:=ht6)) ?_
 rintro _ W5 ⟨A8,c9,cst6,Ft6,rfl,hRt6,hM_⟩
 have hr11:Rs_modes_Mode (andZ (Oks Ft6) Zm) cst6 t6.2.2:=hRt6
 replace hM:=hM_.uf
 obtain ⟨uo12_0,_,_,_,_,_,rfl,ho12_0,rfl,rfl,⟨Ao12_3,co12_3,rfl,ho12_3⟩,⟨Ao12_4,co12_4,rfl,ho12_4⟩,⟨Ao12_5,co12_5,rfl,ho12_5⟩⟩:=hr11
 refine .gq 9 ?_
 obtain ⟨t14,ht14,h⟩:=bs h
 refine .ca (ctx_refuse.calls ht14) ?_
 rintro _ W13 ⟨rfl,hM_⟩
 replace hM:=hM.cg hM_
 refine .gq 7<| .lv hM 2 rfl 6 rfl ?_
 obtain ⟨s15,hx_,h⟩:=bs h
 have hps15:=rOpt.some ho4_6 hx_
 obtain ⟨g16,_,rfl,hco17,_,uo17_1,rfl,rfl,ho17_1⟩:=id hps15
 obtain ⟨t19,ht19,h⟩:=bs h
 refine .ca (cipher_Cipher_Size.calls hps15 (zk hM hZm 1) ht19) ?_
 rintro _ W18 ⟨rfl,hM_⟩
 replace hM:=hM.cg hM_
 refine .gq 5 ?_
 obtain ⟨t21,ht21,h⟩:=bs h
 refine .ca (ctx_Ctx_stolen.calls (Zp0:=Kept W18) (a0:=(a0.1,a0.2.1,a0.2.2.1,a0.2.2.2.1,a0.2.2.2.2.1,a0.2.2.2.2.2.1,(some s15),a0.2.2.2.2.2.2.2.1,(some (t6.2.2.1,t6.2.2.2.1,t6.2.2.2.2.1,t6.2.2.2.2.2.1,t6.2.2.2.2.2.2.1,t6.2.2.2.2.2.2.2)),a0.2.2.2.2.2.2.2.2.2.1,a0.2.2.2.2.2.2.2.2.2.2)) ⟨gp0,_,rfl,(hM.cellsKept 2 rfl),_,_,_,_,_,_,_,_,_,_,_,rfl,rfl,rfl,rfl,rfl,rfl,rfl,(upc _ _ _ _ (zk hM hZm 1) (.inr ⟨s15,rfl,hps15⟩)),(upn (zk hM hZm 1) (rno ho4_7 (zl hM hZm 1))),(.inr ⟨_,rfl,⟨gq8,_,rfl,(hM.cellsKept 1 rfl),_,_,_,_,_,_,rfl,(upc _ _ _ _ (fun _ z=>(ai ((hM.oks 0).kept z) (hZm _ (hM.kept.trans z) ((hM.oks 1).kept z)))) ho12_0),rfl,rfl,(upn (fun _ z=>(ai ((hM.oks 0).kept z) (hZm _ (hM.kept.trans z) ((hM.oks 1).kept z)))) (rno ho12_3 (ai (hM.oks 0) (zl hM hZm 1)))),(upn (fun _ z=>(ai ((hM.oks 0).kept z) (hZm _ (hM.kept.trans z) ((hM.oks 1).kept z)))) (rno ho12_4 (ai (hM.oks 0) (zl hM hZm 1)))),(upn (fun _ z=>(ai ((hM.oks 0).kept z) (hZm _ (hM.kept.trans z) ((hM.oks 1).kept z)))) (rno ho12_5 (ai (hM.oks 0) (zl hM hZm 1))))⟩⟩),(upn (zk hM hZm 1) (rno ho4_9 (zl hM hZm 1))),(upn (zk hM hZm 1) (rno ho4_10 (zl hM hZm 1)))⟩ (fun _ h_=>h_) ht21) ?_
 rintro _ W20 ⟨rfl,hM_⟩
 replace hM:=hM.cg hM_
 refine .gq 1 ?_
 rcases ift h with ⟨c22,h⟩ | ⟨c22,h⟩
 ·refine .kn 27 c22<| .gq 6 ?_
  rcases ift h with ⟨c23,h⟩ | ⟨c23,h⟩
  ·refine .kn 32 c23<| .gq 13<| .lv hM 2 rfl 5 rfl<| .gq 1 ?_
   rcases ift h with ⟨c24,h⟩ | ⟨c24,h⟩
   ·refine .kn 38 c24<| .gq 12 ?_
    obtain ⟨c25,h⟩:=ifd h
    rcases ift h with ⟨_,h⟩ | ⟨_,h⟩<;>cases h
   refine .kn 38 c24<| .gq 9 ?_
   obtain ⟨c30,h⟩:=ifd h
   rcases ift h with ⟨_,h⟩ | ⟨_,h⟩<;>cases h
  refine .kn 32 c23<| .gq 7 ?_
  obtain rfl:=sj h
  exact .ret func51 ⟨A8,c9,[.bool a0.1,.bool a0.2.1,.i a0.2.2.1,.i a0.2.2.2.1,.i a0.2.2.2.2.1,.bool a0.2.2.2.2.2.1,.pointer (pa g16),.slice Ao4_7 a0.2.2.2.2.2.2.2.1.length co4_7,.pointer (pa gq8),.slice Ao4_9 a0.2.2.2.2.2.2.2.2.2.1.length co4_9,.slice Ao4_10 a0.2.2.2.2.2.2.2.2.2.2.length co4_10],Ft6,gq8,[uo12_0,.i t6.2.2.2.1,.bool t6.2.2.2.2.1,.slice Ao12_3 t6.2.2.2.2.2.1.length co12_3,.slice Ao12_4 t6.2.2.2.2.2.2.1.length co12_4,.slice Ao12_5 t6.2.2.2.2.2.2.2.length co12_5],rfl,⟨_,_,_,_,_,_,_,_,_,_,rfl,rfl,rfl,rfl,rfl,rfl,rfl,(upc _ _ _ _ (fun _ z=>z.2) (.inr ⟨s15,rfl,hps15⟩)),(upn (fun _ z=>z.2) (rno ho4_7 (zl hM hZm 1))),(upn (fun _ z=>z.2) (rno ho4_9 (zl hM hZm 1))),(upn (fun _ z=>z.2) (rno ho4_10 (zl hM hZm 1)))⟩,⟨_,_,_,_,_,_,rfl,(upc _ _ _ _ (fun _ z=>(ai z.1 z.2)) ho12_0),rfl,rfl,(upn (fun _ z=>(ai z.1 z.2)) (rno ho12_3 (ai (hM.oks 0) (zl hM hZm 1)))),(upn (fun _ z=>(ai z.1 z.2)) (rno ho12_4 (ai (hM.oks 0) (zl hM hZm 1)))),(upn (fun _ z=>(ai z.1 z.2)) (rno ho12_5 (ai (hM.oks 0) (zl hM hZm 1))))⟩,(hM.pm [0,2,1] [[0],[1]])⟩
 refine .kn 27 c22<| .gq 13 ?_
 obtain rfl:=sj h
 exact .ret func51 ⟨A8,c9,[.bool a0.1,.bool a0.2.1,.i a0.2.2.1,.i a0.2.2.2.1,.i a0.2.2.2.2.1,.bool a0.2.2.2.2.2.1,.pointer (pa g16),.slice Ao4_7 a0.2.2.2.2.2.2.2.1.length co4_7,.pointer (pa gq8),.slice Ao4_9 a0.2.2.2.2.2.2.2.2.2.1.length co4_9,.slice Ao4_10 a0.2.2.2.2.2.2.2.2.2.2.length co4_10],Ft6,gq8,[uo12_0,.i t6.2.2.2.1,.bool t6.2.2.2.2.1,.slice Ao12_3 t6.2.2.2.2.2.1.length co12_3,.slice Ao12_4 t6.2.2.2.2.2.2.1.length co12_4,.slice Ao12_5 t6.2.2.2.2.2.2.2.length co12_5],rfl,⟨_,_,_,_,_,_,_,_,_,_,rfl,rfl,rfl,rfl,rfl,rfl,rfl,(upc _ _ _ _ (fun _ z=>z.2) (.inr ⟨s15,rfl,hps15⟩)),(upn (fun _ z=>z.2) (rno ho4_7 (zl hM hZm 1))),(upn (fun _ z=>z.2) (rno ho4_9 (zl hM hZm 1))),(upn (fun _ z=>z.2) (rno ho4_10 (zl hM hZm 1)))⟩,⟨_,_,_,_,_,_,rfl,(upc _ _ _ _ (fun _ z=>(ai z.1 z.2)) ho12_0),rfl,rfl,(upn (fun _ z=>(ai z.1 z.2)) (rno ho12_3 (ai (hM.oks 0) (zl hM hZm 1)))),(upn (fun _ z=>(ai z.1 z.2)) (rno ho12_4 (ai (hM.oks 0) (zl hM hZm 1)))),(upn (fun _ z=>(ai z.1 z.2)) (rno ho12_5 (ai (hM.oks 0) (zl hM hZm 1))))⟩,(hM.pm [0,2,1] [[0],[1]])⟩
end Go.Scr.S

namespace Go.Scr.S
variable {k np0 cp0 np1 cp1 np2 cp2 np3 cp3 np4 cp4:Nat} {Ap0 Ap1 Ap2 Ap3 Ap4:Option Addr} {w w0:World} {FT:List Ent} {Zm Zp0 Zp1 Zp2 Zp3:Zp}
open Go.RowKit (Below)
open Go.Proofs.Tryz (prog f52 func52)
def ctx_Ctx_end.f (k:Nat) (a0:(Bool×Bool×Int×Int×Int×Bool×(Option Ci)×Li×Mo×Li×Li)) (a1:Li):Option (Li×(Bool×Bool×Int×Int×Int×Bool×(Option Ci)×Li×Mo×Li×Li)):=(a0.2.2.2.2.2.2.1).bind fun s5=>((cipher_Cipher_Size.f k s5).bind fun t9=>((ctx_Ctx_stolen.f k (a0.1,a0.2.1,a0.2.2.1,a0.2.2.2.1,a0.2.2.2.2.1,a0.2.2.2.2.2.1,(some s5),a0.2.2.2.2.2.2.2.1,(some (a0.2.2.2.2.2.2.2.2.1.1,a0.2.2.2.2.2.2.2.2.1.2.1,a0.2.2.2.2.2.2.2.2.1.2.2.1,a0.2.2.2.2.2.2.2.2.1.2.2.2.1,a0.2.2.2.2.2.2.2.2.1.2.2.2.2.1,a0.2.2.2.2.2.2.2.2.1.2.2.2.2.2)),a0.2.2.2.2.2.2.2.2.2.1,a0.2.2.2.2.2.2.2.2.2.2)).bind fun t11=>(if t11=true then ((steal_Tail.f k s5 a0.2.2.2.1 a0.2.2.2.2.2.1 a0.2.2.2.2.2.2.2.2.2.2 a1).bind fun t15=>((ctx_refuse.f k t15.2).bind fun t20=>(some (t15.1,(a0.1,a0.2.1,a0.2.2.1,a0.2.2.2.1,a0.2.2.2.2.1,a0.2.2.2.2.2.1,(some s5),a0.2.2.2.2.2.2.2.1,(a0.2.2.2.2.2.2.2.2.1.1,a0.2.2.2.2.2.2.2.2.1.2.1,a0.2.2.2.2.2.2.2.2.1.2.2.1,a0.2.2.2.2.2.2.2.2.1.2.2.2.1,a0.2.2.2.2.2.2.2.2.1.2.2.2.2.1,a0.2.2.2.2.2.2.2.2.1.2.2.2.2.2),a0.2.2.2.2.2.2.2.2.2.1,a0.2.2.2.2.2.2.2.2.2.2))))) else (if (a0.2.2.2.2.1==4)=true then ((ctx_Ctx_turn.f k (a0.1,a0.2.1,a0.2.2.1,a0.2.2.2.1,a0.2.2.2.2.1,a0.2.2.2.2.2.1,(some s5),a0.2.2.2.2.2.2.2.1,(a0.2.2.2.2.2.2.2.2.1.1,a0.2.2.2.2.2.2.2.2.1.2.1,a0.2.2.2.2.2.2.2.2.1.2.2.1,a0.2.2.2.2.2.2.2.2.1.2.2.2.1,a0.2.2.2.2.2.2.2.2.1.2.2.2.2.1,a0.2.2.2.2.2.2.2.2.1.2.2.2.2.2),a0.2.2.2.2.2.2.2.2.2.1,a0.2.2.2.2.2.2.2.2.2.2) a1).bind fun t23=>(some (t23.1,(t23.2.1,t23.2.2.1,t23.2.2.2.1,t23.2.2.2.2.1,t23.2.2.2.2.2.1,t23.2.2.2.2.2.2.1,t23.2.2.2.2.2.2.2.1,t23.2.2.2.2.2.2.2.2.1,(t23.2.2.2.2.2.2.2.2.2.1.1,t23.2.2.2.2.2.2.2.2.2.1.2.1,t23.2.2.2.2.2.2.2.2.2.1.2.2.1,t23.2.2.2.2.2.2.2.2.2.1.2.2.2.1,t23.2.2.2.2.2.2.2.2.2.1.2.2.2.2.1,t23.2.2.2.2.2.2.2.2.2.1.2.2.2.2.2),t23.2.2.2.2.2.2.2.2.2.2.1,t23.2.2.2.2.2.2.2.2.2.2.2)))) else (if (!a0.2.2.2.2.2.1)=true then (none) else (if ((a1.length:Int) != t9)=true then ((ctx_refuse.f k 7).bind fun t36=>(none)) else (none)))))))
abbrev ctx_Ctx_end.R (gp0:Nat) (r:Li×(Bool×Bool×Int×Int×Int×Bool×(Option Ci)×Li×Mo×Li×Li)) (w0:World) (FT:List Ent) (Zm:Zp):Value→World→Prop:=fun v w'=> ∃A0' c0',∃(cs':List Value) (F':List Ent) (gq8':Nat) (csq8':List Value),v= .slice A0' r.1.length c0'∧MxB_ctx_Ctx (andZ (Oks F') Zm) (.pointer (some ⟨gq8',0,none⟩)) cs' r.2∧Rs_modes_Mode (andZ (Oks F') Zm) csq8' r.2.2.2.2.2.2.2.2.2.1∧Mem w0 w' (Gs [⟨.slice A0' r.1.length c0',5,1,nums .u8 r.1⟩,⟨.pointer (pa gp0),72,0,cs'⟩,⟨(.pointer (some ⟨gq8',0,none⟩)),100,0,csq8'⟩] [F',FT])
theorem ctx_Ctx_end.calls {gp0:Nat} {csp0:List Value} {a0:(Bool×Bool×Int×Int×Int×Bool×(Option Ci)×Li×Mo×Li×Li)} {gq8:Nat} {csq8:List Value} {a1:Li} {r:Li×(Bool×Bool×Int×Int×Int×Bool×(Option Ci)×Li×Mo×Li×Li)} (hp0:MxB_ctx_Ctx Zm (.pointer (pa gq8)) csp0 a0) (hq8:Rs_modes_Mode Zm csq8 a0.2.2.2.2.2.2.2.2.1) (hZm: ∀W,Kept w0 W→Oks FT W→Zm W) (hM0:Mem w0 w (Gs [⟨.pointer (pa gp0),72,0,csp0⟩,⟨(.pointer (pa gq8)),100,0,csq8⟩] [FT])) (hr1:RdF Zp1 (.slice Ap1 np1 cp1) (nums .u8 a1)) (hZp1: ∀W,Kept w0 W→Oks FT W→Zp1 W) (h:ctx_Ctx_end.f k a0 a1=some r):Calls prog 52 #[.pointer (pa gp0),(.slice Ap1 np1 cp1)] w (Ret (ctx_Ctx_end.R gp0 r w0 FT Zm)):=by
 obtain rfl:=(hr1 _ (hZp1 _ hM0.kept (hM0.oks 0))).ln
 obtain ⟨uo2_0,_,_,_,_,_,rfl,ho2_0,rfl,rfl,⟨Ao2_3,co2_3,rfl,ho2_3⟩,⟨Ao2_4,co2_4,rfl,ho2_4⟩,⟨Ao2_5,co2_5,rfl,ho2_5⟩⟩:=hq8
 obtain ⟨_,_,_,_,_,_,uo4_6,_,_,_,rfl,rfl,rfl,rfl,rfl,rfl,rfl,ho4_6,⟨Ao4_7,co4_7,rfl,ho4_7⟩,⟨Ao4_9,co4_9,rfl,ho4_9⟩,⟨Ao4_10,co4_10,rfl,ho4_10⟩⟩:=hp0
 unfold ctx_Ctx_end.f at h
 refine calls_S func52 ?_
 have hM:=hM0
 refine .gq 9<| .lv hM 0 rfl 6 rfl ?_
 obtain ⟨s5,hx_,h⟩:=bs h
 have hps5:=rOpt.some ho4_6 hx_
 obtain ⟨g6,_,rfl,hco7,_,uo7_1,rfl,rfl,ho7_1⟩:=id hps5
 obtain ⟨t9,ht9,h⟩:=bs h
 refine .ca (cipher_Cipher_Size.calls hps5 (zk hM hZm 0) ht9) ?_
 rintro _ W8 ⟨rfl,hM_⟩
 replace hM:=hM.cg hM_
 refine .gq 6 ?_
 obtain ⟨t11,ht11,h⟩:=bs h
 refine .ca (ctx_Ctx_stolen.calls (Zp0:=Kept W8) (a0:=(a0.1,a0.2.1,a0.2.2.1,a0.2.2.2.1,a0.2.2.2.2.1,a0.2.2.2.2.2.1,(some s5),a0.2.2.2.2.2.2.2.1,(some (a0.2.2.2.2.2.2.2.2.1.1,a0.2.2.2.2.2.2.2.2.1.2.1,a0.2.2.2.2.2.2.2.2.1.2.2.1,a0.2.2.2.2.2.2.2.2.1.2.2.2.1,a0.2.2.2.2.2.2.2.2.1.2.2.2.2.1,a0.2.2.2.2.2.2.2.2.1.2.2.2.2.2)),a0.2.2.2.2.2.2.2.2.2.1,a0.2.2.2.2.2.2.2.2.2.2)) ⟨gp0,_,rfl,(hM.cellsKept 0 rfl),_,_,_,_,_,_,_,_,_,_,_,rfl,rfl,rfl,rfl,rfl,rfl,rfl,(upc _ _ _ _ (zk hM hZm 0) (.inr ⟨s5,rfl,hps5⟩)),(upn (zk hM hZm 0) (rno ho4_7 (zl hM hZm 0))),(.inr ⟨_,rfl,⟨gq8,_,rfl,(hM.cellsKept 1 rfl),_,_,_,_,_,_,rfl,(upc _ _ _ _ (zk hM hZm 0) ho2_0),rfl,rfl,(upn (zk hM hZm 0) (rno ho2_3 (zl hM hZm 0))),(upn (zk hM hZm 0) (rno ho2_4 (zl hM hZm 0))),(upn (zk hM hZm 0) (rno ho2_5 (zl hM hZm 0)))⟩⟩),(upn (zk hM hZm 0) (rno ho4_9 (zl hM hZm 0))),(upn (zk hM hZm 0) (rno ho4_10 (zl hM hZm 0)))⟩ (fun _ h_=>h_) ht11) ?_
 rintro _ W10 ⟨rfl,hM_⟩
 replace hM:=hM.cg hM_
 refine .gq 1 ?_
 rcases ift h with ⟨c12,h⟩ | ⟨c12,h⟩
 ·refine .kn 18 c12<| .gq 2<| .at (show RL 52 f52 (ctx_Ctx_end.R gp0 r w0 FT Zm) [1,1,0,1,0,0] [(0,.pointer (pa gp0)),(1,.slice Ap1 a1.length cp1)] _ from .dr [] hM fun W13 hM=> ?_)
  refine .pz tr [0,1,2]<| .lv tr 3 hM 0 rfl 6 rfl<| .pz tr [4,5,6,7]<| .lv tr 8 hM 0 rfl 3 rfl<| .pz tr [9,10,11,12]<| .lv tr 13 hM 0 rfl 5 rfl<| .pz tr [14,15,16]<| .lv tr 17 hM 0 rfl 10 rfl<| .pz tr [18] ?_
  obtain ⟨t15,ht15,h⟩:=bs h
  refine .a1 tr 19<| .ca (steal_Tail.calls (ho4_10 _ (zl hM hZm 0)) (hr1 _ (zl hM hZp1 0)) hps5 (zk hM hZm 0) ht15) ?_
  rintro _ W14 ⟨A16,c17,rfl,hM_⟩
  refine .ca hM_ [] ?_
  replace hM:=hM.cg hM_
  refine .pz tr [20,21,22,23,24]<| .dn tr<| .gq 3 ?_
  obtain ⟨t20,ht20,h⟩:=bs h
  refine .ca (ctx_refuse.calls ht20) ?_
  rintro _ W19 ⟨rfl,hM_⟩
  replace hM:=hM.cg hM_
  refine .gq 6 ?_
  obtain rfl:=sj h
  exact .ret func52 ⟨A16,c17,[.bool a0.1,.bool a0.2.1,.i a0.2.2.1,.i a0.2.2.2.1,.i a0.2.2.2.2.1,.bool a0.2.2.2.2.2.1,.pointer (pa g6),.slice Ao4_7 a0.2.2.2.2.2.2.2.1.length co4_7,.pointer (pa gq8),.slice Ao4_9 a0.2.2.2.2.2.2.2.2.2.1.length co4_9,.slice Ao4_10 a0.2.2.2.2.2.2.2.2.2.2.length co4_10],([]:List Ent),gq8,[uo2_0,.i a0.2.2.2.2.2.2.2.2.1.2.1,.bool a0.2.2.2.2.2.2.2.2.1.2.2.1,.slice Ao2_3 a0.2.2.2.2.2.2.2.2.1.2.2.2.1.length co2_3,.slice Ao2_4 a0.2.2.2.2.2.2.2.2.1.2.2.2.2.1.length co2_4,.slice Ao2_5 a0.2.2.2.2.2.2.2.2.1.2.2.2.2.2.length co2_5],rfl,⟨_,_,_,_,_,_,_,_,_,_,rfl,rfl,rfl,rfl,rfl,rfl,rfl,(upc _ _ _ _ (fun _ z=>z.2) (.inr ⟨s5,rfl,hps5⟩)),(upn (fun _ z=>z.2) (rno ho4_7 (zl hM hZm 0))),(upn (fun _ z=>z.2) (rno ho4_9 (zl hM hZm 0))),(upn (fun _ z=>z.2) (rno ho4_10 (zl hM hZm 0)))⟩,⟨_,_,_,_,_,_,rfl,(upc _ _ _ _ (fun _ z=>z.2) ho2_0),rfl,rfl,(upn (fun _ z=>z.2) (rno ho2_3 (zl hM hZm 0))),(upn (fun _ z=>z.2) (rno ho2_4 (zl hM hZm 0))),(upn (fun _ z=>z.2) (rno ho2_5 (zl hM hZm 0)))⟩,(hM.pm [0,1,2] [[],[0]])⟩
 refine .kn 18 c12<| .gq 9<| .lv hM 0 rfl 4 rfl<| .gq 2 ?_
 rcases ift h with ⟨c21,h⟩ | ⟨c21,h⟩
 ·refine .kn 50 c21<| .gq 5 ?_
  have hs24:MxB_ctx_Ctx Zm (.pointer (pa gq8)) [.bool a0.1,.bool a0.2.1,.i a0.2.2.1,.i a0.2.2.2.1,.i a0.2.2.2.2.1,.bool a0.2.2.2.2.2.1,.pointer (pa g6),.slice Ao4_7 a0.2.2.2.2.2.2.2.1.length co4_7,.pointer (pa gq8),.slice Ao4_9 a0.2.2.2.2.2.2.2.2.2.1.length co4_9,.slice Ao4_10 a0.2.2.2.2.2.2.2.2.2.2.length co4_10] (a0.1,a0.2.1,a0.2.2.1,a0.2.2.2.1,a0.2.2.2.2.1,a0.2.2.2.2.2.1,(some s5),a0.2.2.2.2.2.2.2.1,(a0.2.2.2.2.2.2.2.2.1.1,a0.2.2.2.2.2.2.2.2.1.2.1,a0.2.2.2.2.2.2.2.2.1.2.2.1,a0.2.2.2.2.2.2.2.2.1.2.2.2.1,a0.2.2.2.2.2.2.2.2.1.2.2.2.2.1,a0.2.2.2.2.2.2.2.2.1.2.2.2.2.2),a0.2.2.2.2.2.2.2.2.2.1,a0.2.2.2.2.2.2.2.2.2.2):=⟨_,_,_,_,_,_,_,_,_,_,rfl,rfl,rfl,rfl,rfl,rfl,rfl,(upc _ _ _ _ (fun _ z=>z) (.inr ⟨s5,rfl,hps5⟩)),(upn (fun _ z=>z) (rno ho4_7 (zl hM hZm 0))),(upn (fun _ z=>z) (rno ho4_9 (zl hM hZm 0))),(upn (fun _ z=>z) (rno ho4_10 (zl hM hZm 0)))⟩
  have hs25:Rs_modes_Mode Zm [uo2_0,.i a0.2.2.2.2.2.2.2.2.1.2.1,.bool a0.2.2.2.2.2.2.2.2.1.2.2.1,.slice Ao2_3 a0.2.2.2.2.2.2.2.2.1.2.2.2.1.length co2_3,.slice Ao2_4 a0.2.2.2.2.2.2.2.2.1.2.2.2.2.1.length co2_4,.slice Ao2_5 a0.2.2.2.2.2.2.2.2.1.2.2.2.2.2.length co2_5] (a0.2.2.2.2.2.2.2.2.1.1,a0.2.2.2.2.2.2.2.2.1.2.1,a0.2.2.2.2.2.2.2.2.1.2.2.1,a0.2.2.2.2.2.2.2.2.1.2.2.2.1,a0.2.2.2.2.2.2.2.2.1.2.2.2.2.1,a0.2.2.2.2.2.2.2.2.1.2.2.2.2.2):=⟨_,_,_,_,_,_,rfl,(upc _ _ _ _ (fun _ z=>z) ho2_0),rfl,rfl,(upn (fun _ z=>z) (rno ho2_3 (zl hM hZm 0))),(upn (fun _ z=>z) (rno ho2_4 (zl hM hZm 0))),(upn (fun _ z=>z) (rno ho2_5 (zl hM hZm 0)))⟩
  obtain ⟨t23,ht23,h⟩:=bs h
  refine .ca (ctx_Ctx_turn.calls (hp0:=hs24) (hq8:=hs25) (hZm:=fun _ hk_ hT_=>(hZm _ hk_ (hT_.fg 0 rfl))) (hM0:=hM.fm [0,1] [] [0] rfl rfl rfl) (Zp1:=fun W_=>Rd W_ (.slice Ap1 a1.length cp1) (nums .u8 a1)) (hr1:=fun _ h_=>h_) (hZp1:=fun _ hk_ hT_=>(hr1 _ (hZp1 _ hk_ (hT_.fg 0 rfl)))) (h:=ht23)) ?_
  rintro _ W22 ⟨A26,c27,cst23,Ft23,gq8t23,csq8t23,rfl,hRt23,hq8t23,hM_⟩
  have hr29:MxB_ctx_Ctx (andZ (Oks Ft23) Zm) (.pointer (pa gq8t23)) cst23 t23.2:=hRt23
  have hrhr298:Rs_modes_Mode (andZ (Oks Ft23) Zm) csq8t23 t23.2.2.2.2.2.2.2.2.2.1:=hq8t23
  replace hM:=hM_.uf
  obtain ⟨uo30_0,_,_,_,_,_,rfl,ho30_0,rfl,rfl,⟨Ao30_3,co30_3,rfl,ho30_3⟩,⟨Ao30_4,co30_4,rfl,ho30_4⟩,⟨Ao30_5,co30_5,rfl,ho30_5⟩⟩:=hrhr298
  obtain ⟨_,_,_,_,_,_,uo32_6,_,_,_,rfl,rfl,rfl,rfl,rfl,rfl,rfl,ho32_6,⟨Ao32_7,co32_7,rfl,ho32_7⟩,⟨Ao32_9,co32_9,rfl,ho32_9⟩,⟨Ao32_10,co32_10,rfl,ho32_10⟩⟩:=hr29
  refine .gq 2 ?_
  obtain rfl:=sj h
  exact .ret func52 ⟨A26,c27,[.bool t23.2.1,.bool t23.2.2.1,.i t23.2.2.2.1,.i t23.2.2.2.2.1,.i t23.2.2.2.2.2.1,.bool t23.2.2.2.2.2.2.1,uo32_6,.slice Ao32_7 t23.2.2.2.2.2.2.2.2.1.length co32_7,.pointer (pa gq8t23),.slice Ao32_9 t23.2.2.2.2.2.2.2.2.2.2.1.length co32_9,.slice Ao32_10 t23.2.2.2.2.2.2.2.2.2.2.2.length co32_10],Ft23,gq8t23,[uo30_0,.i t23.2.2.2.2.2.2.2.2.2.1.2.1,.bool t23.2.2.2.2.2.2.2.2.2.1.2.2.1,.slice Ao30_3 t23.2.2.2.2.2.2.2.2.2.1.2.2.2.1.length co30_3,.slice Ao30_4 t23.2.2.2.2.2.2.2.2.2.1.2.2.2.2.1.length co30_4,.slice Ao30_5 t23.2.2.2.2.2.2.2.2.2.1.2.2.2.2.2.length co30_5],rfl,⟨_,_,_,_,_,_,_,_,_,_,rfl,rfl,rfl,rfl,rfl,rfl,rfl,(upc _ _ _ _ (fun _ z=>(ai z.1 z.2)) ho32_6),(upn (fun _ z=>(ai z.1 z.2)) (rno ho32_7 (ai (hM.oks 0) (zl hM hZm 1)))),(upn (fun _ z=>(ai z.1 z.2)) (rno ho32_9 (ai (hM.oks 0) (zl hM hZm 1)))),(upn (fun _ z=>(ai z.1 z.2)) (rno ho32_10 (ai (hM.oks 0) (zl hM hZm 1))))⟩,⟨_,_,_,_,_,_,rfl,(upc _ _ _ _ (fun _ z=>(ai z.1 z.2)) ho30_0),rfl,rfl,(upn (fun _ z=>(ai z.1 z.2)) (rno ho30_3 (ai (hM.oks 0) (zl hM hZm 1)))),(upn (fun _ z=>(ai z.1 z.2)) (rno ho30_4 (ai (hM.oks 0) (zl hM hZm 1)))),(upn (fun _ z=>(ai z.1 z.2)) (rno ho30_5 (ai (hM.oks 0) (zl hM hZm 1))))⟩,(hM.pm [0,1,2] [[0],[1]])⟩
 refine .kn 50 c21<| .gq 9<| .lv hM 0 rfl 5 rfl<| .gq 2 ?_
 obtain ⟨c33,h⟩:=ifz h
 refine .kn 59 c33<| .gq 10 ?_
 obtain ⟨c34,h⟩:=ifs h
 refine .kn 79 c34<| .gq 2 ?_
 obtain ⟨t36,ht36,h⟩:=bs h
 refine .ca (ctx_refuse.calls ht36) ?_
 rintro _ W35 ⟨rfl,hM_⟩
 replace hM:=hM.cg hM_
 refine .gq 2<| .at (show RL 52 f52 (ctx_Ctx_end.R gp0 r w0 FT Zm) [1,1,1,1,1,1,0] [(0,.pointer (pa gp0)),(1,.slice Ap1 a1.length cp1),(5,.i t9)] _ from .dr [] hM fun W37 hM=> ?_)
 refine .pz tr [0,1,2,3]<| .lv tr 4 hM 0 rfl 4 rfl<| .pz tr [5,6,7] ?_
 cases h
end Go.Scr.S

namespace Go.Scr.S
variable {k np0 cp0 np1 cp1 np2 cp2 np3 cp3 np4 cp4:Nat} {Ap0 Ap1 Ap2 Ap3 Ap4:Option Addr} {w w0:World} {FT:List Ent} {Zm Zp0 Zp1 Zp2 Zp3:Zp}
open Go.RowKit (Below)
open Go.Proofs.Tryz (prog f14 func14)
def ctx_Ctx_Update.l0:Nat→(Bool×Bool×Int×Int×Int×Bool×(Option Ci)×Li×Mo×Li×Li)→Li→Int→Int→Int→Option (Li×Int×(Bool×Bool×Int×Int×Int×Bool×(Option Ci)×Li×Mo×Li×Li))
 | 0,_,_,_,_,_=>none
 | k+1,a0,a1,t22,t24,x6_0=>(some (decide ((I64 (((a0.2.2.2.2.2.2.2.2.2.1++a1).length:Int)-x6_0))>t22):Bool)).bind fun y25=>(if y25=true then (ctx_Ctx_Update.l0 k a0 a1 t22 t24 (I64 (x6_0+t24))) else (gd (0≤x6_0) (gd (x6_0≤((a0.2.2.2.2.2.2.2.2.2.1++a1).length:Int)) ((ctx_Ctx_turn.f k (a0.1,a0.2.1,a0.2.2.1,a0.2.2.2.1,a0.2.2.2.2.1,a0.2.2.2.2.2.1,a0.2.2.2.2.2.2.1,a0.2.2.2.2.2.2.2.1,(a0.2.2.2.2.2.2.2.2.1.1,a0.2.2.2.2.2.2.2.2.1.2.1,a0.2.2.2.2.2.2.2.2.1.2.2.1,a0.2.2.2.2.2.2.2.2.1.2.2.2.1,a0.2.2.2.2.2.2.2.2.1.2.2.2.2.1,a0.2.2.2.2.2.2.2.2.1.2.2.2.2.2),(a0.2.2.2.2.2.2.2.2.2.1++a1),a0.2.2.2.2.2.2.2.2.2.2) (((a0.2.2.2.2.2.2.2.2.2.1++a1).take (x6_0:Int).toNat).drop (0:Int).toNat)).bind fun t33=>(gd (0≤x6_0) (gd (x6_0≤(t33.2.2.2.2.2.2.2.2.2.2.1.length:Int)) ((slices_Clone_byte_byte.f k ((t33.2.2.2.2.2.2.2.2.2.2.1.take ((t33.2.2.2.2.2.2.2.2.2.2.1.length:Int):Int).toNat).drop (x6_0:Int).toNat)).bind fun t51=>(some (t33.1,0,(t33.2.1,t33.2.2.1,t33.2.2.2.1,t33.2.2.2.2.1,t33.2.2.2.2.2.1,t33.2.2.2.2.2.2.1,t33.2.2.2.2.2.2.2.1,t33.2.2.2.2.2.2.2.2.1,(t33.2.2.2.2.2.2.2.2.2.1.1,t33.2.2.2.2.2.2.2.2.2.1.2.1,t33.2.2.2.2.2.2.2.2.2.1.2.2.1,t33.2.2.2.2.2.2.2.2.2.1.2.2.2.1,t33.2.2.2.2.2.2.2.2.2.1.2.2.2.2.1,t33.2.2.2.2.2.2.2.2.2.1.2.2.2.2.2),t51,t33.2.2.2.2.2.2.2.2.2.2.2))))))))))
def ctx_Ctx_Update.f (k:Nat) (a0:(Bool×Bool×Int×Int×Int×Bool×(Option Ci)×Li×Mo×Li×Li)) (a1:Li):Option (Li×Int×(Bool×Bool×Int×Int×Int×Bool×(Option Ci)×Li×Mo×Li×Li)):=(ctx_Ctx_need.f k (a0.1,a0.2.1,a0.2.2.1,a0.2.2.2.1,a0.2.2.2.2.1,a0.2.2.2.2.2.1,a0.2.2.2.2.2.2.1,a0.2.2.2.2.2.2.2.1,(some (a0.2.2.2.2.2.2.2.2.1.1,a0.2.2.2.2.2.2.2.2.1.2.1,a0.2.2.2.2.2.2.2.2.1.2.2.1,a0.2.2.2.2.2.2.2.2.1.2.2.2.1,a0.2.2.2.2.2.2.2.2.1.2.2.2.2.1,a0.2.2.2.2.2.2.2.2.1.2.2.2.2.2)),a0.2.2.2.2.2.2.2.2.2.1,a0.2.2.2.2.2.2.2.2.2.2)).bind fun t13=>(gd (a0.2.2.2.2.2.2.2.2.2.1.length+a1.length≤1000000000) ((ctx_Ctx_most.f k (a0.1,a0.2.1,a0.2.2.1,a0.2.2.2.1,a0.2.2.2.2.1,a0.2.2.2.2.2.1,a0.2.2.2.2.2.2.1,a0.2.2.2.2.2.2.2.1,(some (a0.2.2.2.2.2.2.2.2.1.1,a0.2.2.2.2.2.2.2.2.1.2.1,a0.2.2.2.2.2.2.2.2.1.2.2.1,a0.2.2.2.2.2.2.2.2.1.2.2.2.1,a0.2.2.2.2.2.2.2.2.1.2.2.2.2.1,a0.2.2.2.2.2.2.2.2.1.2.2.2.2.2)),(a0.2.2.2.2.2.2.2.2.2.1++a1),a0.2.2.2.2.2.2.2.2.2.2)).bind fun t22=>((modes_Mode_Grain.f k (a0.2.2.2.2.2.2.2.2.1.1,a0.2.2.2.2.2.2.2.2.1.2.1,a0.2.2.2.2.2.2.2.2.1.2.2.1,a0.2.2.2.2.2.2.2.2.1.2.2.2.1,a0.2.2.2.2.2.2.2.2.1.2.2.2.2.1,a0.2.2.2.2.2.2.2.2.1.2.2.2.2.2)).bind fun t24=>(ctx_Ctx_Update.l0 k a0 a1 t22 t24 0))))
abbrev ctx_Ctx_Update.R (gp0:Nat) (r:Li×Int×(Bool×Bool×Int×Int×Int×Bool×(Option Ci)×Li×Mo×Li×Li)) (w0:World) (FT:List Ent) (Zm:Zp):Value→World→Prop:=fun v w'=> ∃A0' c0',∃(cs':List Value) (F':List Ent) (gq8':Nat) (csq8':List Value) (Aq9':Option Addr) (nq9' cq9':Nat),v= .tuple #[.slice A0' r.1.length c0',.i r.2.1]∧MxA_ctx_Ctx (andZ (Oks F') Zm) (.pointer (some ⟨gq8',0,none⟩)) (.slice Aq9' nq9' cq9') cs' r.2.2∧Rs_modes_Mode (andZ (Oks F') Zm) csq8' r.2.2.2.2.2.2.2.2.2.2.1∧Mem w0 w' (Gs [⟨.slice A0' r.1.length c0',5,1,nums .u8 r.1⟩,⟨.pointer (pa gp0),72,0,cs'⟩,⟨(.pointer (some ⟨gq8',0,none⟩)),100,0,csq8'⟩,⟨(.slice Aq9' nq9' cq9'),5,1,nums .u8 r.2.2.2.2.2.2.2.2.2.2.2.1⟩] [F',FT])
theorem ctx_Ctx_Update.calls {gp0:Nat} {csp0:List Value} {a0:(Bool×Bool×Int×Int×Int×Bool×(Option Ci)×Li×Mo×Li×Li)} {gq8:Nat} {csq8:List Value} {Aq9:Option Addr} {nq9 cq9:Nat} {a1:Li} {r:Li×Int×(Bool×Bool×Int×Int×Int×Bool×(Option Ci)×Li×Mo×Li×Li)} (hp0:MxA_ctx_Ctx Zm (.pointer (pa gq8)) (.slice Aq9 nq9 cq9) csp0 a0) (hq8:Rs_modes_Mode Zm csq8 a0.2.2.2.2.2.2.2.2.1) (hZm: ∀W,Kept w0 W→Oks FT W→Zm W) (hM0:Mem w0 w (Gs [⟨.pointer (pa gp0),72,0,csp0⟩,⟨(.pointer (pa gq8)),100,0,csq8⟩,⟨(.slice Aq9 nq9 cq9),5,1,nums .u8 a0.2.2.2.2.2.2.2.2.2.1⟩] [FT])) (hr1:RdF Zp1 (.slice Ap1 np1 cp1) (nums .u8 a1)) (hZp1: ∀W,Kept w0 W→Oks FT W→Zp1 W) (h:ctx_Ctx_Update.f k a0 a1=some r):Calls prog 14 #[.pointer (pa gp0),(.slice Ap1 np1 cp1)] w (Ret (ctx_Ctx_Update.R gp0 r w0 FT Zm)):=by
 obtain rfl:=(hr1 _ (hZp1 _ hM0.kept (hM0.oks 0))).ln
 obtain rfl:=(hM0.or 2).ln
 obtain ⟨uo2_0,_,_,_,_,_,rfl,ho2_0,rfl,rfl,⟨Ao2_3,co2_3,rfl,ho2_3⟩,⟨Ao2_4,co2_4,rfl,ho2_4⟩,⟨Ao2_5,co2_5,rfl,ho2_5⟩⟩:=hq8
 obtain ⟨_,_,_,_,_,_,uo5_6,_,_,rfl,rfl,rfl,rfl,rfl,rfl,rfl,ho5_6,⟨Ao5_7,co5_7,rfl,ho5_7⟩,⟨Ao5_10,co5_10,rfl,ho5_10⟩⟩:=hp0
 unfold ctx_Ctx_Update.f at h
 refine calls_S func14 ?_
 have hM:=hM0
 refine .gq 2<| .nw 22 ([.slice none 0 0]) hM fun g6 W7 hM=> .nw 30 ([.i 0]) hM fun g9 W10 hM=> .gq 4<| .df (d:=⟨.fn (.func 47) #[],#[.pointer (pa g6),.pointer (pa g9)]⟩)<| .gq 4 ?_
 obtain ⟨t13,ht13,h⟩:=bs h
 refine .ca (ctx_Ctx_need.calls (Zp0:=Kept W10) (a0:=(a0.1,a0.2.1,a0.2.2.1,a0.2.2.2.1,a0.2.2.2.2.1,a0.2.2.2.2.2.1,a0.2.2.2.2.2.2.1,a0.2.2.2.2.2.2.2.1,(some (a0.2.2.2.2.2.2.2.2.1.1,a0.2.2.2.2.2.2.2.2.1.2.1,a0.2.2.2.2.2.2.2.2.1.2.2.1,a0.2.2.2.2.2.2.2.2.1.2.2.2.1,a0.2.2.2.2.2.2.2.2.1.2.2.2.2.1,a0.2.2.2.2.2.2.2.2.1.2.2.2.2.2)),a0.2.2.2.2.2.2.2.2.2.1,a0.2.2.2.2.2.2.2.2.2.2)) ⟨gp0,_,rfl,(hM.cellsKept 2 rfl),_,_,_,_,_,_,_,_,_,_,_,rfl,rfl,rfl,rfl,rfl,rfl,rfl,(upc _ _ _ _ (zk hM hZm 0) ho5_6),(upn (zk hM hZm 0) (rno ho5_7 (zl hM hZm 0))),(.inr ⟨_,rfl,⟨gq8,_,rfl,(hM.cellsKept 3 rfl),_,_,_,_,_,_,rfl,(upc _ _ _ _ (zk hM hZm 0) ho2_0),rfl,rfl,(upn (zk hM hZm 0) (rno ho2_3 (zl hM hZm 0))),(upn (zk hM hZm 0) (rno ho2_4 (zl hM hZm 0))),(upn (zk hM hZm 0) (rno ho2_5 (zl hM hZm 0)))⟩⟩),(rno (RdF.of_rd (hM.rd 4 rfl)) (Kept.refl _)),(upn (zk hM hZm 0) (rno ho5_10 (zl hM hZm 0)))⟩ (fun _ h_=>h_) ht13) ?_
 rintro _ W12 ⟨rfl,hM_⟩
 replace hM:=hM.cg hM_
 refine .gq 7<| .lv hM 2 rfl 9 rfl<| .gq 1 ?_
 obtain ⟨c17,h⟩:=ifd h
 refine .an hM 4 rfl (hr1 _ (zl hM hZp1 0)) c17 fun A14 c15 W16 hM=> .gq 2<| .vf 9 (.slice A14 ((a0.2.2.2.2.2.2.2.2.2.1++a1).length) c15) hM 2 rfl fun W19 hM=> .gq 2<| .at (show RL 14 f14 (ctx_Ctx_Update.R gp0 r w0 FT Zm) [1,0,1,1,1,0] [(0,.pointer (pa gp0)),(4,.pointer (pa g6)),(5,.pointer (pa g9))] _ _ from .dr [] hM fun W20 hM=> ?_)
 refine .pz tr [0,2,3,4]<| .lv tr 5 hM 2 rfl 8 rfl ?_
 obtain ⟨t22,ht22,h⟩:=bs h
 refine .a1 tr 1<| .ca (ctx_Ctx_most.calls (Zp0:=Kept W20) (a0:=(a0.1,a0.2.1,a0.2.2.1,a0.2.2.2.1,a0.2.2.2.2.1,a0.2.2.2.2.2.1,a0.2.2.2.2.2.2.1,a0.2.2.2.2.2.2.2.1,(some (a0.2.2.2.2.2.2.2.2.1.1,a0.2.2.2.2.2.2.2.2.1.2.1,a0.2.2.2.2.2.2.2.2.1.2.2.1,a0.2.2.2.2.2.2.2.2.1.2.2.2.1,a0.2.2.2.2.2.2.2.2.1.2.2.2.2.1,a0.2.2.2.2.2.2.2.2.1.2.2.2.2.2)),(a0.2.2.2.2.2.2.2.2.2.1++a1),a0.2.2.2.2.2.2.2.2.2.2)) ⟨gp0,_,rfl,(hM.cellsKept 2 rfl),_,_,_,_,_,_,_,_,_,_,_,rfl,rfl,rfl,rfl,rfl,rfl,rfl,(upc _ _ _ _ (zk hM hZm 0) ho5_6),(upn (zk hM hZm 0) (rno ho5_7 (zl hM hZm 0))),(.inr ⟨_,rfl,⟨gq8,_,rfl,(hM.cellsKept 3 rfl),_,_,_,_,_,_,rfl,(upc _ _ _ _ (zk hM hZm 0) ho2_0),rfl,rfl,(upn (zk hM hZm 0) (rno ho2_3 (zl hM hZm 0))),(upn (zk hM hZm 0) (rno ho2_4 (zl hM hZm 0))),(upn (zk hM hZm 0) (rno ho2_5 (zl hM hZm 0)))⟩⟩),(rno (RdF.of_rd (hM.rd 4 rfl)) (Kept.refl _)),(upn (zk hM hZm 0) (rno ho5_10 (zl hM hZm 0)))⟩ (fun _ h_=>h_) ht22) ?_
 rintro _ W21 ⟨rfl,hM_⟩
 refine .ca hM_ [] ?_
 replace hM:=hM.cg hM_
 obtain ⟨t24,ht24,h⟩:=bs h
 refine .a1 tr 6<| .ca (modes_Mode_Grain.calls (Zp0:=Kept W21) (a0:=(a0.2.2.2.2.2.2.2.2.1.1,a0.2.2.2.2.2.2.2.2.1.2.1,a0.2.2.2.2.2.2.2.2.1.2.2.1,a0.2.2.2.2.2.2.2.2.1.2.2.2.1,a0.2.2.2.2.2.2.2.2.1.2.2.2.2.1,a0.2.2.2.2.2.2.2.2.1.2.2.2.2.2)) ⟨gq8,_,rfl,(hM.cellsKept 3 rfl),_,_,_,_,_,_,rfl,(upc _ _ _ _ (zk hM hZm 0) ho2_0),rfl,rfl,(upn (zk hM hZm 0) (rno ho2_3 (zl hM hZm 0))),(upn (zk hM hZm 0) (rno ho2_4 (zl hM hZm 0))),(upn (zk hM hZm 0) (rno ho2_5 (zl hM hZm 0)))⟩ (fun _ h_=>h_) ht24) ?_
 rintro _ W23 ⟨rfl,hM_⟩
 refine .ca hM_ [] ?_
 replace hM:=hM.cg hM_
 refine .pz tr [7,8,9]<| .dn tr<| .gq 2 ?_
 have l0: ∀k_≤k,∀(x6_0:Int) {W:World} (hM:Mem w0 W (Gs [⟨.pointer (pa gp0),72,0,[.bool a0.1,.bool a0.2.1,.i a0.2.2.1,.i a0.2.2.2.1,.i a0.2.2.2.2.1,.bool a0.2.2.2.2.2.1,uo5_6,.slice Ao5_7 a0.2.2.2.2.2.2.2.1.length co5_7,.pointer (pa gq8),.slice A14 ((a0.2.2.2.2.2.2.2.2.2.1++a1).length) c15,.slice Ao5_10 a0.2.2.2.2.2.2.2.2.2.2.length co5_10]⟩,⟨.pointer (pa g6),22,0,[.slice none 0 0]⟩,⟨.pointer (pa g9),30,0,[.i 0]⟩,⟨.pointer (pa gq8),100,0,[uo2_0,.i a0.2.2.2.2.2.2.2.2.1.2.1,.bool a0.2.2.2.2.2.2.2.2.1.2.2.1,.slice Ao2_3 a0.2.2.2.2.2.2.2.2.1.2.2.2.1.length co2_3,.slice Ao2_4 a0.2.2.2.2.2.2.2.2.1.2.2.2.2.1.length co2_4,.slice Ao2_5 a0.2.2.2.2.2.2.2.2.1.2.2.2.2.2.length co2_5]⟩,⟨.slice A14 ((a0.2.2.2.2.2.2.2.2.2.1++a1).length) c15,5,1,nums .u8 (a0.2.2.2.2.2.2.2.2.2.1++a1)⟩] [FT])) (h:ctx_Ctx_Update.l0 k_ a0 a1 t22 t24 x6_0=some r),RL 14 f14 (ctx_Ctx_Update.R gp0 r w0 FT Zm) [1,0,1,1,1,1,1] [(0,.pointer (pa gp0)),(4,.pointer (pa g6)),(5,.pointer (pa g9)),(6,.i x6_0),(7,.i t22),(8,.i t24)] W [⟨.fn (.func 47) #[],#[.pointer (pa g6),.pointer (pa g9)]⟩]:=by
  refine loopI (by intros;rename_i h;simp [ctx_Ctx_Update.l0] at h) fun k hk ih0 x6_0 W hM h=> ?_
  simp only [ctx_Ctx_Update.l0] at h
  refine .gq 6<| .lv hM 0 rfl 9 rfl<| .gq 6 ?_
  let y25:Bool:=decide ((I64 (((a0.2.2.2.2.2.2.2.2.2.1++a1).length:Int)-x6_0))>t22)
  replace h:=bz (y:=y25) h rfl
  rcases ift h with ⟨c26,h⟩ | ⟨c26,h⟩
  ·exact .kn 35 c26<| .gq 11<| .at (ih0 k (by omega) (I64 (x6_0+t24)) (hM.pm [0,1,2,3,4] [[0]]) h)
  refine .kn 35 c26<| .gq 8<| .lv hM 0 rfl 9 rfl<| .gq 1 ?_
  obtain ⟨c27,h⟩:=ifd h
  obtain ⟨c28,h⟩:=ifd h
  refine .ct 0 x6_0 (hM.or 4) fun A29 c30 hs31=> ?_
  obtain ⟨Fq34,hfq34,hM⟩:=hM.fs 4
  have hs35:MxB_ctx_Ctx (andZ Zm (Oks Fq34)) (.pointer (pa gq8)) [.bool a0.1,.bool a0.2.1,.i a0.2.2.1,.i a0.2.2.2.1,.i a0.2.2.2.2.1,.bool a0.2.2.2.2.2.1,uo5_6,.slice Ao5_7 a0.2.2.2.2.2.2.2.1.length co5_7,.pointer (pa gq8),.slice A14 ((a0.2.2.2.2.2.2.2.2.2.1++a1).length) c15,.slice Ao5_10 a0.2.2.2.2.2.2.2.2.2.2.length co5_10] (a0.1,a0.2.1,a0.2.2.1,a0.2.2.2.1,a0.2.2.2.2.1,a0.2.2.2.2.2.1,a0.2.2.2.2.2.2.1,a0.2.2.2.2.2.2.2.1,(a0.2.2.2.2.2.2.2.2.1.1,a0.2.2.2.2.2.2.2.2.1.2.1,a0.2.2.2.2.2.2.2.2.1.2.2.1,a0.2.2.2.2.2.2.2.2.1.2.2.2.1,a0.2.2.2.2.2.2.2.2.1.2.2.2.2.1,a0.2.2.2.2.2.2.2.2.1.2.2.2.2.2),(a0.2.2.2.2.2.2.2.2.2.1++a1),a0.2.2.2.2.2.2.2.2.2.2):=⟨_,_,_,_,_,_,_,_,_,_,rfl,rfl,rfl,rfl,rfl,rfl,rfl,(upc _ _ _ _ (fun _ z=>z.1) ho5_6),(upn (fun _ z=>z.1) (rno ho5_7 (zl hM hZm 1))),(upn (fun _ z=>z.2) (rno hfq34 (hM.oks 0))),(upn (fun _ z=>z.1) (rno ho5_10 (zl hM hZm 1)))⟩
  have hs36:Rs_modes_Mode (andZ Zm (Oks Fq34)) [uo2_0,.i a0.2.2.2.2.2.2.2.2.1.2.1,.bool a0.2.2.2.2.2.2.2.2.1.2.2.1,.slice Ao2_3 a0.2.2.2.2.2.2.2.2.1.2.2.2.1.length co2_3,.slice Ao2_4 a0.2.2.2.2.2.2.2.2.1.2.2.2.2.1.length co2_4,.slice Ao2_5 a0.2.2.2.2.2.2.2.2.1.2.2.2.2.2.length co2_5] (a0.2.2.2.2.2.2.2.2.1.1,a0.2.2.2.2.2.2.2.2.1.2.1,a0.2.2.2.2.2.2.2.2.1.2.2.1,a0.2.2.2.2.2.2.2.2.1.2.2.2.1,a0.2.2.2.2.2.2.2.2.1.2.2.2.2.1,a0.2.2.2.2.2.2.2.2.1.2.2.2.2.2):=⟨_,_,_,_,_,_,rfl,(upc _ _ _ _ (fun _ z=>z.1) ho2_0),rfl,rfl,(upn (fun _ z=>z.1) (rno ho2_3 (zl hM hZm 1))),(upn (fun _ z=>z.1) (rno ho2_4 (zl hM hZm 1))),(upn (fun _ z=>z.1) (rno ho2_5 (zl hM hZm 1)))⟩
  obtain ⟨t33,ht33,h⟩:=bs h
  refine .ca (ctx_Ctx_turn.calls (hp0:=hs35) (hq8:=hs36) (hZm:=fun _ hk_ hT_=>(ai (hZm _ hk_ (hT_.fg 1 rfl)) (hT_.fg 0 rfl))) (hM0:=hM.fm [0,3] [1,2] [0,1] rfl rfl rfl) (Zp1:=fun W_=>Rd W_ (.slice A29 ((((a0.2.2.2.2.2.2.2.2.2.1++a1).take (x6_0:Int).toNat).drop (0:Int).toNat).length) c30) (nums .u8 (((a0.2.2.2.2.2.2.2.2.2.1++a1).take (x6_0:Int).toNat).drop (0:Int).toNat))) (hr1:=fun _ h_=>h_) (hZp1:=fun _ hk_ hT_=>(hs31 _ (hfq34 _ (hT_.fg 0 rfl)))) (h:=ht33)) ?_
  rintro _ W32 ⟨A37,c38,cst33,Ft33,gq8t33,csq8t33,rfl,hRt33,hq8t33,hM_⟩
  have hr40:MxB_ctx_Ctx (andZ (Oks Ft33) (andZ Zm (Oks Fq34))) (.pointer (pa gq8t33)) cst33 t33.2:=hRt33
  have hrhr408:Rs_modes_Mode (andZ (Oks Ft33) (andZ Zm (Oks Fq34))) csq8t33 t33.2.2.2.2.2.2.2.2.2.1:=hq8t33
  replace hM:=hM_.uf
  obtain ⟨uo41_0,_,_,_,_,_,rfl,ho41_0,rfl,rfl,⟨Ao41_3,co41_3,rfl,ho41_3⟩,⟨Ao41_4,co41_4,rfl,ho41_4⟩,⟨Ao41_5,co41_5,rfl,ho41_5⟩⟩:=hrhr408
  obtain ⟨_,_,_,_,_,_,uo43_6,_,_,_,rfl,rfl,rfl,rfl,rfl,rfl,rfl,ho43_6,⟨Ao43_7,co43_7,rfl,ho43_7⟩,⟨Ao43_9,co43_9,rfl,ho43_9⟩,⟨Ao43_10,co43_10,rfl,ho43_10⟩⟩:=hr40
  refine .vf 0 (.slice A37 t33.1.length c38) hM 3 rfl fun W44 hM=> .gq 7<| .lv hM 1 rfl 9 rfl<| .gq 1 ?_
  obtain ⟨c45,h⟩:=ifd h
  obtain ⟨c46,h⟩:=ifd h
  refine .ct x6_0 (t33.2.2.2.2.2.2.2.2.2.2.1.length:Int) (ho43_9 _ (ai (hM.oks 0) (ai (zl hM hZm 2) (hM.oks 1)))) fun A47 c48 hs49=> ?_
  obtain ⟨t51,ht51,h⟩:=bs h
  refine .ca (slices_Clone_byte_byte.calls (hs49 _ (ho43_9 _ (ai (hM.oks 0) (ai (zl hM hZm 2) (hM.oks 1))))) ht51) ?_
  rintro _ W50 ⟨A52,c53,rfl,hM_⟩
  replace hM:=hM.cg hM_
  refine .gq 2<| .vf 9 (.slice A52 t51.length c53) hM 2 rfl fun W55 hM=> .gq 3<| .lv hM 4 rfl 0 rfl<| .vf 0 (.slice A37 t33.1.length c38) hM 4 rfl fun W56 hM=> .vf 0 (.i 0) hM 5 rfl fun W57 hM=> .gq 1 ?_
  obtain rfl:=sj h
  exact .rd func14 4 22 5 30 hM 4 5 rfl rfl (ctx_caught.D _ _ _) ⟨A37,c38,[.bool t33.2.1,.bool t33.2.2.1,.i t33.2.2.2.1,.i t33.2.2.2.2.1,.i t33.2.2.2.2.2.1,.bool t33.2.2.2.2.2.2.1,uo43_6,.slice Ao43_7 t33.2.2.2.2.2.2.2.2.1.length co43_7,.pointer (pa gq8t33),.slice A52 t51.length c53,.slice Ao43_10 t33.2.2.2.2.2.2.2.2.2.2.2.length co43_10],(List.flatten [Ft33,Fq34]),gq8t33,[uo41_0,.i t33.2.2.2.2.2.2.2.2.2.1.2.1,.bool t33.2.2.2.2.2.2.2.2.2.1.2.2.1,.slice Ao41_3 t33.2.2.2.2.2.2.2.2.2.1.2.2.2.1.length co41_3,.slice Ao41_4 t33.2.2.2.2.2.2.2.2.2.1.2.2.2.2.1.length co41_4,.slice Ao41_5 t33.2.2.2.2.2.2.2.2.2.1.2.2.2.2.2.length co41_5],A52,t51.length,c53,rfl,⟨_,_,_,_,_,_,_,_,_,rfl,rfl,rfl,rfl,rfl,rfl,rfl,(upc _ _ _ _ (fun _ z=>(ai (Oks.g z.1 0 rfl) (ai z.2 (Oks.g z.1 1 rfl)))) ho43_6),(upn (fun _ z=>(ai (Oks.g z.1 0 rfl) (ai z.2 (Oks.g z.1 1 rfl)))) (rno ho43_7 (ai (hM.oks 0) (ai (zl hM hZm 2) (hM.oks 1))))),(upn (fun _ z=>(ai (Oks.g z.1 0 rfl) (ai z.2 (Oks.g z.1 1 rfl)))) (rno ho43_10 (ai (hM.oks 0) (ai (zl hM hZm 2) (hM.oks 1)))))⟩,⟨_,_,_,_,_,_,rfl,(upc _ _ _ _ (fun _ z=>(ai (Oks.g z.1 0 rfl) (ai z.2 (Oks.g z.1 1 rfl)))) ho41_0),rfl,rfl,(upn (fun _ z=>(ai (Oks.g z.1 0 rfl) (ai z.2 (Oks.g z.1 1 rfl)))) (rno ho41_3 (ai (hM.oks 0) (ai (zl hM hZm 2) (hM.oks 1))))),(upn (fun _ z=>(ai (Oks.g z.1 0 rfl) (ai z.2 (Oks.g z.1 1 rfl)))) (rno ho41_4 (ai (hM.oks 0) (ai (zl hM hZm 2) (hM.oks 1))))),(upn (fun _ z=>(ai (Oks.g z.1 0 rfl) (ai z.2 (Oks.g z.1 1 rfl)))) (rno ho41_5 (ai (hM.oks 0) (ai (zl hM hZm 2) (hM.oks 1)))))⟩,(hM.pm [1,2,3,0] [[0,1],[2]])⟩ (by kernel_rfl) (by kernel_rfl) (by kernel_rfl)
 exact .at (l0 k k.le_refl 0 (hM.pm [2,1,0,3,4] [[0]]) h)
end Go.Scr.S

namespace Go.Scr.S
variable {k np0 cp0 np1 cp1 np2 cp2 np3 cp3 np4 cp4:Nat} {Ap0 Ap1 Ap2 Ap3 Ap4:Option Addr} {w w0:World} {FT:List Ent} {Zm Zp0 Zp1 Zp2 Zp3:Zp}
open Go.RowKit (Below)
open Go.Proofs.Tryz (prog f15 func15)
def ctx_Ctx_Final.f (k:Nat) (a0:(Bool×Bool×Int×Int×Int×Bool×(Option Ci)×Li×Mo×Li×Li)):Option (Li×Int×(Bool×Bool×Int×Int×Int×Bool×(Option Ci)×Li×Mo×Li×Li)):=(ctx_Ctx_need.f k (a0.1,a0.2.1,a0.2.2.1,a0.2.2.2.1,a0.2.2.2.2.1,a0.2.2.2.2.2.1,a0.2.2.2.2.2.2.1,a0.2.2.2.2.2.2.2.1,(some (a0.2.2.2.2.2.2.2.2.1.1,a0.2.2.2.2.2.2.2.2.1.2.1,a0.2.2.2.2.2.2.2.2.1.2.2.1,a0.2.2.2.2.2.2.2.2.1.2.2.2.1,a0.2.2.2.2.2.2.2.2.1.2.2.2.2.1,a0.2.2.2.2.2.2.2.2.1.2.2.2.2.2)),a0.2.2.2.2.2.2.2.2.2.1,a0.2.2.2.2.2.2.2.2.2.2)).bind fun t13=>((ctx_Ctx_end.f k (a0.1,false,a0.2.2.1,a0.2.2.2.1,a0.2.2.2.2.1,a0.2.2.2.2.2.1,a0.2.2.2.2.2.2.1,a0.2.2.2.2.2.2.2.1,(a0.2.2.2.2.2.2.2.2.1.1,a0.2.2.2.2.2.2.2.2.1.2.1,a0.2.2.2.2.2.2.2.2.1.2.2.1,a0.2.2.2.2.2.2.2.2.1.2.2.2.1,a0.2.2.2.2.2.2.2.2.1.2.2.2.2.1,a0.2.2.2.2.2.2.2.2.1.2.2.2.2.2),([]:Li),a0.2.2.2.2.2.2.2.2.2.2) a0.2.2.2.2.2.2.2.2.2.1).bind fun t17=>(some (t17.1,0,(t17.2.1,t17.2.2.1,t17.2.2.2.1,t17.2.2.2.2.1,t17.2.2.2.2.2.1,t17.2.2.2.2.2.2.1,t17.2.2.2.2.2.2.2.1,t17.2.2.2.2.2.2.2.2.1,(t17.2.2.2.2.2.2.2.2.2.1.1,t17.2.2.2.2.2.2.2.2.2.1.2.1,t17.2.2.2.2.2.2.2.2.2.1.2.2.1,t17.2.2.2.2.2.2.2.2.2.1.2.2.2.1,t17.2.2.2.2.2.2.2.2.2.1.2.2.2.2.1,t17.2.2.2.2.2.2.2.2.2.1.2.2.2.2.2),t17.2.2.2.2.2.2.2.2.2.2.1,t17.2.2.2.2.2.2.2.2.2.2.2))))
theorem ctx_Ctx_Final.calls {gp0:Nat} {csp0:List Value} {a0:(Bool×Bool×Int×Int×Int×Bool×(Option Ci)×Li×Mo×Li×Li)} {gq8:Nat} {csq8:List Value} {Aq9:Option Addr} {nq9 cq9:Nat} {r:Li×Int×(Bool×Bool×Int×Int×Int×Bool×(Option Ci)×Li×Mo×Li×Li)} (hp0:MxA_ctx_Ctx Zm (.pointer (pa gq8)) (.slice Aq9 nq9 cq9) csp0 a0) (hq8:Rs_modes_Mode Zm csq8 a0.2.2.2.2.2.2.2.2.1) (hZm: ∀W,Kept w0 W→Oks FT W→Zm W) (hM0:Mem w0 w (Gs [⟨.pointer (pa gp0),72,0,csp0⟩,⟨(.pointer (pa gq8)),100,0,csq8⟩,⟨(.slice Aq9 nq9 cq9),5,1,nums .u8 a0.2.2.2.2.2.2.2.2.2.1⟩] [FT])) (h:ctx_Ctx_Final.f k a0=some r):Calls prog 15 #[.pointer (pa gp0)] w (Ret fun v w'=> ∃A0' c0',∃(cs':List Value) (F':List Ent) (gq8':Nat) (csq8':List Value),v= .tuple #[.slice A0' r.1.length c0',.i r.2.1]∧MxB_ctx_Ctx (andZ (Oks F') Zm) (.pointer (some ⟨gq8',0,none⟩)) cs' r.2.2∧Rs_modes_Mode (andZ (Oks F') Zm) csq8' r.2.2.2.2.2.2.2.2.2.2.1∧Mem w0 w' (Gs [⟨.slice A0' r.1.length c0',5,1,nums .u8 r.1⟩,⟨.pointer (pa gp0),72,0,cs'⟩,⟨(.pointer (some ⟨gq8',0,none⟩)),100,0,csq8'⟩] [F',FT])):=by
 obtain rfl:=(hM0.or 2).ln
 obtain ⟨uo2_0,_,_,_,_,_,rfl,ho2_0,rfl,rfl,⟨Ao2_3,co2_3,rfl,ho2_3⟩,⟨Ao2_4,co2_4,rfl,ho2_4⟩,⟨Ao2_5,co2_5,rfl,ho2_5⟩⟩:=hq8
 obtain ⟨_,_,_,_,_,_,uo5_6,_,_,rfl,rfl,rfl,rfl,rfl,rfl,rfl,ho5_6,⟨Ao5_7,co5_7,rfl,ho5_7⟩,⟨Ao5_10,co5_10,rfl,ho5_10⟩⟩:=hp0
 unfold ctx_Ctx_Final.f at h
 refine calls_S func15 ?_
 have hM:=hM0
 refine .gq 2<| .nw 22 ([.slice none 0 0]) hM fun g6 W7 hM=> .nw 30 ([.i 0]) hM fun g9 W10 hM=> .gq 3<| .df (d:=⟨.fn (.func 47) #[],#[.pointer (pa g6),.pointer (pa g9)]⟩)<| .gq 4 ?_
 obtain ⟨t13,ht13,h⟩:=bs h
 refine .ca (ctx_Ctx_need.calls (Zp0:=Kept W10) (a0:=(a0.1,a0.2.1,a0.2.2.1,a0.2.2.2.1,a0.2.2.2.2.1,a0.2.2.2.2.2.1,a0.2.2.2.2.2.2.1,a0.2.2.2.2.2.2.2.1,(some (a0.2.2.2.2.2.2.2.2.1.1,a0.2.2.2.2.2.2.2.2.1.2.1,a0.2.2.2.2.2.2.2.2.1.2.2.1,a0.2.2.2.2.2.2.2.2.1.2.2.2.1,a0.2.2.2.2.2.2.2.2.1.2.2.2.2.1,a0.2.2.2.2.2.2.2.2.1.2.2.2.2.2)),a0.2.2.2.2.2.2.2.2.2.1,a0.2.2.2.2.2.2.2.2.2.2)) ⟨gp0,_,rfl,(hM.cellsKept 2 rfl),_,_,_,_,_,_,_,_,_,_,_,rfl,rfl,rfl,rfl,rfl,rfl,rfl,(upc _ _ _ _ (zk hM hZm 0) ho5_6),(upn (zk hM hZm 0) (rno ho5_7 (zl hM hZm 0))),(.inr ⟨_,rfl,⟨gq8,_,rfl,(hM.cellsKept 3 rfl),_,_,_,_,_,_,rfl,(upc _ _ _ _ (zk hM hZm 0) ho2_0),rfl,rfl,(upn (zk hM hZm 0) (rno ho2_3 (zl hM hZm 0))),(upn (zk hM hZm 0) (rno ho2_4 (zl hM hZm 0))),(upn (zk hM hZm 0) (rno ho2_5 (zl hM hZm 0)))⟩⟩),(rno (RdF.of_rd (hM.rd 4 rfl)) (Kept.refl _)),(upn (zk hM hZm 0) (rno ho5_10 (zl hM hZm 0)))⟩ (fun _ h_=>h_) ht13) ?_
 rintro _ W12 ⟨rfl,hM_⟩
 replace hM:=hM.cg hM_
 refine .gq 6<| .lv hM 2 rfl 9 rfl<| .gq 8<| .vf 1 (.bool false) hM 2 rfl fun W14 hM=> .gq 2<| .vf 9 (.slice none 0 0) hM 2 rfl fun W15 hM=> .gq 5 ?_
 have hs18:MxB_ctx_Ctx Zm (.pointer (pa gq8)) [.bool a0.1,.bool false,.i a0.2.2.1,.i a0.2.2.2.1,.i a0.2.2.2.2.1,.bool a0.2.2.2.2.2.1,uo5_6,.slice Ao5_7 a0.2.2.2.2.2.2.2.1.length co5_7,.pointer (pa gq8),.slice none 0 0,.slice Ao5_10 a0.2.2.2.2.2.2.2.2.2.2.length co5_10] (a0.1,false,a0.2.2.1,a0.2.2.2.1,a0.2.2.2.2.1,a0.2.2.2.2.2.1,a0.2.2.2.2.2.2.1,a0.2.2.2.2.2.2.2.1,(a0.2.2.2.2.2.2.2.2.1.1,a0.2.2.2.2.2.2.2.2.1.2.1,a0.2.2.2.2.2.2.2.2.1.2.2.1,a0.2.2.2.2.2.2.2.2.1.2.2.2.1,a0.2.2.2.2.2.2.2.2.1.2.2.2.2.1,a0.2.2.2.2.2.2.2.2.1.2.2.2.2.2),([]:Li),a0.2.2.2.2.2.2.2.2.2.2):=⟨_,_,_,_,_,_,_,_,_,_,rfl,rfl,rfl,rfl,rfl,rfl,rfl,(upc _ _ _ _ (fun _ z=>z) ho5_6),(upn (fun _ z=>z) (rno ho5_7 (zl hM hZm 0))),⟨_,_,rfl,fun _ _=>Rd.nil _ _⟩,(upn (fun _ z=>z) (rno ho5_10 (zl hM hZm 0)))⟩
 have hs19:Rs_modes_Mode Zm [uo2_0,.i a0.2.2.2.2.2.2.2.2.1.2.1,.bool a0.2.2.2.2.2.2.2.2.1.2.2.1,.slice Ao2_3 a0.2.2.2.2.2.2.2.2.1.2.2.2.1.length co2_3,.slice Ao2_4 a0.2.2.2.2.2.2.2.2.1.2.2.2.2.1.length co2_4,.slice Ao2_5 a0.2.2.2.2.2.2.2.2.1.2.2.2.2.2.length co2_5] (a0.2.2.2.2.2.2.2.2.1.1,a0.2.2.2.2.2.2.2.2.1.2.1,a0.2.2.2.2.2.2.2.2.1.2.2.1,a0.2.2.2.2.2.2.2.2.1.2.2.2.1,a0.2.2.2.2.2.2.2.2.1.2.2.2.2.1,a0.2.2.2.2.2.2.2.2.1.2.2.2.2.2):=⟨_,_,_,_,_,_,rfl,(upc _ _ _ _ (fun _ z=>z) ho2_0),rfl,rfl,(upn (fun _ z=>z) (rno ho2_3 (zl hM hZm 0))),(upn (fun _ z=>z) (rno ho2_4 (zl hM hZm 0))),(upn (fun _ z=>z) (rno ho2_5 (zl hM hZm 0)))⟩
 obtain ⟨t17,ht17,h⟩:=bs h
 refine .ca (ctx_Ctx_end.calls (hp0:=hs18) (hq8:=hs19) (hZm:=fun _ hk_ hT_=>(hZm _ hk_ (hT_.fg 0 rfl))) (hM0:=hM.fm [2,3] [0,1,4] [0] rfl rfl rfl) (Zp1:=fun W_=>Rd W_ (.slice Aq9 a0.2.2.2.2.2.2.2.2.2.1.length cq9) (nums .u8 a0.2.2.2.2.2.2.2.2.2.1)) (hr1:=fun _ h_=>h_) (hZp1:=fun _ hk_ hT_=>(hT_.fr 2 rfl)) (h:=ht17)) ?_
 rintro _ W16 ⟨A20,c21,cst17,Ft17,gq8t17,csq8t17,rfl,hRt17,hq8t17,hM_⟩
 have hr23:MxB_ctx_Ctx (andZ (Oks Ft17) Zm) (.pointer (pa gq8t17)) cst17 t17.2:=hRt17
 have hrhr238:Rs_modes_Mode (andZ (Oks Ft17) Zm) csq8t17 t17.2.2.2.2.2.2.2.2.2.1:=hq8t17
 replace hM:=hM_.uf
 obtain ⟨uo24_0,_,_,_,_,_,rfl,ho24_0,rfl,rfl,⟨Ao24_3,co24_3,rfl,ho24_3⟩,⟨Ao24_4,co24_4,rfl,ho24_4⟩,⟨Ao24_5,co24_5,rfl,ho24_5⟩⟩:=hrhr238
 obtain ⟨_,_,_,_,_,_,uo26_6,_,_,_,rfl,rfl,rfl,rfl,rfl,rfl,rfl,ho26_6,⟨Ao26_7,co26_7,rfl,ho26_7⟩,⟨Ao26_9,co26_9,rfl,ho26_9⟩,⟨Ao26_10,co26_10,rfl,ho26_10⟩⟩:=hr23
 refine .vf 0 (.slice A20 t17.1.length c21) hM 4 rfl fun W27 hM=> .vf 0 (.i 0) hM 3 rfl fun W28 hM=> .gq 1 ?_
 obtain rfl:=sj h
 exact .rd func15 2 22 3 30 hM 4 3 rfl rfl (ctx_caught.D _ _ _) ⟨A20,c21,[.bool t17.2.1,.bool t17.2.2.1,.i t17.2.2.2.1,.i t17.2.2.2.2.1,.i t17.2.2.2.2.2.1,.bool t17.2.2.2.2.2.2.1,uo26_6,.slice Ao26_7 t17.2.2.2.2.2.2.2.2.1.length co26_7,.pointer (pa gq8t17),.slice Ao26_9 t17.2.2.2.2.2.2.2.2.2.2.1.length co26_9,.slice Ao26_10 t17.2.2.2.2.2.2.2.2.2.2.2.length co26_10],Ft17,gq8t17,[uo24_0,.i t17.2.2.2.2.2.2.2.2.2.1.2.1,.bool t17.2.2.2.2.2.2.2.2.2.1.2.2.1,.slice Ao24_3 t17.2.2.2.2.2.2.2.2.2.1.2.2.2.1.length co24_3,.slice Ao24_4 t17.2.2.2.2.2.2.2.2.2.1.2.2.2.2.1.length co24_4,.slice Ao24_5 t17.2.2.2.2.2.2.2.2.2.1.2.2.2.2.2.length co24_5],rfl,⟨_,_,_,_,_,_,_,_,_,_,rfl,rfl,rfl,rfl,rfl,rfl,rfl,(upc _ _ _ _ (fun _ z=>(ai z.1 z.2)) ho26_6),(upn (fun _ z=>(ai z.1 z.2)) (rno ho26_7 (ai (hM.oks 0) (zl hM hZm 1)))),(upn (fun _ z=>(ai z.1 z.2)) (rno ho26_9 (ai (hM.oks 0) (zl hM hZm 1)))),(upn (fun _ z=>(ai z.1 z.2)) (rno ho26_10 (ai (hM.oks 0) (zl hM hZm 1))))⟩,⟨_,_,_,_,_,_,rfl,(upc _ _ _ _ (fun _ z=>(ai z.1 z.2)) ho24_0),rfl,rfl,(upn (fun _ z=>(ai z.1 z.2)) (rno ho24_3 (ai (hM.oks 0) (zl hM hZm 1)))),(upn (fun _ z=>(ai z.1 z.2)) (rno ho24_4 (ai (hM.oks 0) (zl hM hZm 1)))),(upn (fun _ z=>(ai z.1 z.2)) (rno ho24_5 (ai (hM.oks 0) (zl hM hZm 1))))⟩,(hM.pm [0,1,2] [[0],[1]])⟩ (by kernel_rfl) (by kernel_rfl) (by kernel_rfl)
end Go.Scr.S

namespace Go.Scr.S
variable {k np0 cp0 np1 cp1 np2 cp2 np3 cp3 np4 cp4:Nat} {Ap0 Ap1 Ap2 Ap3 Ap4:Option Addr} {w w0:World} {FT:List Ent} {Zm Zp0 Zp1 Zp2 Zp3:Zp}
open Go.RowKit (Below)
open Go.Proofs.Tryz (prog f20 func20)
def run_Seal.l0:Nat→Lj→(Bool×Bool×Int×Int×Int×Bool×(Option Ci)×Li×Mo×Li×Li)→Li→Int→Option (Li×Int)
 | 0,_,_,_,_=>none
 | k+1,a3,x10_0,x12_0,x30_0=>if (decide (x30_0<(a3.length:Int)))=true then (gd (0≤x30_0) (gd (x30_0<(a3.length:Int)) ((ctx_Ctx_Update.f k (x10_0.1,x10_0.2.1,x10_0.2.2.1,x10_0.2.2.2.1,x10_0.2.2.2.2.1,x10_0.2.2.2.2.2.1,x10_0.2.2.2.2.2.2.1,x10_0.2.2.2.2.2.2.2.1,(x10_0.2.2.2.2.2.2.2.2.1.1,x10_0.2.2.2.2.2.2.2.2.1.2.1,x10_0.2.2.2.2.2.2.2.2.1.2.2.1,x10_0.2.2.2.2.2.2.2.2.1.2.2.2.1,x10_0.2.2.2.2.2.2.2.2.1.2.2.2.2.1,x10_0.2.2.2.2.2.2.2.2.1.2.2.2.2.2),x10_0.2.2.2.2.2.2.2.2.2.1,x10_0.2.2.2.2.2.2.2.2.2.2) (rdr ([]:Li) a3 x30_0)).bind fun t29=>(if (t29.2.1 != 0)=true then (some (([]:Li),t29.2.1)) else (gd (x12_0.length+t29.1.length≤1000000000) (run_Seal.l0 k a3 (t29.2.2.1,t29.2.2.2.1,t29.2.2.2.2.1,t29.2.2.2.2.2.1,t29.2.2.2.2.2.2.1,t29.2.2.2.2.2.2.2.1,t29.2.2.2.2.2.2.2.2.1,t29.2.2.2.2.2.2.2.2.2.1,(t29.2.2.2.2.2.2.2.2.2.2.1.1,t29.2.2.2.2.2.2.2.2.2.2.1.2.1,t29.2.2.2.2.2.2.2.2.2.2.1.2.2.1,t29.2.2.2.2.2.2.2.2.2.2.1.2.2.2.1,t29.2.2.2.2.2.2.2.2.2.2.1.2.2.2.2.1,t29.2.2.2.2.2.2.2.2.2.2.1.2.2.2.2.2),t29.2.2.2.2.2.2.2.2.2.2.2.1,t29.2.2.2.2.2.2.2.2.2.2.2.2) (x12_0++t29.1) (I64 (x30_0+1)))))))) else ((ctx_Ctx_Final.f k (x10_0.1,x10_0.2.1,x10_0.2.2.1,x10_0.2.2.2.1,x10_0.2.2.2.2.1,x10_0.2.2.2.2.2.1,x10_0.2.2.2.2.2.2.1,x10_0.2.2.2.2.2.2.2.1,(x10_0.2.2.2.2.2.2.2.2.1.1,x10_0.2.2.2.2.2.2.2.2.1.2.1,x10_0.2.2.2.2.2.2.2.2.1.2.2.1,x10_0.2.2.2.2.2.2.2.2.1.2.2.2.1,x10_0.2.2.2.2.2.2.2.2.1.2.2.2.2.1,x10_0.2.2.2.2.2.2.2.2.1.2.2.2.2.2),x10_0.2.2.2.2.2.2.2.2.2.1,x10_0.2.2.2.2.2.2.2.2.2.2)).bind fun t48=>(if (t48.2.1 != 0)=true then (some (([]:Li),t48.2.1)) else ((slices_Concat_byte_byte.f k ([x12_0,t48.1]:Lj)).bind fun t68=>(some (t68,0)))))
def run_Seal.f (k:Nat) (a0:Int×Int×Int×Bool) (a1:Li) (a2:Li) (a3:Lj):Option (Li×Int):=(ctx_New.f k).bind fun t5=>((ctx_Ctx_Init.f k (t5.1,t5.2.1,t5.2.2.1,t5.2.2.2.1,t5.2.2.2.2.1,t5.2.2.2.2.2.1,t5.2.2.2.2.2.2.1,t5.2.2.2.2.2.2.2.1,t5.2.2.2.2.2.2.2.2.1,t5.2.2.2.2.2.2.2.2.2.1,t5.2.2.2.2.2.2.2.2.2.2) (a0.1,a0.2.1,a0.2.2.1,a0.2.2.2) a1 a2).bind fun t9=>(if (t9.1 != 0)=true then (some (([]:Li),t9.1)) else (run_Seal.l0 k a3 (t9.2.1,t9.2.2.1,t9.2.2.2.1,t9.2.2.2.2.1,t9.2.2.2.2.2.1,t9.2.2.2.2.2.2.1,t9.2.2.2.2.2.2.2.1,t9.2.2.2.2.2.2.2.2.1,(t9.2.2.2.2.2.2.2.2.2.1.1,t9.2.2.2.2.2.2.2.2.2.1.2.1,t9.2.2.2.2.2.2.2.2.2.1.2.2.1,t9.2.2.2.2.2.2.2.2.2.1.2.2.2.1,t9.2.2.2.2.2.2.2.2.2.1.2.2.2.2.1,t9.2.2.2.2.2.2.2.2.2.1.2.2.2.2.2),t9.2.2.2.2.2.2.2.2.2.2.1,t9.2.2.2.2.2.2.2.2.2.2.2) ([]:Li) 0)))
abbrev run_Seal.R (r:Li×Int) (w:World):Value→World→Prop:=fun v w'=> ∃A0' c0',v= .tuple #[.slice A0' r.1.length c0',.i r.2]∧Mem w w' (Gs [⟨.slice A0' r.1.length c0',5,1,nums .u8 r.1⟩] [])
theorem run_Seal.calls {a0:Int×Int×Int×Bool} {a1:Li} {a2:Li} {vp3:Value} {a3:Lj} {r:Li×Int} (hr1:Rd w (.slice Ap1 np1 cp1) (nums .u8 a1)) (hr2:Rd w (.slice Ap2 np2 cp2) (nums .u8 a2)) (hp3:(rRows (rNums .u8)) Zp3 vp3 a3) (hZp3: ∀W,Kept w W→Zp3 W) (hG1:Rg w 1 (nums .u8 [1,2,4,8,16,32,64,128])) (h:run_Seal.f k a0 a1 a2 a3=some r):Calls prog 20 #[.agg #[.i a0.1,.i a0.2.1,.i a0.2.2.1,.bool a0.2.2.2],(.slice Ap1 np1 cp1),(.slice Ap2 np2 cp2),vp3] w (Ret (run_Seal.R r w)):=by
 obtain rfl:=hr1.ln
 obtain rfl:=hr2.ln
 obtain ⟨Ap3,cp3,cs3,rfl,hr3,hq3⟩:=hp3
 unfold run_Seal.f at h
 refine calls_S func20 ?_
 have hM:=Mem.r0 w
 refine .gq 2<| .nw 27 ([.i a0.1,.i a0.2.1,.i a0.2.2.1,.bool a0.2.2.2]) hM fun g1 W2 hM=> .gq 5 ?_
 obtain ⟨t5,ht5,h⟩:=bs h
 refine .ca (ctx_New.calls ht5) ?_
 rintro _ W4 ⟨gt5_0,cst5_0,Ft5_0,rfl,hRt5_0,hM_⟩
 obtain ⟨_,_,_,_,_,_,uo6_6,_,uo6_8,_,_,rfl,rfl,rfl,rfl,rfl,rfl,rfl,ho6_6,⟨Ao6_7,co6_7,rfl,ho6_7⟩,ho6_8,⟨Ao6_9,co6_9,rfl,ho6_9⟩,⟨Ao6_10,co6_10,rfl,ho6_10⟩⟩:=hRt5_0
 replace hM:=hM.cg hM_
 refine .gq 6<| .y (yl_ldp (g:=g1) (off:=0) 4 [.i a0.1,.i a0.2.1,.i a0.2.2.1,.bool a0.2.2.2] rfl) (fun i_ u_ hu_=>match i_,hu_ with | 0,h_=>(hM.var_at 1 rfl (i:=0) (u:=u_) h_).1 | 1,h_=>(hM.var_at 1 rfl (i:=1) (u:=u_) h_).1 | 2,h_=>(hM.var_at 1 rfl (i:=2) (u:=u_) h_).1 | 3,h_=>(hM.var_at 1 rfl (i:=3) (u:=u_) h_).1 | _+4,h_=>by cases h_)<| .gq 2 ?_
 have hs10:Rs_ctx_Ctx (Oks Ft5_0) [.bool t5.1,.bool t5.2.1,.i t5.2.2.1,.i t5.2.2.2.1,.i t5.2.2.2.2.1,.bool t5.2.2.2.2.2.1,uo6_6,.slice Ao6_7 t5.2.2.2.2.2.2.2.1.length co6_7,uo6_8,.slice Ao6_9 t5.2.2.2.2.2.2.2.2.2.1.length co6_9,.slice Ao6_10 t5.2.2.2.2.2.2.2.2.2.2.length co6_10] (t5.1,t5.2.1,t5.2.2.1,t5.2.2.2.1,t5.2.2.2.2.1,t5.2.2.2.2.2.1,t5.2.2.2.2.2.2.1,t5.2.2.2.2.2.2.2.1,t5.2.2.2.2.2.2.2.2.1,t5.2.2.2.2.2.2.2.2.2.1,t5.2.2.2.2.2.2.2.2.2.2):=⟨_,_,_,_,_,_,_,_,_,_,_,rfl,rfl,rfl,rfl,rfl,rfl,rfl,(upc _ _ _ _ (fun _ z=>z) ho6_6),(upn (fun _ z=>z) (rno ho6_7 (hM.oks 0))),((up_opt (up_ptr up_Rs_modes_Mode)) _ _ _ _ (fun _ z=>z) ho6_8),(upn (fun _ z=>z) (rno ho6_9 (hM.oks 0))),(upn (fun _ z=>z) (rno ho6_10 (hM.oks 0)))⟩
 obtain ⟨t9,ht9,h⟩:=bs h
 refine .ca (ctx_Ctx_Init.calls (hp0:=hs10) (hZm:=fun _ hk_ hT_=>(hT_.fg 0 rfl)) (hM0:=hM.fm [0] [1] [0] rfl rfl rfl) (Zp2:=fun W_=>Rd W_ (.slice Ap1 a1.length cp1) (nums .u8 a1)) (hr2:=fun _ h_=>h_) (hZp2:=fun _ hk_ hT_=>(hr1.kept hk_)) (Zp3:=fun W_=>Rd W_ (.slice Ap2 a2.length cp2) (nums .u8 a2)) (hr3:=fun _ h_=>h_) (hZp3:=fun _ hk_ hT_=>(hr2.kept hk_)) (hG1:=hG1) (h:=ht9)) ?_
 rintro _ W8 ⟨cst9,Ft9,gq8t9,csq8t9,Aq9t9,nq9t9,cq9t9,rfl,hRt9,hq8t9,hM_⟩
 have hr11:MxA_ctx_Ctx (andZ (Oks Ft9) (Oks Ft5_0)) (.pointer (pa gq8t9)) (.slice Aq9t9 nq9t9 cq9t9) cst9 t9.2:=hRt9
 have hrhr118:Rs_modes_Mode (andZ (Oks Ft9) (Oks Ft5_0)) csq8t9 t9.2.2.2.2.2.2.2.2.2.1:=hq8t9
 replace hM:=hM_.uf
 obtain rfl:=(hM_.or 2).ln
 obtain ⟨uo12_0,_,_,_,_,_,rfl,ho12_0,rfl,rfl,⟨Ao12_3,co12_3,rfl,ho12_3⟩,⟨Ao12_4,co12_4,rfl,ho12_4⟩,⟨Ao12_5,co12_5,rfl,ho12_5⟩⟩:=hrhr118
 obtain ⟨_,_,_,_,_,_,uo15_6,_,_,rfl,rfl,rfl,rfl,rfl,rfl,rfl,ho15_6,⟨Ao15_7,co15_7,rfl,ho15_7⟩,⟨Ao15_10,co15_10,rfl,ho15_10⟩⟩:=hr11
 refine .gq 7 ?_
 rcases ift h with ⟨c16,h⟩ | ⟨c16,h⟩
 ·refine .kn 26 c16<| .gq 7 ?_
  replace hM:=hM.n1 5
  obtain rfl:=sj h
  exact .ret func20 ⟨none,0,rfl,(hM.pm [0] [])⟩
 refine .kn 26 c16<| .gq 15 ?_
 replace hM:=hM.n1 5
 have l0: ∀k_≤k,∀(cs10_0:List Value) (x10_0:(Bool×Bool×Int×Int×Int×Bool×(Option Ci)×Li×Mo×Li×Li)) (F10_0:List Ent) (gq810_0:Nat) (csq810_0:List Value) (Aq910_0:Option Addr) (nq910_0 cq910_0:Nat) (A12_0:Option Addr) (c12_0:Nat) (x12_0:Li) (x30_0:Int) {W:World} (hM:Mem w W (Gs [⟨.pointer (pa gt5_0),72,0,cs10_0⟩,⟨.pointer (pa gq810_0),100,0,csq810_0⟩,⟨.slice Aq910_0 nq910_0 cq910_0,5,1,nums .u8 x10_0.2.2.2.2.2.2.2.2.2.1⟩,⟨.slice A12_0 x12_0.length c12_0,5,1,nums .u8 x12_0⟩] [F10_0,Ft9,Ft5_0])) (hR10_0:MxA_ctx_Ctx (andZ (Oks F10_0) (andZ (Oks Ft9) (Oks Ft5_0))) (.pointer (pa gq810_0)) (.slice Aq910_0 nq910_0 cq910_0) cs10_0 x10_0) (hq810_0:Rs_modes_Mode (andZ (Oks F10_0) (andZ (Oks Ft9) (Oks Ft5_0))) csq810_0 x10_0.2.2.2.2.2.2.2.2.1) (h:run_Seal.l0 k_ a3 x10_0 x12_0 x30_0=some r),RL 20 f20 (run_Seal.R r w) [1,1,1,1,0,1,0,0] [(10,.pointer (pa gt5_0)),(12,.slice A12_0 x12_0.length c12_0),(28,.slice Ap3 a3.length cp3),(29,.i (a3.length:Int)),(30,.i x30_0)] W:=by
  refine loopI (by intros;rename_i h;simp [run_Seal.l0] at h) fun k hk ih0 cs10_0 x10_0 F10_0 gq810_0 csq810_0 Aq910_0 nq910_0 cq910_0 A12_0 c12_0 x12_0 x30_0 W hM hR10_0 hq810_0 h=> ?_
  simp only [run_Seal.l0] at h
  obtain rfl:=(hM.or 2).ln
  obtain ⟨uo20_0,_,_,_,_,_,rfl,ho20_0,rfl,rfl,⟨Ao20_3,co20_3,rfl,ho20_3⟩,⟨Ao20_4,co20_4,rfl,ho20_4⟩,⟨Ao20_5,co20_5,rfl,ho20_5⟩⟩:=hq810_0
  obtain ⟨_,_,_,_,_,_,uo23_6,_,_,rfl,rfl,rfl,rfl,rfl,rfl,rfl,ho23_6,⟨Ao23_7,co23_7,rfl,ho23_7⟩,⟨Ao23_10,co23_10,rfl,ho23_10⟩⟩:=hR10_0
  refine .gq 5 ?_
  rcases ift h with ⟨c24,h⟩ | ⟨c24,h⟩
  ·refine .kn 31 c24<| .gq 6 ?_
   obtain ⟨c26,h⟩:=ifd h
   obtain ⟨c27,h⟩:=ifd h
   obtain ⟨uq25,huq25,hvq25⟩:=Each2.at hq3 ([]:Li) (i:=x30_0) c26 c27
   obtain ⟨Aq25,cq25,rfl,hq25⟩:=hvq25
   obtain ⟨pq25,Cq25⟩:=(hr3 _ (hZp3 _ hM.kept)).cel c26 c27 huq25
   refine .ix Cq25<| .lc Cq25<| .gq 6 ?_
   have hs30:MxA_ctx_Ctx (andZ (Oks F10_0) (andZ (Oks Ft9) (Oks Ft5_0))) (.pointer (pa gq810_0)) (.slice Aq910_0 x10_0.2.2.2.2.2.2.2.2.2.1.length cq910_0) [.bool x10_0.1,.bool x10_0.2.1,.i x10_0.2.2.1,.i x10_0.2.2.2.1,.i x10_0.2.2.2.2.1,.bool x10_0.2.2.2.2.2.1,uo23_6,.slice Ao23_7 x10_0.2.2.2.2.2.2.2.1.length co23_7,.pointer (pa gq810_0),.slice Aq910_0 x10_0.2.2.2.2.2.2.2.2.2.1.length cq910_0,.slice Ao23_10 x10_0.2.2.2.2.2.2.2.2.2.2.length co23_10] (x10_0.1,x10_0.2.1,x10_0.2.2.1,x10_0.2.2.2.1,x10_0.2.2.2.2.1,x10_0.2.2.2.2.2.1,x10_0.2.2.2.2.2.2.1,x10_0.2.2.2.2.2.2.2.1,(x10_0.2.2.2.2.2.2.2.2.1.1,x10_0.2.2.2.2.2.2.2.2.1.2.1,x10_0.2.2.2.2.2.2.2.2.1.2.2.1,x10_0.2.2.2.2.2.2.2.2.1.2.2.2.1,x10_0.2.2.2.2.2.2.2.2.1.2.2.2.2.1,x10_0.2.2.2.2.2.2.2.2.1.2.2.2.2.2),x10_0.2.2.2.2.2.2.2.2.2.1,x10_0.2.2.2.2.2.2.2.2.2.2):=⟨_,_,_,_,_,_,_,_,_,rfl,rfl,rfl,rfl,rfl,rfl,rfl,(upc _ _ _ _ (fun _ z=>(ai z.1 (ai z.2.1 z.2.2))) ho23_6),(upn (fun _ z=>(ai z.1 (ai z.2.1 z.2.2))) (rno ho23_7 (ai (hM.oks 0) (ai (hM.oks 1) (hM.oks 2))))),(upn (fun _ z=>(ai z.1 (ai z.2.1 z.2.2))) (rno ho23_10 (ai (hM.oks 0) (ai (hM.oks 1) (hM.oks 2)))))⟩
   have hs31:Rs_modes_Mode (andZ (Oks F10_0) (andZ (Oks Ft9) (Oks Ft5_0))) [uo20_0,.i x10_0.2.2.2.2.2.2.2.2.1.2.1,.bool x10_0.2.2.2.2.2.2.2.2.1.2.2.1,.slice Ao20_3 x10_0.2.2.2.2.2.2.2.2.1.2.2.2.1.length co20_3,.slice Ao20_4 x10_0.2.2.2.2.2.2.2.2.1.2.2.2.2.1.length co20_4,.slice Ao20_5 x10_0.2.2.2.2.2.2.2.2.1.2.2.2.2.2.length co20_5] (x10_0.2.2.2.2.2.2.2.2.1.1,x10_0.2.2.2.2.2.2.2.2.1.2.1,x10_0.2.2.2.2.2.2.2.2.1.2.2.1,x10_0.2.2.2.2.2.2.2.2.1.2.2.2.1,x10_0.2.2.2.2.2.2.2.2.1.2.2.2.2.1,x10_0.2.2.2.2.2.2.2.2.1.2.2.2.2.2):=⟨_,_,_,_,_,_,rfl,(upc _ _ _ _ (fun _ z=>(ai z.1 (ai z.2.1 z.2.2))) ho20_0),rfl,rfl,(upn (fun _ z=>(ai z.1 (ai z.2.1 z.2.2))) (rno ho20_3 (ai (hM.oks 0) (ai (hM.oks 1) (hM.oks 2))))),(upn (fun _ z=>(ai z.1 (ai z.2.1 z.2.2))) (rno ho20_4 (ai (hM.oks 0) (ai (hM.oks 1) (hM.oks 2))))),(upn (fun _ z=>(ai z.1 (ai z.2.1 z.2.2))) (rno ho20_5 (ai (hM.oks 0) (ai (hM.oks 1) (hM.oks 2)))))⟩
   obtain ⟨t29,ht29,h⟩:=bs h
   refine .ca (ctx_Ctx_Update.calls (hp0:=hs30) (hq8:=hs31) (hZm:=fun _ hk_ hT_=>(ai (hT_.fg 0 rfl) (ai (hT_.fg 1 rfl) (hT_.fg 2 rfl)))) (hM0:=hM.fm [0,1,2] [3] [0,1,2] rfl rfl rfl) (Zp1:=fun W_=>Rd W_ (.slice Aq25 ((rdr ([]:Li) a3 x30_0).length) cq25) (nums .u8 (rdr ([]:Li) a3 x30_0))) (hr1:=fun _ h_=>h_) (hZp1:=fun _ hk_ hT_=>(hq25 _ (hZp3 _ hk_))) (h:=ht29)) ?_
   rintro _ W28 ⟨A32,c33,cst29,Ft29,gq8t29,csq8t29,Aq9t29,nq9t29,cq9t29,rfl,hRt29,hq8t29,hM_⟩
   have hr35:MxA_ctx_Ctx (andZ (Oks Ft29) (andZ (Oks F10_0) (andZ (Oks Ft9) (Oks Ft5_0)))) (.pointer (pa gq8t29)) (.slice Aq9t29 nq9t29 cq9t29) cst29 t29.2.2:=hRt29
   have hrhr358:Rs_modes_Mode (andZ (Oks Ft29) (andZ (Oks F10_0) (andZ (Oks Ft9) (Oks Ft5_0)))) csq8t29 t29.2.2.2.2.2.2.2.2.2.2.1:=hq8t29
   replace hM:=hM_.uf
   obtain rfl:=(hM_.or 3).ln
   obtain ⟨uo36_0,_,_,_,_,_,rfl,ho36_0,rfl,rfl,⟨Ao36_3,co36_3,rfl,ho36_3⟩,⟨Ao36_4,co36_4,rfl,ho36_4⟩,⟨Ao36_5,co36_5,rfl,ho36_5⟩⟩:=hrhr358
   obtain ⟨_,_,_,_,_,_,uo39_6,_,_,rfl,rfl,rfl,rfl,rfl,rfl,rfl,ho39_6,⟨Ao39_7,co39_7,rfl,ho39_7⟩,⟨Ao39_10,co39_10,rfl,ho39_10⟩⟩:=hr35
   refine .gq 12 ?_
   rcases ift h with ⟨c40,h⟩ | ⟨c40,h⟩
   ·refine .kn 41 c40<| .gq 7 ?_
    replace hM:=hM.n1 5
    obtain rfl:=sj h
    exact .ret func20 ⟨none,0,rfl,(hM.pm [0] [])⟩
   refine .kn 41 c40<| .gq 5 ?_
   obtain ⟨c45,h⟩:=ifd h
   exact .an hM 4 rfl (hM.or 0) c45 fun A42 c43 W44 hM=> .gq 8<| .at (ih0 k (by omega) [.bool t29.2.2.1,.bool t29.2.2.2.1,.i t29.2.2.2.2.1,.i t29.2.2.2.2.2.1,.i t29.2.2.2.2.2.2.1,.bool t29.2.2.2.2.2.2.2.1,uo39_6,.slice Ao39_7 t29.2.2.2.2.2.2.2.2.2.1.length co39_7,.pointer (pa gq8t29),.slice Aq9t29 t29.2.2.2.2.2.2.2.2.2.2.2.1.length cq9t29,.slice Ao39_10 t29.2.2.2.2.2.2.2.2.2.2.2.2.length co39_10] (t29.2.2.1,t29.2.2.2.1,t29.2.2.2.2.1,t29.2.2.2.2.2.1,t29.2.2.2.2.2.2.1,t29.2.2.2.2.2.2.2.1,t29.2.2.2.2.2.2.2.2.1,t29.2.2.2.2.2.2.2.2.2.1,(t29.2.2.2.2.2.2.2.2.2.2.1.1,t29.2.2.2.2.2.2.2.2.2.2.1.2.1,t29.2.2.2.2.2.2.2.2.2.2.1.2.2.1,t29.2.2.2.2.2.2.2.2.2.2.1.2.2.2.1,t29.2.2.2.2.2.2.2.2.2.2.1.2.2.2.2.1,t29.2.2.2.2.2.2.2.2.2.2.1.2.2.2.2.2),t29.2.2.2.2.2.2.2.2.2.2.2.1,t29.2.2.2.2.2.2.2.2.2.2.2.2) (List.flatten [Ft29,F10_0]) gq8t29 [uo36_0,.i t29.2.2.2.2.2.2.2.2.2.2.1.2.1,.bool t29.2.2.2.2.2.2.2.2.2.2.1.2.2.1,.slice Ao36_3 t29.2.2.2.2.2.2.2.2.2.2.1.2.2.2.1.length co36_3,.slice Ao36_4 t29.2.2.2.2.2.2.2.2.2.2.1.2.2.2.2.1.length co36_4,.slice Ao36_5 t29.2.2.2.2.2.2.2.2.2.2.1.2.2.2.2.2.length co36_5] Aq9t29 t29.2.2.2.2.2.2.2.2.2.2.2.1.length cq9t29 A42 c43 (x12_0++t29.1) (I64 (x30_0+1)) (hM.pm [1,2,3,4] [[0,1],[2],[3]]) ⟨_,_,_,_,_,_,_,_,_,rfl,rfl,rfl,rfl,rfl,rfl,rfl,(upc _ _ _ _ (fun _ z=>(ai (Oks.g z.1 0 rfl) (ai (Oks.g z.1 1 rfl) (ai z.2.1 z.2.2)))) ho39_6),(upn (fun _ z=>(ai (Oks.g z.1 0 rfl) (ai (Oks.g z.1 1 rfl) (ai z.2.1 z.2.2)))) (rno ho39_7 (ai (hM.oks 0) (ai (hM.oks 1) (ai (hM.oks 2) (hM.oks 3)))))),(upn (fun _ z=>(ai (Oks.g z.1 0 rfl) (ai (Oks.g z.1 1 rfl) (ai z.2.1 z.2.2)))) (rno ho39_10 (ai (hM.oks 0) (ai (hM.oks 1) (ai (hM.oks 2) (hM.oks 3))))))⟩ ⟨_,_,_,_,_,_,rfl,(upc _ _ _ _ (fun _ z=>(ai (Oks.g z.1 0 rfl) (ai (Oks.g z.1 1 rfl) (ai z.2.1 z.2.2)))) ho36_0),rfl,rfl,(upn (fun _ z=>(ai (Oks.g z.1 0 rfl) (ai (Oks.g z.1 1 rfl) (ai z.2.1 z.2.2)))) (rno ho36_3 (ai (hM.oks 0) (ai (hM.oks 1) (ai (hM.oks 2) (hM.oks 3)))))),(upn (fun _ z=>(ai (Oks.g z.1 0 rfl) (ai (Oks.g z.1 1 rfl) (ai z.2.1 z.2.2)))) (rno ho36_4 (ai (hM.oks 0) (ai (hM.oks 1) (ai (hM.oks 2) (hM.oks 3)))))),(upn (fun _ z=>(ai (Oks.g z.1 0 rfl) (ai (Oks.g z.1 1 rfl) (ai z.2.1 z.2.2)))) (rno ho36_5 (ai (hM.oks 0) (ai (hM.oks 1) (ai (hM.oks 2) (hM.oks 3))))))⟩ h)
  refine .kn 31 c24<| .gq 5 ?_
  have hs49:MxA_ctx_Ctx (andZ (Oks F10_0) (andZ (Oks Ft9) (Oks Ft5_0))) (.pointer (pa gq810_0)) (.slice Aq910_0 x10_0.2.2.2.2.2.2.2.2.2.1.length cq910_0) [.bool x10_0.1,.bool x10_0.2.1,.i x10_0.2.2.1,.i x10_0.2.2.2.1,.i x10_0.2.2.2.2.1,.bool x10_0.2.2.2.2.2.1,uo23_6,.slice Ao23_7 x10_0.2.2.2.2.2.2.2.1.length co23_7,.pointer (pa gq810_0),.slice Aq910_0 x10_0.2.2.2.2.2.2.2.2.2.1.length cq910_0,.slice Ao23_10 x10_0.2.2.2.2.2.2.2.2.2.2.length co23_10] (x10_0.1,x10_0.2.1,x10_0.2.2.1,x10_0.2.2.2.1,x10_0.2.2.2.2.1,x10_0.2.2.2.2.2.1,x10_0.2.2.2.2.2.2.1,x10_0.2.2.2.2.2.2.2.1,(x10_0.2.2.2.2.2.2.2.2.1.1,x10_0.2.2.2.2.2.2.2.2.1.2.1,x10_0.2.2.2.2.2.2.2.2.1.2.2.1,x10_0.2.2.2.2.2.2.2.2.1.2.2.2.1,x10_0.2.2.2.2.2.2.2.2.1.2.2.2.2.1,x10_0.2.2.2.2.2.2.2.2.1.2.2.2.2.2),x10_0.2.2.2.2.2.2.2.2.2.1,x10_0.2.2.2.2.2.2.2.2.2.2):=⟨_,_,_,_,_,_,_,_,_,rfl,rfl,rfl,rfl,rfl,rfl,rfl,(upc _ _ _ _ (fun _ z=>(ai z.1 (ai z.2.1 z.2.2))) ho23_6),(upn (fun _ z=>(ai z.1 (ai z.2.1 z.2.2))) (rno ho23_7 (ai (hM.oks 0) (ai (hM.oks 1) (hM.oks 2))))),(upn (fun _ z=>(ai z.1 (ai z.2.1 z.2.2))) (rno ho23_10 (ai (hM.oks 0) (ai (hM.oks 1) (hM.oks 2)))))⟩
  have hs50:Rs_modes_Mode (andZ (Oks F10_0) (andZ (Oks Ft9) (Oks Ft5_0))) [uo20_0,.i x10_0.2.2.2.2.2.2.2.2.1.2.1,.bool x10_0.2.2.2.2.2.2.2.2.1.2.2.1,.slice Ao20_3 x10_0.2.2.2.2.2.2.2.2.1.2.2.2.1.length co20_3,.slice Ao20_4 x10_0.2.2.2.2.2.2.2.2.1.2.2.2.2.1.length co20_4,.slice Ao20_5 x10_0.2.2.2.2.2.2.2.2.1.2.2.2.2.2.length co20_5] (x10_0.2.2.2.2.2.2.2.2.1.1,x10_0.2.2.2.2.2.2.2.2.1.2.1,x10_0.2.2.2.2.2.2.2.2.1.2.2.1,x10_0.2.2.2.2.2.2.2.2.1.2.2.2.1,x10_0.2.2.2.2.2.2.2.2.1.2.2.2.2.1,x10_0.2.2.2.2.2.2.2.2.1.2.2.2.2.2):=⟨_,_,_,_,_,_,rfl,(upc _ _ _ _ (fun _ z=>(ai z.1 (ai z.2.1 z.2.2))) ho20_0),rfl,rfl,(upn (fun _ z=>(ai z.1 (ai z.2.1 z.2.2))) (rno ho20_3 (ai (hM.oks 0) (ai (hM.oks 1) (hM.oks 2))))),(upn (fun _ z=>(ai z.1 (ai z.2.1 z.2.2))) (rno ho20_4 (ai (hM.oks 0) (ai (hM.oks 1) (hM.oks 2))))),(upn (fun _ z=>(ai z.1 (ai z.2.1 z.2.2))) (rno ho20_5 (ai (hM.oks 0) (ai (hM.oks 1) (hM.oks 2)))))⟩
  obtain ⟨t48,ht48,h⟩:=bs h
  refine .ca (ctx_Ctx_Final.calls (hp0:=hs49) (hq8:=hs50) (hZm:=fun _ hk_ hT_=>(ai (hT_.fg 0 rfl) (ai (hT_.fg 1 rfl) (hT_.fg 2 rfl)))) (hM0:=hM.fm [0,1,2] [3] [0,1,2] rfl rfl rfl) (h:=ht48)) ?_
  rintro _ W47 ⟨A51,c52,cst48,Ft48,gq8t48,csq8t48,rfl,hRt48,hq8t48,hM_⟩
  have hr54:MxB_ctx_Ctx (andZ (Oks Ft48) (andZ (Oks F10_0) (andZ (Oks Ft9) (Oks Ft5_0)))) (.pointer (pa gq8t48)) cst48 t48.2.2:=hRt48
  have hrhr548:Rs_modes_Mode (andZ (Oks Ft48) (andZ (Oks F10_0) (andZ (Oks Ft9) (Oks Ft5_0)))) csq8t48 t48.2.2.2.2.2.2.2.2.2.2.1:=hq8t48
  replace hM:=hM_.uf
  obtain ⟨uo55_0,_,_,_,_,_,rfl,ho55_0,rfl,rfl,⟨Ao55_3,co55_3,rfl,ho55_3⟩,⟨Ao55_4,co55_4,rfl,ho55_4⟩,⟨Ao55_5,co55_5,rfl,ho55_5⟩⟩:=hrhr548
  obtain ⟨_,_,_,_,_,_,uo57_6,_,_,_,rfl,rfl,rfl,rfl,rfl,rfl,rfl,ho57_6,⟨Ao57_7,co57_7,rfl,ho57_7⟩,⟨Ao57_9,co57_9,rfl,ho57_9⟩,⟨Ao57_10,co57_10,rfl,ho57_10⟩⟩:=hr54
  refine .gq 12 ?_
  rcases ift h with ⟨c58,h⟩ | ⟨c58,h⟩
  ·refine .kn 53 c58<| .gq 7 ?_
   replace hM:=hM.n1 5
   obtain rfl:=sj h
   exact .ret func20 ⟨none,0,rfl,(hM.pm [0] [])⟩
  refine .kn 53 c58<| .gq 6 ?_
  obtain ⟨Fq60,hfq60,hM⟩:=hM.fs 3
  obtain ⟨Fq61,hfq61,hM⟩:=hM.fs 0
  have hqq62:Each2 ((rNums .u8) (andZ (Oks Fq60) (Oks Fq61))) [.slice A12_0 x12_0.length c12_0,.slice A51 t48.1.length c52] ([x12_0,t48.1]:Lj):=(.cons (rno (RdF.up hfq60 (fun _ z=>z.1)) (ai (hM.oks 1) (hM.oks 0))) (.cons (rno (RdF.up hfq61 (fun _ z=>z.2)) (ai (hM.oks 1) (hM.oks 0))) (Each2.nil _)))
  refine .new 22 1 2 ([.slice A12_0 x12_0.length c12_0,.slice A51 t48.1.length c52]) hM (fun g63 W64 hM=> ?_) rfl
  obtain ⟨Fq66,hfq66,hM⟩:=hM.fs 0
  obtain ⟨t68,ht68,h⟩:=bs h
  refine .ca (slices_Concat_byte_byte.calls ⟨_,_,_,rfl,(hfq66.up (fun _ z=>z.1)),(Each2.up (up_nums .u8) hqq62 (fun _ z=>(ai z.2.1 z.2.2)))⟩ (fun _ z=>(ai ((hM.oks 0).kept z) (ai ((hM.oks 2).kept z) ((hM.oks 1).kept z)))) ht68) ?_
  rintro _ W67 ⟨A69,c70,rfl,hM_⟩
  replace hM:=hM.cg hM_
  refine .gq 3 ?_
  obtain rfl:=sj h
  exact .ret func20 ⟨A69,c70,rfl,(hM.pm [0] [])⟩
 exact .at (l0 k k.le_refl [.bool t9.2.1,.bool t9.2.2.1,.i t9.2.2.2.1,.i t9.2.2.2.2.1,.i t9.2.2.2.2.2.1,.bool t9.2.2.2.2.2.2.1,uo15_6,.slice Ao15_7 t9.2.2.2.2.2.2.2.2.1.length co15_7,.pointer (pa gq8t9),.slice Aq9t9 t9.2.2.2.2.2.2.2.2.2.2.1.length cq9t9,.slice Ao15_10 t9.2.2.2.2.2.2.2.2.2.2.2.length co15_10] (t9.2.1,t9.2.2.1,t9.2.2.2.1,t9.2.2.2.2.1,t9.2.2.2.2.2.1,t9.2.2.2.2.2.2.1,t9.2.2.2.2.2.2.2.1,t9.2.2.2.2.2.2.2.2.1,(t9.2.2.2.2.2.2.2.2.2.1.1,t9.2.2.2.2.2.2.2.2.2.1.2.1,t9.2.2.2.2.2.2.2.2.2.1.2.2.1,t9.2.2.2.2.2.2.2.2.2.1.2.2.2.1,t9.2.2.2.2.2.2.2.2.2.1.2.2.2.2.1,t9.2.2.2.2.2.2.2.2.2.1.2.2.2.2.2),t9.2.2.2.2.2.2.2.2.2.2.1,t9.2.2.2.2.2.2.2.2.2.2.2) ([]:List Ent) gq8t9 [uo12_0,.i t9.2.2.2.2.2.2.2.2.2.1.2.1,.bool t9.2.2.2.2.2.2.2.2.2.1.2.2.1,.slice Ao12_3 t9.2.2.2.2.2.2.2.2.2.1.2.2.2.1.length co12_3,.slice Ao12_4 t9.2.2.2.2.2.2.2.2.2.1.2.2.2.2.1.length co12_4,.slice Ao12_5 t9.2.2.2.2.2.2.2.2.2.1.2.2.2.2.2.length co12_5] Aq9t9 t9.2.2.2.2.2.2.2.2.2.2.1.length cq9t9 none 0 ([]:Li) 0 (hM.pm [1,2,3,0] [[],[0],[1]]) ⟨_,_,_,_,_,_,_,_,_,rfl,rfl,rfl,rfl,rfl,rfl,rfl,(upc _ _ _ _ (fun _ z=>(ai z.2.1 z.2.2)) ho15_6),(upn (fun _ z=>(ai z.2.1 z.2.2)) (rno ho15_7 (ai (hM.oks 0) (hM.oks 1)))),(upn (fun _ z=>(ai z.2.1 z.2.2)) (rno ho15_10 (ai (hM.oks 0) (hM.oks 1))))⟩ ⟨_,_,_,_,_,_,rfl,(upc _ _ _ _ (fun _ z=>(ai z.2.1 z.2.2)) ho12_0),rfl,rfl,(upn (fun _ z=>(ai z.2.1 z.2.2)) (rno ho12_3 (ai (hM.oks 0) (hM.oks 1)))),(upn (fun _ z=>(ai z.2.1 z.2.2)) (rno ho12_4 (ai (hM.oks 0) (hM.oks 1)))),(upn (fun _ z=>(ai z.2.1 z.2.2)) (rno ho12_5 (ai (hM.oks 0) (hM.oks 1))))⟩ h)
end Go.Scr.S

namespace Go.Scr.S
variable {k np0 cp0 np1 cp1 np2 cp2 np3 cp3 np4 cp4:Nat} {Ap0 Ap1 Ap2 Ap3 Ap4:Option Addr} {w w0:World} {FT:List Ent} {Zm Zp0 Zp1 Zp2 Zp3:Zp}
open Go.RowKit (Below)
open Go.Proofs.Tryz (prog f13 func13 f16 func16 f17 func17 f46 func46 f53 func53 f54 func54 f55 func55)
def scrimlaw12_within.f (k:Nat) (a0:Int) (a1:Int):Option (Int):=if (decide (a1=0))=true then (none) else (if (decide ((Int.tmod a0 a1)<0))=true then (some (I64 ((Int.tmod a0 a1)+a1))) else (some (Int.tmod a0 a1)))
theorem scrimlaw12_within.calls {a0:Int} {a1:Int} {r:Int} (h:scrimlaw12_within.f k a0 a1=some r):Calls prog 46 #[.i a0,.i a1] w (Ret fun v w'=>v= .i r∧Mem w w' (Gs [] [])):=by
 unfold scrimlaw12_within.f at h
 refine calls_S func46 ?_
 have hM:=Mem.r0 w
 refine .gq 8 ?_
 obtain ⟨c1,h⟩:=ifn h
 refine .yt (yl_rem (kd:= .i64) a0 c1)<| .gq 8 ?_
 rcases ift h with ⟨c2,h⟩ | ⟨c2,h⟩
 ·refine .kn 10 c2<| .gq 12 ?_
  obtain rfl:=sj h
  exact .ret func46 ⟨rfl,(hM.pm [] [])⟩
 refine .kn 10 c2<| .gq 7 ?_
 obtain rfl:=sj h
 exact .ret func46 ⟨rfl,(hM.pm [] [])⟩
def scrimlaw12_Cut.l0:Nat→Li→Li→Lj→Int→Option Lj
 | 0,_,_,_,_=>none
 | k+1,a1,x0_0,x5_0,x6_0=>if (decide (x6_0<(a1.length:Int)))=true then (if (decide (x6_0<40))=true then (gd (0≤x6_0) (gd (x6_0<(a1.length:Int)) ((scrimlaw12_within.f k (rd a1 x6_0) 40).bind fun t9=>(gd (0≤x6_0) (gd (x6_0<(a1.length:Int)) ((scrimlaw12_within.f k (I64 (Int.tdiv (rd a1 x6_0) 40)) 3).bind fun t14=>(if (t14==0)=true then (gd (0≤x6_0) (gd (x6_0<(a1.length:Int)) ((scrimlaw12_within.f k (rd a1 x6_0) 5).bind fun t20=>(gd (0≤(mn (I64 (8*t20)) (x0_0.length:Int))) (gd ((mn (I64 (8*t20)) (x0_0.length:Int))≤(x0_0.length:Int)) (gd (0≤(mn (I64 (8*t20)) (x0_0.length:Int))) (gd ((mn (I64 (8*t20)) (x0_0.length:Int))≤(x0_0.length:Int)) (gd (x5_0.length+([((x0_0.take (mn (I64 (8*t20)) (x0_0.length:Int):Int).toNat).drop (0:Int).toNat)]:Lj).length≤1000000000) (scrimlaw12_Cut.l0 k a1 ((x0_0.take ((x0_0.length:Int):Int).toNat).drop (mn (I64 (8*t20)) (x0_0.length:Int):Int).toNat) (x5_0++([((x0_0.take (mn (I64 (8*t20)) (x0_0.length:Int):Int).toNat).drop (0:Int).toNat)]:Lj)) (I64 (x6_0+1))))))))))) else (gd (0≤(mn t9 (x0_0.length:Int))) (gd ((mn t9 (x0_0.length:Int))≤(x0_0.length:Int)) (gd (0≤(mn t9 (x0_0.length:Int))) (gd ((mn t9 (x0_0.length:Int))≤(x0_0.length:Int)) (gd (x5_0.length+([((x0_0.take (mn t9 (x0_0.length:Int):Int).toNat).drop (0:Int).toNat)]:Lj).length≤1000000000) (scrimlaw12_Cut.l0 k a1 ((x0_0.take ((x0_0.length:Int):Int).toNat).drop (mn t9 (x0_0.length:Int):Int).toNat) (x5_0++([((x0_0.take (mn t9 (x0_0.length:Int):Int).toNat).drop (0:Int).toNat)]:Lj)) (I64 (x6_0+1))))))))))))))) else (gd (x5_0.length+([x0_0]:Lj).length≤1000000000) (some (x5_0++([x0_0]:Lj))))) else (gd (x5_0.length+([x0_0]:Lj).length≤1000000000) (some (x5_0++([x0_0]:Lj))))
def scrimlaw12_Cut.f (k:Nat) (a0:Li) (a1:Li):Option Lj:=scrimlaw12_Cut.l0 k a1 a0 ([]:Lj) 0
abbrev scrimlaw12_Cut.R (Zp0:Zp) (r:Lj) (w:World):Value→World→Prop:=fun v w'=> ∃(v0':Value) (F0':List Ent),v=v0'∧(rRows (rNums .u8)) (andZ (Oks F0') Zp0) v0' r∧Mem w w' (Gs [] [F0'])
theorem scrimlaw12_Cut.calls {a0:Li} {a1:Li} {r:Lj} (hr1:Rd w (.slice Ap1 np1 cp1) (nums .i64 a1)) (hr0:RdF Zp0 (.slice Ap0 np0 cp0) (nums .u8 a0)) (hZp0: ∀W,Kept w W→Zp0 W) (h:scrimlaw12_Cut.f k a0 a1=some r):Calls prog 13 #[(.slice Ap0 np0 cp0),(.slice Ap1 np1 cp1)] w (Ret (scrimlaw12_Cut.R Zp0 r w)):=by
 obtain rfl:=(hr0 _ (hZp0 _ (Kept.refl w))).ln
 obtain rfl:=hr1.ln
 unfold scrimlaw12_Cut.f at h
 refine calls_S func13 ?_
 have hM:=Mem.r0 w
 refine .gq 15 ?_
 replace hM:=hM.n1 22
 have l0: ∀k_≤k,∀(A0_0:Option Addr) (c0_0:Nat) (x0_0:Li) (A5_0:Option Addr) (c5_0:Nat) (cs5_0:List Value) (x5_0:Lj) (F5_0:List Ent) (x6_0:Int) {W:World} (hM:Mem w W (Gs [⟨.slice A5_0 x5_0.length c5_0,22,1,cs5_0⟩] [F5_0])) (hrx0_0:RdF Zp0 (.slice A0_0 x0_0.length c0_0) (nums .u8 x0_0)) (hq5_0:Each2 ((rNums .u8) (andZ (Oks F5_0) Zp0)) cs5_0 x5_0) (h:scrimlaw12_Cut.l0 k_ a1 x0_0 x5_0 x6_0=some r),RL 13 f13 (scrimlaw12_Cut.R Zp0 r w) [1,1,0,1,0,0] [(0,.slice A0_0 x0_0.length c0_0),(1,.slice Ap1 a1.length cp1),(5,.slice A5_0 x5_0.length c5_0),(6,.i x6_0)] W:=by
  refine loopI (by intros;rename_i h;simp [scrimlaw12_Cut.l0] at h) fun k hk ih0 A0_0 c0_0 x0_0 A5_0 c5_0 cs5_0 x5_0 F5_0 x6_0 W hM hrx0_0 hq5_0 h=> ?_
  simp only [scrimlaw12_Cut.l0] at h
  refine .gq 8 ?_
  rcases ift h with ⟨c3,h⟩ | ⟨c3,h⟩
  ·refine .kn 12 c3<| .gq 4 ?_
   rcases ift h with ⟨c4,h⟩ | ⟨c4,h⟩
   ·refine .kn 15 c4<| .gq 8 ?_
    obtain ⟨c6,h⟩:=ifd h
    obtain ⟨c7,h⟩:=ifd h
    obtain ⟨pq5,Cq5⟩:=(hr1.mono hM.below).na c6 c7
    refine .ix Cq5<| .lc Cq5 ?_
    obtain ⟨t9,ht9,h⟩:=bs h
    refine .ca (scrimlaw12_within.calls ht9) ?_
    rintro _ W8 ⟨rfl,hM_⟩
    replace hM:=hM.cg hM_
    refine .gq 7 ?_
    obtain ⟨c11,h⟩:=ifd h
    obtain ⟨c12,h⟩:=ifd h
    obtain ⟨pq10,Cq10⟩:=(hr1.mono hM.below).na c11 c12
    refine .ix Cq10<| .lc Cq10<| .gq 1 ?_
    obtain ⟨t14,ht14,h⟩:=bs h
    refine .ca (scrimlaw12_within.calls ht14) ?_
    rintro _ W13 ⟨rfl,hM_⟩
    replace hM:=hM.cg hM_
    refine .gq 2 ?_
    rcases ift h with ⟨c15,h⟩ | ⟨c15,h⟩
    ·refine .kn 29 c15<| .gq 4 ?_
     obtain ⟨c17,h⟩:=ifd h
     obtain ⟨c18,h⟩:=ifd h
     obtain ⟨pq16,Cq16⟩:=(hr1.mono hM.below).na c17 c18
     refine .ix Cq16<| .lc Cq16 ?_
     obtain ⟨t20,ht20,h⟩:=bs h
     refine .ca (scrimlaw12_within.calls ht20) ?_
     rintro _ W19 ⟨rfl,hM_⟩
     replace hM:=hM.cg hM_
     refine .gq 11<| .at (show RL 13 f13 (scrimlaw12_Cut.R Zp0 r w) [1,1,0,1,0,0,1,0,0,1,1,1] [(0,.slice A0_0 x0_0.length c0_0),(1,.slice Ap1 a1.length cp1),(5,.slice A5_0 x5_0.length c5_0),(6,.i x6_0),(7,.i (mn (I64 (8*t20)) (x0_0.length:Int)))] _ from .dr [0] hM fun W21 hM=> ?_)
     refine .pz tr [0,1,2] ?_
     obtain ⟨c22,h⟩:=ifd h
     obtain ⟨c23,h⟩:=ifd h
     refine .ct tr 3 0 (mn (I64 (8*t20)) (x0_0.length:Int)) (hrx0_0 _ (hZp0 _ hM.kept)) fun A24 c25 hs26=> .pz tr [6,7] ?_
     obtain ⟨c27,h⟩:=ifd h
     obtain ⟨c28,h⟩:=ifd h
     refine .ct tr 8 (mn (I64 (8*t20)) (x0_0.length:Int)) (x0_0.length:Int) (hrx0_0 _ (hZp0 _ hM.kept)) fun A29 c30 hs31=> ?_
     have hqq32:Each2 ((rNums .u8) Zp0) [.slice A24 (((x0_0.take (mn (I64 (8*t20)) (x0_0.length:Int):Int).toNat).drop (0:Int).toNat).length) c25] ([((x0_0.take (mn (I64 (8*t20)) (x0_0.length:Int):Int).toNat).drop (0:Int).toNat)]:Lj):=(.cons (rno (fun _ z=>hs26 _ (hrx0_0 _ z)) (hZp0 _ hM.kept)) (Each2.nil _))
     refine .a1 tr 4<| .new 22 1 1 ([.slice A24 (((x0_0.take (mn (I64 (8*t20)) (x0_0.length:Int):Int).toNat).drop (0:Int).toNat).length) c25]) hM [1] (fun g33 W34 hM=> ?_) rfl
     obtain ⟨c40,h⟩:=ifd h
     have hq39:Each2 ((rNums .u8) (andZ (Oks F5_0) Zp0)) (cs5_0++[.slice A24 (((x0_0.take (mn (I64 (8*t20)) (x0_0.length:Int):Int).toNat).drop (0:Int).toNat).length) c25]) (x5_0++([((x0_0.take (mn (I64 (8*t20)) (x0_0.length:Int):Int).toNat).drop (0:Int).toNat)]:Lj)):=Each2.append hq5_0 (Each2.up (up_nums .u8) hqq32 (fun _ z=>z.2))
     refine .a1 tr 5<| .ar hM 1 rfl (hM.or 0) (one_rows hqq32) (by first | omega | (simp at c40 ⊢;omega)) [1] fun A36 c37 W38 hM=> ?_
     rw [hq39.1] at hM ⊢
     exact .pz tr [9,10]<| .dn tr<| .gq 7<| .at (ih0 k (by omega) A29 c30 ((x0_0.take ((x0_0.length:Int):Int).toNat).drop (mn (I64 (8*t20)) (x0_0.length:Int):Int).toNat) A36 c37 (cs5_0++[.slice A24 (((x0_0.take (mn (I64 (8*t20)) (x0_0.length:Int):Int).toNat).drop (0:Int).toNat).length) c25]) (x5_0++([((x0_0.take (mn (I64 (8*t20)) (x0_0.length:Int):Int).toNat).drop (0:Int).toNat)]:Lj)) F5_0 (I64 (x6_0+1)) (hM.pm [1] [[0]]) (fun _ z=>hs31 _ (hrx0_0 _ z)) (Each2.up (up_nums .u8) hq39 (fun _ z=>(ai z.1 z.2))) h)
    refine .kn 29 c15<| .gq 10<| .at (show RL 13 f13 (scrimlaw12_Cut.R Zp0 r w) [1,1,0,1,0,0,1,0,0,1,1,1] [(0,.slice A0_0 x0_0.length c0_0),(1,.slice Ap1 a1.length cp1),(5,.slice A5_0 x5_0.length c5_0),(6,.i x6_0),(7,.i (mn t9 (x0_0.length:Int)))] _ from .dr [0] hM fun W42 hM=> ?_)
    refine .pz tr [0,1,2] ?_
    obtain ⟨c43,h⟩:=ifd h
    obtain ⟨c44,h⟩:=ifd h
    refine .ct tr 3 0 (mn t9 (x0_0.length:Int)) (hrx0_0 _ (hZp0 _ hM.kept)) fun A45 c46 hs47=> .pz tr [6,7] ?_
    obtain ⟨c48,h⟩:=ifd h
    obtain ⟨c49,h⟩:=ifd h
    refine .ct tr 8 (mn t9 (x0_0.length:Int)) (x0_0.length:Int) (hrx0_0 _ (hZp0 _ hM.kept)) fun A50 c51 hs52=> ?_
    have hqq53:Each2 ((rNums .u8) Zp0) [.slice A45 (((x0_0.take (mn t9 (x0_0.length:Int):Int).toNat).drop (0:Int).toNat).length) c46] ([((x0_0.take (mn t9 (x0_0.length:Int):Int).toNat).drop (0:Int).toNat)]:Lj):=(.cons (rno (fun _ z=>hs47 _ (hrx0_0 _ z)) (hZp0 _ hM.kept)) (Each2.nil _))
    refine .a1 tr 4<| .new 22 1 1 ([.slice A45 (((x0_0.take (mn t9 (x0_0.length:Int):Int).toNat).drop (0:Int).toNat).length) c46]) hM [1] (fun g54 W55 hM=> ?_) rfl
    obtain ⟨c61,h⟩:=ifd h
    have hq60:Each2 ((rNums .u8) (andZ (Oks F5_0) Zp0)) (cs5_0++[.slice A45 (((x0_0.take (mn t9 (x0_0.length:Int):Int).toNat).drop (0:Int).toNat).length) c46]) (x5_0++([((x0_0.take (mn t9 (x0_0.length:Int):Int).toNat).drop (0:Int).toNat)]:Lj)):=Each2.append hq5_0 (Each2.up (up_nums .u8) hqq53 (fun _ z=>z.2))
    refine .a1 tr 5<| .ar hM 1 rfl (hM.or 0) (one_rows hqq53) (by first | omega | (simp at c61 ⊢;omega)) [1] fun A57 c58 W59 hM=> ?_
    rw [hq60.1] at hM ⊢
    exact .pz tr [9,10]<| .dn tr<| .gq 7<| .at (ih0 k (by omega) A50 c51 ((x0_0.take ((x0_0.length:Int):Int).toNat).drop (mn t9 (x0_0.length:Int):Int).toNat) A57 c58 (cs5_0++[.slice A45 (((x0_0.take (mn t9 (x0_0.length:Int):Int).toNat).drop (0:Int).toNat).length) c46]) (x5_0++([((x0_0.take (mn t9 (x0_0.length:Int):Int).toNat).drop (0:Int).toNat)]:Lj)) F5_0 (I64 (x6_0+1)) (hM.pm [1] [[0]]) (fun _ z=>hs52 _ (hrx0_0 _ z)) (Each2.up (up_nums .u8) hq60 (fun _ z=>(ai z.1 z.2))) h)
   refine .kn 15 c4<| .gq 6 ?_
   have hqq63:Each2 ((rNums .u8) Zp0) [.slice A0_0 x0_0.length c0_0] ([x0_0]:Lj):=(.cons (rno hrx0_0 (hZp0 _ hM.kept)) (Each2.nil _))
   refine .new 22 1 1 ([.slice A0_0 x0_0.length c0_0]) hM (fun g64 W65 hM=> ?_) rfl
   obtain ⟨c71,h⟩:=ifd h
   have hq70:Each2 ((rNums .u8) (andZ (Oks F5_0) Zp0)) (cs5_0++[.slice A0_0 x0_0.length c0_0]) (x5_0++([x0_0]:Lj)):=Each2.append hq5_0 (Each2.up (up_nums .u8) hqq63 (fun _ z=>z.2))
   refine .ar hM 1 rfl (hM.or 0) (one_rows hqq63) (by first | omega | (simp at c71 ⊢;omega)) fun A67 c68 W69 hM=> ?_
   rw [hq70.1] at hM ⊢
   refine .gq 2 ?_
   obtain ⟨Fq73,hfq73,hM⟩:=hM.fs 1
   obtain rfl:=sj h
   exact .ret func13 ⟨.slice A67 ((x5_0++([x0_0]:Lj)).length) c68,(List.flatten [Fq73,F5_0]),rfl,(up_rows (up_nums .u8)) _ _ _ _ (fun _ z=>(ai (Oks.g z.1 0 rfl) (ai (Oks.g z.1 1 rfl) z.2))) ⟨_,_,_,rfl,(hfq73.up (fun _ z=>z.1)),(Each2.up (up_nums .u8) hq70 (fun _ z=>(ai z.2.1 z.2.2)))⟩,(hM.pm [] [[0,1]])⟩
  refine .kn 12 c3<| .gq 10 ?_
  have hqq74:Each2 ((rNums .u8) Zp0) [.slice A0_0 x0_0.length c0_0] ([x0_0]:Lj):=(.cons (rno hrx0_0 (hZp0 _ hM.kept)) (Each2.nil _))
  refine .new 22 1 1 ([.slice A0_0 x0_0.length c0_0]) hM (fun g75 W76 hM=> ?_) rfl
  obtain ⟨c82,h⟩:=ifd h
  have hq81:Each2 ((rNums .u8) (andZ (Oks F5_0) Zp0)) (cs5_0++[.slice A0_0 x0_0.length c0_0]) (x5_0++([x0_0]:Lj)):=Each2.append hq5_0 (Each2.up (up_nums .u8) hqq74 (fun _ z=>z.2))
  refine .ar hM 1 rfl (hM.or 0) (one_rows hqq74) (by first | omega | (simp at c82 ⊢;omega)) fun A78 c79 W80 hM=> ?_
  rw [hq81.1] at hM ⊢
  refine .gq 2 ?_
  obtain ⟨Fq84,hfq84,hM⟩:=hM.fs 1
  obtain rfl:=sj h
  exact .ret func13 ⟨.slice A78 ((x5_0++([x0_0]:Lj)).length) c79,(List.flatten [Fq84,F5_0]),rfl,(up_rows (up_nums .u8)) _ _ _ _ (fun _ z=>(ai (Oks.g z.1 0 rfl) (ai (Oks.g z.1 1 rfl) z.2))) ⟨_,_,_,rfl,(hfq84.up (fun _ z=>z.1)),(Each2.up (up_nums .u8) hq81 (fun _ z=>(ai z.2.1 z.2.2)))⟩,(hM.pm [] [[0,1]])⟩
 exact .at (l0 k k.le_refl Ap0 cp0 a0 none 0 [] ([]:Lj) ([]:List Ent) 0 (hM.pm [0] [[]]) hr0 (Each2.up (up_nums .u8) ((Each2.nil _):Each2 ((rNums .u8) (Oks [])) [] ([]:Lj)) (fun _ z=>(Oks.nil _))) h)
def scrimlaw11_within.f (k:Nat) (a0:Int) (a1:Int):Option (Int):=if (decide (a1=0))=true then (none) else (if (decide ((Int.tmod a0 a1)<0))=true then (some (I64 ((Int.tmod a0 a1)+a1))) else (some (Int.tmod a0 a1)))
theorem scrimlaw11_within.calls {a0:Int} {a1:Int} {r:Int} (h:scrimlaw11_within.f k a0 a1=some r):Calls prog 53 #[.i a0,.i a1] w (Ret fun v w'=>v= .i r∧Mem w w' (Gs [] [])):=by
 unfold scrimlaw11_within.f at h
 refine calls_S func53 ?_
 have hM:=Mem.r0 w
 refine .gq 8 ?_
 obtain ⟨c1,h⟩:=ifn h
 refine .yt (yl_rem (kd:= .i64) a0 c1)<| .gq 8 ?_
 rcases ift h with ⟨c2,h⟩ | ⟨c2,h⟩
 ·refine .kn 10 c2<| .gq 12 ?_
  obtain rfl:=sj h
  exact .ret func53 ⟨rfl,(hM.pm [] [])⟩
 refine .kn 10 c2<| .gq 7 ?_
 obtain rfl:=sj h
 exact .ret func53 ⟨rfl,(hM.pm [] [])⟩
def scrimref11_Lengths.f (k:Nat) (a0:Int):Option Li:=if (a0==1)=true then (some ([8]:Li)) else (if (a0==2)=true then (some ([16,24]:Li)) else (if (a0==3)=true then (some ([16]:Li)) else (if (a0==4)=true then (some ([16]:Li)) else (if (a0==8)=true then (some ([16]:Li)) else (if (a0==5)=true then (some ([32]:Li)) else (if (a0==6)=true then (some ([16,24,32]:Li)) else (if (a0==7)=true then (some ([16,24,32]:Li)) else (some ([]:Li)))))))))
theorem scrimref11_Lengths.calls {a0:Int} {r:Li} (h:scrimref11_Lengths.f k a0=some r):Calls prog 54 #[.i a0] w (Ret fun v w'=> ∃A0' c0',v= .slice A0' r.length c0'∧Mem w w' (Gs [⟨.slice A0' r.length c0',3,1,nums .i64 r⟩] [])):=by
 unfold scrimref11_Lengths.f at h
 refine calls_S func54 ?_
 have hM:=Mem.r0 w
 refine .gq 15 ?_
 rcases ift h with ⟨c1,h⟩ | ⟨c1,h⟩
 ·refine .kn 4 c1<| .gq 3<| .new 3 1 1 (nums .i64 [8]) hM fun g2 W3 hM=> .gq 2 ?_
  obtain rfl:=sj h
  exact .ret func54 ⟨(pa g2),1,rfl,(hM.pm [0] [])⟩
 refine .kn 4 c1<| .gq 6 ?_
 rcases ift h with ⟨c5,h⟩ | ⟨c5,h⟩
 ·refine .kn 7 c5<| .gq 3<| .new 3 1 2 (nums .i64 [16,24]) hM fun g6 W7 hM=> .gq 2 ?_
  obtain rfl:=sj h
  exact .ret func54 ⟨(pa g6),2,rfl,(hM.pm [0] [])⟩
 refine .kn 7 c5<| .gq 7 ?_
 rcases ift h with ⟨c9,h⟩ | ⟨c9,h⟩
 ·refine .kn 10 c9<| .gq 5<| .new 3 1 1 (nums .i64 [16]) hM fun g10 W11 hM=> .gq 2 ?_
  obtain rfl:=sj h
  exact .ret func54 ⟨(pa g10),1,rfl,(hM.pm [0] [])⟩
 refine .kn 10 c9<| .gq 6 ?_
 rcases ift h with ⟨c13,h⟩ | ⟨c13,h⟩
 ·refine .kn 10 c13<| .gq 5<| .new 3 1 1 (nums .i64 [16]) hM fun g14 W15 hM=> .gq 2 ?_
  obtain rfl:=sj h
  exact .ret func54 ⟨(pa g14),1,rfl,(hM.pm [0] [])⟩
 refine .kn 10 c13<| .gq 5 ?_
 rcases ift h with ⟨c17,h⟩ | ⟨c17,h⟩
 ·refine .kn 10 c17<| .gq 3<| .new 3 1 1 (nums .i64 [16]) hM fun g18 W19 hM=> .gq 2 ?_
  obtain rfl:=sj h
  exact .ret func54 ⟨(pa g18),1,rfl,(hM.pm [0] [])⟩
 refine .kn 10 c17<| .gq 6 ?_
 rcases ift h with ⟨c21,h⟩ | ⟨c21,h⟩
 ·refine .kn 15 c21<| .gq 3<| .new 3 1 1 (nums .i64 [32]) hM fun g22 W23 hM=> .gq 2 ?_
  obtain rfl:=sj h
  exact .ret func54 ⟨(pa g22),1,rfl,(hM.pm [0] [])⟩
 refine .kn 15 c21<| .gq 7 ?_
 rcases ift h with ⟨c25,h⟩ | ⟨c25,h⟩
 ·refine .kn 18 c25<| .gq 5<| .new 3 1 3 (nums .i64 [16,24,32]) hM fun g26 W27 hM=> .gq 2 ?_
  obtain rfl:=sj h
  exact .ret func54 ⟨(pa g26),3,rfl,(hM.pm [0] [])⟩
 refine .kn 18 c25<| .gq 5 ?_
 rcases ift h with ⟨c29,h⟩ | ⟨c29,h⟩
 ·refine .kn 18 c29<| .gq 3<| .new 3 1 3 (nums .i64 [16,24,32]) hM fun g30 W31 hM=> .gq 2 ?_
  obtain rfl:=sj h
  exact .ret func54 ⟨(pa g30),3,rfl,(hM.pm [0] [])⟩
 refine .kn 18 c29<| .gq 7 ?_
 replace hM:=hM.n1 3
 obtain rfl:=sj h
 exact .ret func54 ⟨none,0,rfl,(hM.pm [0] [])⟩
def scrimlaw11_Bytes.l0:Nat→Int→Li→Int→Option Li
 | 0,_,_,_=>none
 | k+1,a0,x5_0,x6_0=>if (decide (x6_0<a0))=true then (gd (0≤x6_0) (gd (x6_0<((a0:Int).toNat:Int)) (scrimlaw11_Bytes.l0 k a0 (x5_0.set (x6_0:Int).toNat (U8 (I64 (x6_0*37)))) (I64 (x6_0+1))))) else (some x5_0)
def scrimlaw11_Bytes.f (k:Nat) (a0:Int) (a1:Li):Option Li:=gd (0≤a0) (gd (a0≤1000000000) (scrimlaw11_Bytes.l0 k a0 (a1.take (List.replicate ((a0:Int).toNat) (0:Int)).length++(List.replicate ((a0:Int).toNat) (0:Int)).drop a1.length) (a1.length:Int)))
abbrev scrimlaw11_Bytes.R (r:Li) (w:World):Value→World→Prop:=fun v w'=> ∃A0' c0',v= .slice A0' r.length c0'∧Mem w w' (Gs [⟨.slice A0' r.length c0',5,1,nums .u8 r⟩] [])
theorem scrimlaw11_Bytes.calls {a0:Int} {a1:Li} {r:Li} (hr1:Rd w (.slice Ap1 np1 cp1) (nums .u8 a1)) (h:scrimlaw11_Bytes.f k a0 a1=some r):Calls prog 55 #[.i a0,(.slice Ap1 np1 cp1)] w (Ret (scrimlaw11_Bytes.R r w)):=by
 obtain rfl:=hr1.ln
 unfold scrimlaw11_Bytes.f at h
 refine calls_S func55 ?_
 have hM:=Mem.r0 w
 refine .gq 7 ?_
 obtain ⟨c3,h⟩:=ifd h
 obtain ⟨c4,h⟩:=ifd h
 refine .mn 5 .u8 a0 a0 hM fun g2 W1 hM=> .gq 6<| .cn hM 0 rfl (hr1.mono hM.below) fun W6 hM=> .gq 10 ?_
 have l0: ∀k_≤k,∀(x5_0:Li) (x6_0:Int) {W:World} (hM:Mem w W (Gs [⟨.slice (pa g2) ((a0:Int).toNat) ((a0:Int).toNat),5,1,nums .u8 x5_0⟩] [])) (h:scrimlaw11_Bytes.l0 k_ a0 x5_0 x6_0=some r),RL 55 f55 (scrimlaw11_Bytes.R r w) [1,1,1,0,1,0,0] [(0,.i a0),(5,.slice (pa g2) ((a0:Int).toNat) ((a0:Int).toNat)),(6,.i x6_0)] W:=by
  refine loopI (by intros;rename_i h;simp [scrimlaw11_Bytes.l0] at h) fun k hk ih0 x5_0 x6_0 W hM h=> ?_
  simp only [scrimlaw11_Bytes.l0] at h
  refine .gq 7 ?_
  rcases ift h with ⟨c7,h⟩ | ⟨c7,h⟩
  ·refine .kn 16 c7<| .gq 10 ?_
   obtain ⟨c9,h⟩:=ifd h
   obtain ⟨c10,h⟩:=ifd h
   obtain ⟨pq8,Cq8⟩:=hM.na 0 rfl c9 c10
   exact .ix Cq8<| .sn (U8 (I64 (x6_0*37))) Cq8 hM 0 rfl fun W11 hM=> .gq 8<| .at (ih0 k (by omega) (x5_0.set (x6_0:Int).toNat (U8 (I64 (x6_0*37)))) (I64 (x6_0+1)) (hM.pm [0] []) h)
  refine .kn 16 c7<| .gq 7 ?_
  obtain rfl:=sj h
  have hn0_:=(hM.or 0).ln
  exact .ret (v:= .slice (pa g2) ((a0:Int).toNat) ((a0:Int).toNat)) func55 ⟨(pa g2),(a0:Int).toNat,(by rw [hn0_]),by rw [hn0_];exact (hM.pm [0] [])⟩
 exact .at (l0 k k.le_refl (a1.take (List.replicate ((a0:Int).toNat) (0:Int)).length++(List.replicate ((a0:Int).toNat) (0:Int)).drop a1.length) (a1.length:Int) (hM.pm [0] []) h)
def scrimlaw11_Key.f (k:Nat) (a0:Int) (a1:Int) (a2:Li):Option Li:=(scrimref11_Lengths.f k a0).bind fun t2=>((scrimlaw11_within.f k a1 (t2.length:Int)).bind fun t7=>(gd (0≤t7) (gd (t7<(t2.length:Int)) ((scrimlaw11_Bytes.f k (rd t2 t7) a2).bind fun t12=>(some t12)))))
theorem scrimlaw11_Key.calls {a0:Int} {a1:Int} {a2:Li} {r:Li} (hr2:Rd w (.slice Ap2 np2 cp2) (nums .u8 a2)) (h:scrimlaw11_Key.f k a0 a1 a2=some r):Calls prog 17 #[.i a0,.i a1,(.slice Ap2 np2 cp2)] w (Ret fun v w'=> ∃A0' c0',v= .slice A0' r.length c0'∧Mem w w' (Gs [⟨.slice A0' r.length c0',5,1,nums .u8 r⟩] [])):=by
 obtain rfl:=hr2.ln
 unfold scrimlaw11_Key.f at h
 refine calls_S func17 ?_
 have hM:=Mem.r0 w
 refine .gq 7 ?_
 obtain ⟨t2,ht2,h⟩:=bs h
 refine .ca (scrimref11_Lengths.calls ht2) ?_
 rintro _ W1 ⟨A3,c4,rfl,hM_⟩
 replace hM:=hM.cg hM_
 refine .gq 8 ?_
 obtain ⟨t7,ht7,h⟩:=bs h
 refine .ca (scrimlaw11_within.calls ht7) ?_
 rintro _ W6 ⟨rfl,hM_⟩
 replace hM:=hM.cg hM_
 obtain ⟨c9,h⟩:=ifd h
 obtain ⟨c10,h⟩:=ifd h
 obtain ⟨pq8,Cq8⟩:=hM.na 0 rfl c9 c10
 refine .ix Cq8<| .lc Cq8<| .gq 1 ?_
 obtain ⟨t12,ht12,h⟩:=bs h
 refine .ca (scrimlaw11_Bytes.calls (hr2.mono hM.below) ht12) ?_
 rintro _ W11 ⟨A13,c14,rfl,hM_⟩
 replace hM:=hM.cg hM_
 refine .gq 2 ?_
 obtain rfl:=sj h
 exact .ret func17 ⟨A13,c14,rfl,(hM.pm [0] [])⟩
def scrimlaw11_Tag.f (k:Nat) (a0:Int):Option (Int):=(scrimlaw11_within.f k a0 8).bind fun t2=>(some (I64 (1+t2)))
theorem scrimlaw11_Tag.calls {a0:Int} {r:Int} (h:scrimlaw11_Tag.f k a0=some r):Calls prog 16 #[.i a0] w (Ret fun v w'=>v= .i r∧Mem w w' (Gs [] [])):=by
 unfold scrimlaw11_Tag.f at h
 refine calls_S func16 ?_
 have hM:=Mem.r0 w
 refine .gq 7 ?_
 obtain ⟨t2,ht2,h⟩:=bs h
 refine .ca (scrimlaw11_within.calls ht2) ?_
 rintro _ W1 ⟨rfl,hM_⟩
 replace hM:=hM.cg hM_
 refine .gq 3 ?_
 obtain rfl:=sj h
 exact .ret func16 ⟨rfl,(hM.pm [] [])⟩
end Go.Scr.S

namespace Go.Scr.S
variable {k np0 cp0 np1 cp1 np2 cp2 np3 cp3 np4 cp4:Nat} {Ap0 Ap1 Ap2 Ap3 Ap4:Option Addr} {w w0:World} {FT:List Ent} {Zm Zp0 Zp1 Zp2 Zp3:Zp}
open Go.RowKit (Below)
open Go.Proofs.Tryz (prog f6 func6)
def scrimtop_known.f (k:Nat):Option (Bool):=(shot_Shot.f k (3,8,4,false) (List.replicate 16 (0:Int)) (List.replicate 8 (0:Int)) ([104,101,108,108,111,44,32,116,104,101,114,101]:Li)).bind fun t61=>((run_Seal.f k (3,8,4,true) (List.replicate 16 (0:Int)) (List.replicate 8 (0:Int)) ([t61.1]:Lj)).bind fun t112=>(if (t61.2==0)=true then (if (t112.2==0)=true then ((some (((strOf t112.1).toList==(⟨#[104,101,108,108,111,44,32,116,104,101,114,101]⟩:ByteArray).toList):Bool)).bind fun y118=>(if y118=true then ((some (!((strOf t61.1).toList==(strOf t112.1).toList):Bool)).bind fun y120=>(if y120=true then ((ctx_New.f k).bind fun t123=>((cipher_Size.f k 7).bind fun t127=>(some (t127==16)))) else (some false))) else (some false))) else (some false)) else (some false)))
abbrev scrimtop_known.R (r:Bool) (w:World):Value→World→Prop:=fun v w'=>v= .bool r∧Mem w w' (Gs [] [])
theorem scrimtop_known.calls {r:Bool} (hG1:Rg w 1 (nums .u8 [1,2,4,8,16,32,64,128])) (h:scrimtop_known.f k=some r):Calls prog 6 #[] w (Ret (scrimtop_known.R r w)):=by
 unfold scrimtop_known.f at h
 refine calls_S func6 ?_
 have hM:=Mem.r0 w
 refine .gq 7<| .nw 27 ([.i 0,.i 0,.i 0,.bool false]) hM fun g1 W2 hM=> .sw (N:=4) (new:=[.i 3,.i 8,.i 4,.bool false]) hM 0 rfl rfl rfl (by simp [Value.oneCell']) fun W4 hM=> .gq 2<| .at (show RL 6 f6 (scrimtop_known.R r w) [1,1,0] [(1,.pointer (pa g1))] _ from .dr [] hM fun W5 hM=> ?_)
 refine .y tr 0 (yl_ldp (g:=g1) (off:=0) 4 [.i 3,.i 8,.i 4,.bool false] rfl) (fun _ hs=>(fun i_ u_ hu_=>match i_,hu_ with | 0,h_=>hM.vs hs 0 rfl 0 h_ | 1,h_=>hM.vs hs 0 rfl 1 h_ | 2,h_=>hM.vs hs 0 rfl 2 h_ | 3,h_=>hM.vs hs 0 rfl 3 h_ | _+4,h_=>by cases h_)) ?_
 have J58: ∀(g7:Nat) (g16:Nat) (g34:Nat),RJ 6 f6 (scrimtop_known.R r w) [1,1,0] w [⟨.slice (pa g7) 16 16,5,1,nums .u8 (List.replicate 16 (0:Int))⟩,⟨.slice (pa g16) 8 8,5,1,nums .u8 (List.replicate 8 (0:Int))⟩,⟨.pointer (pa g34),5,12,nums .u8 [104,101,108,108,111,44,32,116,104,101,114,101]⟩,⟨.pointer (pa g1),27,0,[.i 3,.i 8,.i 4,.bool false]⟩] [] [2] ([0,1,2,3,4],[(1,.pointer (pa g1)),(8,.agg #[.i 3,.i 8,.i 4,.bool false]),(9,.slice (pa g7) 16 16),(10,.slice (pa g16) 8 8),(12,.slice (pa g34) 12 12)]):=by
  intro g7 g16 g34 W59 hM
  obtain ⟨t61,ht61,h⟩:=bs h
  refine .a1 tr 5<| .ca (shot_Shot.calls (hM.or 0) (hM.or 1) (hM.mr 2 rfl rfl) (hG1.mono hM.below) ht61) ?_
  rintro _ W60 ⟨A62,c63,rfl,hM_⟩
  refine .ca hM_ [3] ?_
  replace hM:=hM.cg hM_
  refine .pz tr [6,7,8,9,10]<| .dn tr<| .gq 3<| .vf 3 (.bool true) hM 4 rfl fun W65 hM=> .gq 2 ?_
  obtain ⟨Fq66,hfq66,hM⟩:=hM.fs 0
  refine .at (show RL 6 f6 (scrimtop_known.R r w) [1,1,1,1,0] [(1,.pointer (pa g1)),(2,.slice A62 t61.1.length c63),(3,.i t61.2)] _ from .dr [] hM fun W67 hM=> ?_)
  refine .y tr 0 (yl_ldp (g:=g1) (off:=0) 4 [.i 3,.i 8,.i 4,.bool true] rfl) (fun _ hs=>(fun i_ u_ hu_=>match i_,hu_ with | 0,h_=>hM.vs hs 3 rfl 0 h_ | 1,h_=>hM.vs hs 3 rfl 1 h_ | 2,h_=>hM.vs hs 3 rfl 2 h_ | 3,h_=>hM.vs hs 3 rfl 3 h_ | _+4,h_=>by cases h_))<| .pz tr [3] ?_
  have J108: ∀(g69:Nat) (g79:Nat) (g99:Nat) (hqq98:Each2 ((rNums .u8) (Oks Fq66)) [.slice A62 t61.1.length c63] ([t61.1]:Lj)),RJ 6 f6 (scrimtop_known.R r w) [1,1,1,1,0] w [⟨.slice (pa g69) 16 16,5,1,nums .u8 (List.replicate 16 (0:Int))⟩,⟨.slice (pa g79) 8 8,5,1,nums .u8 (List.replicate 8 (0:Int))⟩,⟨.slice (pa g99) 1 1,22,1,[.slice A62 t61.1.length c63]⟩,⟨.slice (pa g7) 16 16,5,1,nums .u8 (List.replicate 16 (0:Int))⟩,⟨.slice (pa g16) 8 8,5,1,nums .u8 (List.replicate 8 (0:Int))⟩,⟨.pointer (pa g34),5,12,nums .u8 [104,101,108,108,111,44,32,116,104,101,114,101]⟩,⟨.pointer (pa g1),27,0,[.i 3,.i 8,.i 4,.bool true]⟩] [Fq66] [] ([0,3,1,2,4],[(1,.pointer (pa g1)),(2,.slice A62 t61.1.length c63),(3,.i t61.2),(18,.agg #[.i 3,.i 8,.i 4,.bool true]),(19,.slice (pa g69) 16 16),(20,.slice (pa g79) 8 8),(22,.slice (pa g99) 1 1)]):=by
   intro g69 g79 g99 hqq98 W109 hM
   obtain ⟨Fq110,hfq110,hM⟩:=hM.fs 2
   refine .er 2 [] ?_
   obtain ⟨t112,ht112,h⟩:=bs h
   refine .a1 tr 5<| .ca (run_Seal.calls (hM.or 0) (hM.or 1) ⟨_,_,_,rfl,(hfq110.up (fun _ z=>z.1)),(Each2.up (up_nums .u8) hqq98 (fun _ z=>z.2))⟩ (fun _ z=>(ai ((hM.oks 0).kept z) ((hM.oks 1).kept z))) (hG1.mono hM.below) ht112) ?_
   rintro _ W111 ⟨A113,c114,rfl,hM_⟩
   refine .ca hM_ [] ?_
   replace hM:=hM.cg hM_
   refine .pz tr [6,7,8,9,10]<| .dn tr<| .gq 5 ?_
   rcases ift h with ⟨c116,h⟩ | ⟨c116,h⟩
   ·refine .kn 28 c116<| .gq 4 ?_
    rcases ift h with ⟨c117,h⟩ | ⟨c117,h⟩
    ·refine .kn 32 c117<| .gq 1<| .y (yl_str (xs:=t112.1)) (hM.or 0)<| .gq 3 ?_
     let y118:Bool:=((strOf t112.1).toList==(⟨#[104,101,108,108,111,44,32,116,104,101,114,101]⟩:ByteArray).toList)
     replace h:=bz (y:=y118) h rfl
     rcases ift h with ⟨c119,h⟩ | ⟨c119,h⟩
     ·refine .kn 37 c119<| .gq 1<| .y (yl_str (xs:=t61.1)) (hfq66 _ (hM.oks 1))<| .gq 1<| .y (yl_str (xs:=t112.1)) (hM.or 0)<| .gq 3 ?_
      let y120:Bool:= !((strOf t61.1).toList==(strOf t112.1).toList)
      replace h:=bz (y:=y120) h rfl
      rcases ift h with ⟨c121,h⟩ | ⟨c121,h⟩
      ·refine .kn 44 c121 ?_
       obtain ⟨t123,ht123,h⟩:=bs h
       refine .ca (ctx_New.calls ht123) ?_
       rintro _ W122 ⟨gt123_0,cst123_0,Ft123_0,rfl,hRt123_0,hM_⟩
       obtain ⟨_,_,_,_,_,_,uo124_6,_,uo124_8,_,_,rfl,rfl,rfl,rfl,rfl,rfl,rfl,ho124_6,⟨Ao124_7,co124_7,rfl,ho124_7⟩,ho124_8,⟨Ao124_9,co124_9,rfl,ho124_9⟩,⟨Ao124_10,co124_10,rfl,ho124_10⟩⟩:=hRt123_0
       replace hM:=hM.cg hM_
       refine .gq 3 ?_
       obtain ⟨t127,ht127,h⟩:=bs h
       refine .ca (cipher_Size.calls ht127) ?_
       rintro _ W126 ⟨rfl,hM_⟩
       replace hM:=hM.cg hM_
       refine .gq 4 ?_
       obtain rfl:=sj h
       exact .ret func6 ⟨rfl,(hM.pm [] [])⟩
      refine .kn 44 c121<| .gq 9 ?_
      obtain rfl:=sj h
      exact .ret func6 ⟨rfl,(hM.pm [] [])⟩
     refine .kn 37 c119<| .gq 16 ?_
     obtain rfl:=sj h
     exact .ret func6 ⟨rfl,(hM.pm [] [])⟩
    refine .kn 32 c117<| .gq 21 ?_
    obtain rfl:=sj h
    exact .ret func6 ⟨rfl,(hM.pm [] [])⟩
   refine .kn 28 c116<| .gq 25 ?_
   obtain rfl:=sj h
   exact .ret func6 ⟨rfl,(hM.pm [] [])⟩
  have J128: ∀(g72:Nat) (g89:Nat) (hqq88:Each2 ((rNums .u8) (Oks Fq66)) [.slice A62 t61.1.length c63] ([t61.1]:Lj)),RJ 6 f6 (scrimtop_known.R r w) [1,1,1,1,0] w [⟨.slice (pa g72) 8 8,5,1,nums .u8 (List.replicate 8 (0:Int))⟩,⟨.slice (pa g89) 1 1,22,1,[.slice A62 t61.1.length c63]⟩,⟨.slice (pa g7) 16 16,5,1,nums .u8 (List.replicate 16 (0:Int))⟩,⟨.slice (pa g16) 8 8,5,1,nums .u8 (List.replicate 8 (0:Int))⟩,⟨.pointer (pa g34),5,12,nums .u8 [104,101,108,108,111,44,32,116,104,101,114,101]⟩,⟨.pointer (pa g1),27,0,[.i 3,.i 8,.i 4,.bool true]⟩] [Fq66] [] ([0,3,2,4],[(1,.pointer (pa g1)),(2,.slice A62 t61.1.length c63),(3,.i t61.2),(18,.agg #[.i 3,.i 8,.i 4,.bool true]),(20,.slice (pa g72) 8 8),(22,.slice (pa g89) 1 1)]):=by
   intro g72 g89 hqq88 W129 hM
   exact .a1 tr 1<| .mn 5 .u8 16 16 hM [] fun g131 W130 hM=> .jn hM [0,1,2,3,4,5,6] [[0]] (J108 g131 g72 g89 hqq88) rfl rfl
  have J133: ∀(g69:Nat) (g82:Nat) (hqq81:Each2 ((rNums .u8) (Oks Fq66)) [.slice A62 t61.1.length c63] ([t61.1]:Lj)),RJ 6 f6 (scrimtop_known.R r w) [1,1,1,1,0] w [⟨.slice (pa g69) 16 16,5,1,nums .u8 (List.replicate 16 (0:Int))⟩,⟨.slice (pa g82) 1 1,22,1,[.slice A62 t61.1.length c63]⟩,⟨.slice (pa g7) 16 16,5,1,nums .u8 (List.replicate 16 (0:Int))⟩,⟨.slice (pa g16) 8 8,5,1,nums .u8 (List.replicate 8 (0:Int))⟩,⟨.pointer (pa g34),5,12,nums .u8 [104,101,108,108,111,44,32,116,104,101,114,101]⟩,⟨.pointer (pa g1),27,0,[.i 3,.i 8,.i 4,.bool true]⟩] [Fq66] [] ([0,3,1,4],[(1,.pointer (pa g1)),(2,.slice A62 t61.1.length c63),(3,.i t61.2),(18,.agg #[.i 3,.i 8,.i 4,.bool true]),(19,.slice (pa g69) 16 16),(22,.slice (pa g82) 1 1)]):=by
   intro g69 g82 hqq81 W134 hM
   exact .a1 tr 2<| .mn 5 .u8 8 8 hM [] fun g136 W135 hM=> .jn hM [1,0,2,3,4,5,6] [[0]] (J108 g69 g136 g82 hqq81) rfl rfl
  have J138: ∀(g69:Nat) (g79:Nat),RJ 6 f6 (scrimtop_known.R r w) [1,1,1,1,0] w [⟨.slice (pa g69) 16 16,5,1,nums .u8 (List.replicate 16 (0:Int))⟩,⟨.slice (pa g79) 8 8,5,1,nums .u8 (List.replicate 8 (0:Int))⟩,⟨.slice (pa g7) 16 16,5,1,nums .u8 (List.replicate 16 (0:Int))⟩,⟨.slice (pa g16) 8 8,5,1,nums .u8 (List.replicate 8 (0:Int))⟩,⟨.pointer (pa g34),5,12,nums .u8 [104,101,108,108,111,44,32,116,104,101,114,101]⟩,⟨.pointer (pa g1),27,0,[.i 3,.i 8,.i 4,.bool true]⟩] [Fq66] [] ([0,3,1,2],[(1,.pointer (pa g1)),(2,.slice A62 t61.1.length c63),(3,.i t61.2),(18,.agg #[.i 3,.i 8,.i 4,.bool true]),(19,.slice (pa g69) 16 16),(20,.slice (pa g79) 8 8),(21,.slice A62 t61.1.length c63)]):=by
   intro g69 g79 W139 hM
   have hqq140:Each2 ((rNums .u8) (Oks Fq66)) [.slice A62 t61.1.length c63] ([t61.1]:Lj):=(.cons (rno hfq66 (hM.oks 0)) (Each2.nil _))
   refine .a1 tr 4<| .new 22 1 1 ([.slice A62 t61.1.length c63]) hM [] (fun g141 W142 hM=> ?_) rfl
   exact .jn hM [1,2,0,3,4,5,6] [[0]] (J108 g69 g79 g141 hqq140) rfl rfl
  have J144: ∀(g75:Nat) (hqq74:Each2 ((rNums .u8) (Oks Fq66)) [.slice A62 t61.1.length c63] ([t61.1]:Lj)),RJ 6 f6 (scrimtop_known.R r w) [1,1,1,1,0] w [⟨.slice (pa g75) 1 1,22,1,[.slice A62 t61.1.length c63]⟩,⟨.slice (pa g7) 16 16,5,1,nums .u8 (List.replicate 16 (0:Int))⟩,⟨.slice (pa g16) 8 8,5,1,nums .u8 (List.replicate 8 (0:Int))⟩,⟨.pointer (pa g34),5,12,nums .u8 [104,101,108,108,111,44,32,116,104,101,114,101]⟩,⟨.pointer (pa g1),27,0,[.i 3,.i 8,.i 4,.bool true]⟩] [Fq66] [] ([0,3,4],[(1,.pointer (pa g1)),(2,.slice A62 t61.1.length c63),(3,.i t61.2),(18,.agg #[.i 3,.i 8,.i 4,.bool true]),(22,.slice (pa g75) 1 1)]):=by
   intro g75 hqq74 W145 hM
   refine .a2 tr 1 2 ?_ ?_
   ·exact .mn 5 .u8 16 16 hM [] fun g147 W146 hM=> .jn hM [0,1,2,3,4,5] [[0]] (J133 g147 g75 hqq74) rfl rfl
   ·exact .mn 5 .u8 8 8 hM [] fun g150 W149 hM=> .jn hM [0,1,2,3,4,5] [[0]] (J128 g150 g75 hqq74) rfl rfl
  have J152: ∀(g72:Nat),RJ 6 f6 (scrimtop_known.R r w) [1,1,1,1,0] w [⟨.slice (pa g72) 8 8,5,1,nums .u8 (List.replicate 8 (0:Int))⟩,⟨.slice (pa g7) 16 16,5,1,nums .u8 (List.replicate 16 (0:Int))⟩,⟨.slice (pa g16) 8 8,5,1,nums .u8 (List.replicate 8 (0:Int))⟩,⟨.pointer (pa g34),5,12,nums .u8 [104,101,108,108,111,44,32,116,104,101,114,101]⟩,⟨.pointer (pa g1),27,0,[.i 3,.i 8,.i 4,.bool true]⟩] [Fq66] [] ([0,3,2],[(1,.pointer (pa g1)),(2,.slice A62 t61.1.length c63),(3,.i t61.2),(18,.agg #[.i 3,.i 8,.i 4,.bool true]),(20,.slice (pa g72) 8 8),(21,.slice A62 t61.1.length c63)]):=by
   intro g72 W153 hM
   refine .a2 tr 1 4 ?_ ?_
   ·exact .mn 5 .u8 16 16 hM [] fun g155 W154 hM=> .jn hM [0,1,2,3,4,5] [[0]] (J138 g155 g72) rfl rfl
   ·have hqq157:Each2 ((rNums .u8) (Oks Fq66)) [.slice A62 t61.1.length c63] ([t61.1]:Lj):=(.cons (rno hfq66 (hM.oks 0)) (Each2.nil _))
    refine .new 22 1 1 ([.slice A62 t61.1.length c63]) hM [] (fun g158 W159 hM=> ?_) rfl
    exact .jn hM [1,0,2,3,4,5] [[0]] (J128 g72 g158 hqq157) rfl rfl
  have J161: ∀(g69:Nat),RJ 6 f6 (scrimtop_known.R r w) [1,1,1,1,0] w [⟨.slice (pa g69) 16 16,5,1,nums .u8 (List.replicate 16 (0:Int))⟩,⟨.slice (pa g7) 16 16,5,1,nums .u8 (List.replicate 16 (0:Int))⟩,⟨.slice (pa g16) 8 8,5,1,nums .u8 (List.replicate 8 (0:Int))⟩,⟨.pointer (pa g34),5,12,nums .u8 [104,101,108,108,111,44,32,116,104,101,114,101]⟩,⟨.pointer (pa g1),27,0,[.i 3,.i 8,.i 4,.bool true]⟩] [Fq66] [] ([0,3,1],[(1,.pointer (pa g1)),(2,.slice A62 t61.1.length c63),(3,.i t61.2),(18,.agg #[.i 3,.i 8,.i 4,.bool true]),(19,.slice (pa g69) 16 16),(21,.slice A62 t61.1.length c63)]):=by
   intro g69 W162 hM
   refine .a2 tr 2 4 ?_ ?_
   ·exact .mn 5 .u8 8 8 hM [] fun g164 W163 hM=> .jn hM [1,0,2,3,4,5] [[0]] (J138 g69 g164) rfl rfl
   ·have hqq166:Each2 ((rNums .u8) (Oks Fq66)) [.slice A62 t61.1.length c63] ([t61.1]:Lj):=(.cons (rno hfq66 (hM.oks 0)) (Each2.nil _))
    refine .new 22 1 1 ([.slice A62 t61.1.length c63]) hM [] (fun g167 W168 hM=> ?_) rfl
    exact .jn hM [1,0,2,3,4,5] [[0]] (J133 g69 g167 hqq166) rfl rfl
  refine .a3 tr 1 2 4 ?_ ?_ ?_
  ·exact .mn 5 .u8 16 16 hM [] fun g171 W170 hM=> .jn hM [0,1,2,3,4] [[0]] (J161 g171) rfl rfl
  ·exact .mn 5 .u8 8 8 hM [] fun g174 W173 hM=> .jn hM [0,1,2,3,4] [[0]] (J152 g174) rfl rfl
  ·have hqq176:Each2 ((rNums .u8) (Oks Fq66)) [.slice A62 t61.1.length c63] ([t61.1]:Lj):=(.cons (rno hfq66 (hM.oks 0)) (Each2.nil _))
   refine .new 22 1 1 ([.slice A62 t61.1.length c63]) hM [] (fun g177 W178 hM=> ?_) rfl
   exact .jn hM [0,1,2,3,4] [[0]] (J144 g177 hqq176) rfl rfl
 have J180: ∀(g10:Nat) (g24:Nat),RJ 6 f6 (scrimtop_known.R r w) [1,1,0] w [⟨.slice (pa g10) 8 8,5,1,nums .u8 (List.replicate 8 (0:Int))⟩,⟨.pointer (pa g24),5,12,nums .u8 [104,101,108,108,111,44,32,116,104,101,114,101]⟩,⟨.pointer (pa g1),27,0,[.i 3,.i 8,.i 4,.bool false]⟩] [] [1] ([0,2,3,4],[(1,.pointer (pa g1)),(8,.agg #[.i 3,.i 8,.i 4,.bool false]),(10,.slice (pa g10) 8 8),(12,.slice (pa g24) 12 12)]):=by
  intro g10 g24 W181 hM
  exact .a1 tr 1<| .mn 5 .u8 16 16 hM [2] fun g183 W182 hM=> .jn hM [0,1,2,3] [] (J58 g183 g10 g24) rfl rfl
 have J185: ∀(g7:Nat) (g18:Nat),RJ 6 f6 (scrimtop_known.R r w) [1,1,0] w [⟨.slice (pa g7) 16 16,5,1,nums .u8 (List.replicate 16 (0:Int))⟩,⟨.pointer (pa g18),5,12,nums .u8 [104,101,108,108,111,44,32,116,104,101,114,101]⟩,⟨.pointer (pa g1),27,0,[.i 3,.i 8,.i 4,.bool false]⟩] [] [1] ([0,1,3,4],[(1,.pointer (pa g1)),(8,.agg #[.i 3,.i 8,.i 4,.bool false]),(9,.slice (pa g7) 16 16),(12,.slice (pa g18) 12 12)]):=by
  intro g7 g18 W186 hM
  exact .a1 tr 2<| .mn 5 .u8 8 8 hM [2] fun g188 W187 hM=> .jn hM [1,0,2,3] [] (J58 g7 g188 g18) rfl rfl
 have J190: ∀(g7:Nat) (g16:Nat) (g34:Nat),RJ 6 f6 (scrimtop_known.R r w) [1,1,0] w [⟨.slice (pa g7) 16 16,5,1,nums .u8 (List.replicate 16 (0:Int))⟩,⟨.slice (pa g16) 8 8,5,1,nums .u8 (List.replicate 8 (0:Int))⟩,⟨.slice (pa g34) 12 12,5,1,nums .u8 [104,101,108,108,111,44,32,116,104,101,114,101]⟩,⟨.pointer (pa g1),27,0,[.i 3,.i 8,.i 4,.bool false]⟩] [] [2] ([0,1,2,3],[(1,.pointer (pa g1)),(8,.agg #[.i 3,.i 8,.i 4,.bool false]),(9,.slice (pa g7) 16 16),(10,.slice (pa g16) 8 8),(11,.slice (pa g34) 12 12)]):=by
  intro g7 g16 g34 W191 hM
  exact .a1 tr 4<| .cv hM 2 rfl fun W192 hM=> .jn hM [0,1,2,3] [] (J58 g7 g16 g34) rfl rfl
 have J193: ∀(g12:Nat),RJ 6 f6 (scrimtop_known.R r w) [1,1,0] w [⟨.pointer (pa g12),5,12,nums .u8 [104,101,108,108,111,44,32,116,104,101,114,101]⟩,⟨.pointer (pa g1),27,0,[.i 3,.i 8,.i 4,.bool false]⟩] [] [0] ([0,3,4],[(1,.pointer (pa g1)),(8,.agg #[.i 3,.i 8,.i 4,.bool false]),(12,.slice (pa g12) 12 12)]):=by
  intro g12 W194 hM
  refine .a2 tr 1 2 ?_ ?_
  ·exact .mn 5 .u8 16 16 hM [1] fun g196 W195 hM=> .jn hM [0,1,2] [] (J185 g196 g12) rfl rfl
  ·exact .mn 5 .u8 8 8 hM [1] fun g199 W198 hM=> .jn hM [0,1,2] [] (J180 g199 g12) rfl rfl
 have J201: ∀(g10:Nat) (g24:Nat),RJ 6 f6 (scrimtop_known.R r w) [1,1,0] w [⟨.slice (pa g10) 8 8,5,1,nums .u8 (List.replicate 8 (0:Int))⟩,⟨.slice (pa g24) 12 12,5,1,nums .u8 [104,101,108,108,111,44,32,116,104,101,114,101]⟩,⟨.pointer (pa g1),27,0,[.i 3,.i 8,.i 4,.bool false]⟩] [] [1] ([0,2,3],[(1,.pointer (pa g1)),(8,.agg #[.i 3,.i 8,.i 4,.bool false]),(10,.slice (pa g10) 8 8),(11,.slice (pa g24) 12 12)]):=by
  intro g10 g24 W202 hM
  refine .a2 tr 1 4 ?_ ?_
  ·exact .mn 5 .u8 16 16 hM [2] fun g204 W203 hM=> .jn hM [0,1,2,3] [] (J190 g204 g10 g24) rfl rfl
  ·exact .cv hM 1 rfl fun W206 hM=> .jn hM [0,1,2] [] (J180 g10 g24) rfl rfl
 have J207: ∀(g7:Nat) (g18:Nat),RJ 6 f6 (scrimtop_known.R r w) [1,1,0] w [⟨.slice (pa g7) 16 16,5,1,nums .u8 (List.replicate 16 (0:Int))⟩,⟨.slice (pa g18) 12 12,5,1,nums .u8 [104,101,108,108,111,44,32,116,104,101,114,101]⟩,⟨.pointer (pa g1),27,0,[.i 3,.i 8,.i 4,.bool false]⟩] [] [1] ([0,1,3],[(1,.pointer (pa g1)),(8,.agg #[.i 3,.i 8,.i 4,.bool false]),(9,.slice (pa g7) 16 16),(11,.slice (pa g18) 12 12)]):=by
  intro g7 g18 W208 hM
  refine .a2 tr 2 4 ?_ ?_
  ·exact .mn 5 .u8 8 8 hM [2] fun g210 W209 hM=> .jn hM [1,0,2,3] [] (J190 g7 g210 g18) rfl rfl
  ·exact .cv hM 1 rfl fun W212 hM=> .jn hM [0,1,2] [] (J185 g7 g18) rfl rfl
 have J213: ∀(g7:Nat) (g16:Nat),RJ 6 f6 (scrimtop_known.R r w) [1,1,0] w [⟨.slice (pa g7) 16 16,5,1,nums .u8 (List.replicate 16 (0:Int))⟩,⟨.slice (pa g16) 8 8,5,1,nums .u8 (List.replicate 8 (0:Int))⟩,⟨.pointer (pa g1),27,0,[.i 3,.i 8,.i 4,.bool false]⟩] [] [] ([0,1,2],[(1,.pointer (pa g1)),(8,.agg #[.i 3,.i 8,.i 4,.bool false]),(9,.slice (pa g7) 16 16),(10,.slice (pa g16) 8 8)]):=by
  intro g7 g16 W214 hM
  exact .a1 tr 3<| .new 5 1 12 (nums .u8 [104,101,108,108,111,44,32,116,104,101,114,101]) hM [0] fun g215 W216 hM=> .jn hM [1,2,0,3] [] (J190 g7 g16 g215) rfl rfl
 have J218: ∀(g12:Nat),RJ 6 f6 (scrimtop_known.R r w) [1,1,0] w [⟨.slice (pa g12) 12 12,5,1,nums .u8 [104,101,108,108,111,44,32,116,104,101,114,101]⟩,⟨.pointer (pa g1),27,0,[.i 3,.i 8,.i 4,.bool false]⟩] [] [0] ([0,3],[(1,.pointer (pa g1)),(8,.agg #[.i 3,.i 8,.i 4,.bool false]),(11,.slice (pa g12) 12 12)]):=by
  intro g12 W219 hM
  refine .a3 tr 1 2 4 ?_ ?_ ?_
  ·exact .mn 5 .u8 16 16 hM [1] fun g221 W220 hM=> .jn hM [0,1,2] [] (J207 g221 g12) rfl rfl
  ·exact .mn 5 .u8 8 8 hM [1] fun g224 W223 hM=> .jn hM [0,1,2] [] (J201 g224 g12) rfl rfl
  ·exact .cv hM 0 rfl fun W226 hM=> .jn hM [0,1] [] (J193 g12) rfl rfl
 have J227: ∀(g10:Nat),RJ 6 f6 (scrimtop_known.R r w) [1,1,0] w [⟨.slice (pa g10) 8 8,5,1,nums .u8 (List.replicate 8 (0:Int))⟩,⟨.pointer (pa g1),27,0,[.i 3,.i 8,.i 4,.bool false]⟩] [] [] ([0,2],[(1,.pointer (pa g1)),(8,.agg #[.i 3,.i 8,.i 4,.bool false]),(10,.slice (pa g10) 8 8)]):=by
  intro g10 W228 hM
  refine .a2 tr 1 3 ?_ ?_
  ·exact .mn 5 .u8 16 16 hM [] fun g230 W229 hM=> .jn hM [0,1,2] [] (J213 g230 g10) rfl rfl
  ·exact .new 5 1 12 (nums .u8 [104,101,108,108,111,44,32,116,104,101,114,101]) hM [0] fun g232 W233 hM=> .jn hM [1,0,2] [] (J201 g10 g232) rfl rfl
 have J235: ∀(g7:Nat),RJ 6 f6 (scrimtop_known.R r w) [1,1,0] w [⟨.slice (pa g7) 16 16,5,1,nums .u8 (List.replicate 16 (0:Int))⟩,⟨.pointer (pa g1),27,0,[.i 3,.i 8,.i 4,.bool false]⟩] [] [] ([0,1],[(1,.pointer (pa g1)),(8,.agg #[.i 3,.i 8,.i 4,.bool false]),(9,.slice (pa g7) 16 16)]):=by
  intro g7 W236 hM
  refine .a2 tr 2 3 ?_ ?_
  ·exact .mn 5 .u8 8 8 hM [] fun g238 W237 hM=> .jn hM [1,0,2] [] (J213 g7 g238) rfl rfl
  ·exact .new 5 1 12 (nums .u8 [104,101,108,108,111,44,32,116,104,101,114,101]) hM [0] fun g240 W241 hM=> .jn hM [1,0,2] [] (J207 g7 g240) rfl rfl
 refine .a3 tr 1 2 3 ?_ ?_ ?_
 ·exact .mn 5 .u8 16 16 hM [] fun g244 W243 hM=> .jn hM [0,1] [] (J235 g244) rfl rfl
 ·exact .mn 5 .u8 8 8 hM [] fun g247 W246 hM=> .jn hM [0,1] [] (J227 g247) rfl rfl
 ·exact .new 5 1 12 (nums .u8 [104,101,108,108,111,44,32,116,104,101,114,101]) hM [0] fun g249 W250 hM=> .jn hM [0,1] [] (J218 g249) rfl rfl
end Go.Scr.S

namespace Go.Scr.S
variable {k np0 cp0 np1 cp1 np2 cp2 np3 cp3 np4 cp4:Nat} {Ap0 Ap1 Ap2 Ap3 Ap4:Option Addr} {w w0:World} {FT:List Ent} {Zm Zp0 Zp1 Zp2 Zp3:Zp}
open Go.RowKit (Below)
open Go.Proofs.Tryz (prog f5 func5 f19 func19)
def scrimref11_Size.f (k:Nat) (a0:Int):Option (Int):=if (a0==1)=true then (some 8) else (if (a0==2)=true then (some 8) else (if (a0==3)=true then (some 8) else (if (a0==4)=true then (some 8) else (if (a0==5)=true then (some 8) else (if (a0==8)=true then (some 8) else (if (a0==6)=true then (some 16) else (if (a0==7)=true then (some 16) else (some 0))))))))
theorem scrimref11_Size.calls {a0:Int} {r:Int} (h:scrimref11_Size.f k a0=some r):Calls prog 19 #[.i a0] w (Ret fun v w'=>v= .i r∧Mem w w' (Gs [] [])):=by
 unfold scrimref11_Size.f at h
 refine calls_S func19 ?_
 have hM:=Mem.r0 w
 refine .gq 16 ?_
 rcases ift h with ⟨c1,h⟩ | ⟨c1,h⟩
 ·refine .kn 4 c1<| .gq 7 ?_
  obtain rfl:=sj h
  exact .ret func19 ⟨rfl,(hM.pm [] [])⟩
 refine .kn 4 c1<| .gq 6 ?_
 rcases ift h with ⟨c2,h⟩ | ⟨c2,h⟩
 ·refine .kn 4 c2<| .gq 7 ?_
  obtain rfl:=sj h
  exact .ret func19 ⟨rfl,(hM.pm [] [])⟩
 refine .kn 4 c2<| .gq 6 ?_
 rcases ift h with ⟨c3,h⟩ | ⟨c3,h⟩
 ·refine .kn 4 c3<| .gq 7 ?_
  obtain rfl:=sj h
  exact .ret func19 ⟨rfl,(hM.pm [] [])⟩
 refine .kn 4 c3<| .gq 6 ?_
 rcases ift h with ⟨c4,h⟩ | ⟨c4,h⟩
 ·refine .kn 4 c4<| .gq 7 ?_
  obtain rfl:=sj h
  exact .ret func19 ⟨rfl,(hM.pm [] [])⟩
 refine .kn 4 c4<| .gq 6 ?_
 rcases ift h with ⟨c5,h⟩ | ⟨c5,h⟩
 ·refine .kn 4 c5<| .gq 7 ?_
  obtain rfl:=sj h
  exact .ret func19 ⟨rfl,(hM.pm [] [])⟩
 refine .kn 4 c5<| .gq 5 ?_
 rcases ift h with ⟨c6,h⟩ | ⟨c6,h⟩
 ·refine .kn 4 c6<| .gq 5 ?_
  obtain rfl:=sj h
  exact .ret func19 ⟨rfl,(hM.pm [] [])⟩
 refine .kn 4 c6<| .gq 7 ?_
 rcases ift h with ⟨c7,h⟩ | ⟨c7,h⟩
 ·refine .kn 11 c7<| .gq 7 ?_
  obtain rfl:=sj h
  exact .ret func19 ⟨rfl,(hM.pm [] [])⟩
 refine .kn 11 c7<| .gq 5 ?_
 rcases ift h with ⟨c8,h⟩ | ⟨c8,h⟩
 ·refine .kn 11 c8<| .gq 5 ?_
  obtain rfl:=sj h
  exact .ret func19 ⟨rfl,(hM.pm [] [])⟩
 refine .kn 11 c8<| .gq 7 ?_
 obtain rfl:=sj h
 exact .ret func19 ⟨rfl,(hM.pm [] [])⟩
def scrimtop_TopEcb.l0:Nat→Li→Bool→Ci→Int→(Li×Int)→Int→Int→Option (Bool)
 | 0,_,_,_,_,_,_,_=>none
 | k+1,a3,a5,s14,t19,t30,y21,x20_0=>(some (decide (x20_0<(((a3.take (y21:Int).toNat).drop (0:Int).toNat).length:Int)):Bool)).bind fun y37=>(if y37=true then (gd (0≤x20_0) (gd (x20_0≤(I64 (x20_0+t19))) (gd ((I64 (x20_0+t19))≤(((a3.take (y21:Int).toNat).drop (0:Int).toNat).length:Int)) ((cipher_Cipher_Enc.f k s14 ((((a3.take (y21:Int).toNat).drop (0:Int).toNat).take (I64 (x20_0+t19):Int).toNat).drop (x20_0:Int).toNat)).bind fun t46=>(if a5=true then (gd (0≤x20_0) (gd (x20_0≤(I64 (x20_0+t19))) (gd ((I64 (x20_0+t19))≤(((a3.take (y21:Int).toNat).drop (0:Int).toNat).length:Int)) ((cipher_Cipher_Dec.f k s14 ((((a3.take (y21:Int).toNat).drop (0:Int).toNat).take (I64 (x20_0+t19):Int).toNat).drop (x20_0:Int).toNat)).bind fun t58=>(gd (0≤x20_0) (gd (x20_0≤(I64 (x20_0+t19))) (gd ((I64 (x20_0+t19))≤(t30.1.length:Int)) ((some (!((strOf ((t30.1.take (I64 (x20_0+t19):Int).toNat).drop (x20_0:Int).toNat)).toList==(strOf t58.1).toList):Bool)).bind fun y69=>(if y69=true then (some false) else (scrimtop_TopEcb.l0 k a3 a5 s14 t19 t30 y21 (I64 (x20_0+t19)))))))))))) else (gd (0≤x20_0) (gd (x20_0≤(I64 (x20_0+t19))) (gd ((I64 (x20_0+t19))≤(t30.1.length:Int)) ((some (!((strOf ((t30.1.take (I64 (x20_0+t19):Int).toNat).drop (x20_0:Int).toNat)).toList==(strOf t46.1).toList):Bool)).bind fun y78=>(if y78=true then (some false) else (scrimtop_TopEcb.l0 k a3 a5 s14 t19 t30 y21 (I64 (x20_0+t19))))))))))))) else (some true))
def scrimtop_TopEcb.f (k:Nat) (a0:Int) (a1:Int) (a2:Li) (a3:Li) (a4:Li) (a5:Bool):Option (Bool):=(scrimtop_known.f k).bind fun t2=>(if (!t2)=true then (some false) else (if (decide ((a3.length:Int)>200))=true then (some true) else ((scrimlaw11_Tag.f k a0).bind fun t6=>((scrimlaw11_Key.f k t6 a1 a2).bind fun t8=>((cipher_New.f k t6 t8).bind fun t13=>(if t13.1.isSome=true then ((t13.1).bind fun s14=>((scrimref11_Size.f k t6).bind fun t19=>(if (decide (t19=0))=true then (none) else ((some (I64 ((I64 (Int.tdiv (a3.length:Int) t19))*t19):Int)).bind fun y21=>(gd (0≤y21) (gd (y21≤(a3.length:Int)) ((scrimlaw12_Cut.f k ((a3.take (y21:Int).toNat).drop (0:Int).toNat) a4).bind fun t28=>((run_Seal.f k (t6,1,4,a5) t8 ([]:Li) t28).bind fun t30=>(if (t30.2 != 0)=true then (some false) else ((some (((t30.1.length:Int) != (((a3.take (y21:Int).toNat).drop (0:Int).toNat).length:Int)):Bool)).bind fun y35=>(if y35=true then (some false) else (scrimtop_TopEcb.l0 k a3 a5 s14 t19 t30 y21 0)))))))))))) else (some false)))))))
abbrev scrimtop_TopEcb.R (r:Bool) (w:World):Value→World→Prop:=fun v w'=>v= .bool r∧Mem w w' (Gs [] [])
theorem scrimtop_TopEcb.calls {a0:Int} {a1:Int} {a2:Li} {a3:Li} {a4:Li} {a5:Bool} {r:Bool} (hr2:Rd w (.slice Ap2 np2 cp2) (nums .u8 a2)) (hr3:Rd w (.slice Ap3 np3 cp3) (nums .u8 a3)) (hr4:Rd w (.slice Ap4 np4 cp4) (nums .i64 a4)) (hG1:Rg w 1 (nums .u8 [1,2,4,8,16,32,64,128])) (h:scrimtop_TopEcb.f k a0 a1 a2 a3 a4 a5=some r):Calls prog 5 #[.i a0,.i a1,(.slice Ap2 np2 cp2),(.slice Ap3 np3 cp3),(.slice Ap4 np4 cp4),.bool a5] w (Ret (scrimtop_TopEcb.R r w)):=by
 obtain rfl:=hr2.ln
 obtain rfl:=hr3.ln
 obtain rfl:=hr4.ln
 unfold scrimtop_TopEcb.f at h
 refine calls_S func5 ?_
 have hM:=Mem.r0 w
 refine .gq 7 ?_
 obtain ⟨t2,ht2,h⟩:=bs h
 refine .ca (scrimtop_known.calls (hG1.mono hM.below) ht2) ?_
 rintro _ W1 ⟨rfl,hM_⟩
 replace hM:=hM.cg hM_
 refine .gq 2 ?_
 rcases ift h with ⟨c3,h⟩ | ⟨c3,h⟩
 ·refine .kn 24 c3<| .gq 5 ?_
  obtain rfl:=sj h
  exact .ret func5 ⟨rfl,(hM.pm [] [])⟩
 refine .kn 24 c3<| .gq 9 ?_
 rcases ift h with ⟨c4,h⟩ | ⟨c4,h⟩
 ·refine .kn 27 c4<| .gq 5 ?_
  obtain rfl:=sj h
  exact .ret func5 ⟨rfl,(hM.pm [] [])⟩
 refine .kn 27 c4<| .gq 5 ?_
 obtain ⟨t6,ht6,h⟩:=bs h
 refine .ca (scrimlaw11_Tag.calls ht6) ?_
 rintro _ W5 ⟨rfl,hM_⟩
 replace hM:=hM.cg hM_
 refine .gq 7 ?_
 obtain ⟨t8,ht8,h⟩:=bs h
 refine .ca (scrimlaw11_Key.calls (hr2.mono hM.below) ht8) ?_
 rintro _ W7 ⟨A9,c10,rfl,hM_⟩
 replace hM:=hM.cg hM_
 refine .gq 6 ?_
 obtain ⟨t13,ht13,h⟩:=bs h
 refine .ca (cipher_New.calls (hM.or 0) (hG1.mono hM.below) ht13) ?_
 rintro _ W12 ⟨vt13_0,Ft13_0,rfl,hRt13_0,hM_⟩
 replace hM:=hM.cg hM_
 refine .gq 10 ?_
 rcases ift h with ⟨c16,h⟩ | ⟨c16,h⟩
 ·obtain ⟨s14,hx_,h⟩:=bs h
  have hps14:=rOpt.some hRt13_0 hx_
  obtain ⟨g15,_,rfl,hco17,_,uo17_1,rfl,rfl,ho17_1⟩:=id hps14
  refine .gq 7 ?_
  obtain ⟨t19,ht19,h⟩:=bs h
  refine .ca (scrimref11_Size.calls ht19) ?_
  rintro _ W18 ⟨rfl,hM_⟩
  replace hM:=hM.cg hM_
  refine .gq 8 ?_
  obtain ⟨c20,h⟩:=ifn h
  refine .yt (yl_quo (kd:= .i64) (a3.length:Int) c20)<| .gq 2 ?_
  let y21:Int:=I64 ((I64 (Int.tdiv (a3.length:Int) t19))*t19)
  replace h:=bz (y:=y21) h rfl
  obtain ⟨c22,h⟩:=ifd h
  obtain ⟨c23,h⟩:=ifd h
  refine .ct 0 y21 (hr3.mono hM.below) fun A24 c25 hs26=> .gq 10 ?_
  obtain ⟨t28,ht28,h⟩:=bs h
  refine .ca (scrimlaw12_Cut.calls (hr4.mono hM.below) (RdF.of_rd (hs26 _ hr3)) (fun _ z=>(hM.kept.trans z)) ht28) ?_
  rintro vt28_0 W27 ⟨_,Ft28_0,rfl,hRt28_0,hM_⟩
  obtain ⟨At28_0,ct28_0,cst28_0,rfl,hrt28_0,hqt28_0⟩:=hRt28_0
  replace hM:=hM.cg hM_
  obtain ⟨t30,ht30,h⟩:=bs h
  refine .ca (run_Seal.calls (hM.or 0) (Rd.nil _ .u8) ⟨_,_,_,rfl,hrt28_0,hqt28_0⟩ (fun _ z=>(ai ((hM.oks 0).kept z) (hM.kept.trans z))) (hG1.mono hM.below) ht30) ?_
  rintro _ W29 ⟨A31,c32,rfl,hM_⟩
  replace hM:=hM.cg hM_
  refine .gq 12 ?_
  rcases ift h with ⟨c34,h⟩ | ⟨c34,h⟩
  ·refine .kn 65 c34<| .gq 12 ?_
   obtain rfl:=sj h
   exact .ret func5 ⟨rfl,(hM.pm [] [])⟩
  refine .kn 65 c34<| .gq 7 ?_
  let y35:Bool:=((t30.1.length:Int) != (((a3.take (y21:Int).toNat).drop (0:Int).toNat).length:Int))
  replace h:=bz (y:=y35) h rfl
  rcases ift h with ⟨c36,h⟩ | ⟨c36,h⟩
  ·refine .kn 71 c36<| .gq 5 ?_
   obtain rfl:=sj h
   exact .ret func5 ⟨rfl,(hM.pm [] [])⟩
  refine .kn 71 c36<| .gq 9 ?_
  have l0: ∀k_≤k,∀(x20_0:Int) {W:World} (hM:Mem w W (Gs [⟨.slice A31 t30.1.length c32,5,1,nums .u8 t30.1⟩] [Ft28_0,Ft13_0])) (h:scrimtop_TopEcb.l0 k_ a3 a5 s14 t19 t30 y21 x20_0=some r),RL 5 f5 (scrimtop_TopEcb.R r w) [1,1,1,1,1,1,1,1,1,1,1,0,1,0,0] [(3,.slice A24 (((a3.take (y21:Int).toNat).drop (0:Int).toNat).length) c25),(5,.bool a5),(15,.pointer (pa g15)),(17,.i t19),(18,.slice A31 t30.1.length c32),(20,.i x20_0)] W:=by
   refine loopI (by intros;rename_i h;simp [scrimtop_TopEcb.l0] at h) fun k hk ih0 x20_0 W hM h=> ?_
   simp only [scrimtop_TopEcb.l0] at h
   refine .gq 8 ?_
   let y37:Bool:=decide (x20_0<(((a3.take (y21:Int).toNat).drop (0:Int).toNat).length:Int))
   replace h:=bz (y:=y37) h rfl
   rcases ift h with ⟨c38,h⟩ | ⟨c38,h⟩
   ·refine .kn 75 c38<| .gq 12 ?_
    obtain ⟨c39,h⟩:=ifd h
    obtain ⟨c40,h⟩:=ifd h
    obtain ⟨c41,h⟩:=ifd h
    refine .ct x20_0 (I64 (x20_0+t19)) (hs26 _ (hr3.mono hM.below)) fun A42 c43 hs44=> ?_
    obtain ⟨t46,ht46,h⟩:=bs h
    refine .ca (cipher_Cipher_Enc.calls (hs44 _ (hs26 _ (hr3.mono hM.below))) hps14 (fun _ z=>((hM.oks 1).kept z)) ht46) ?_
    rintro _ W45 ⟨A47,c48,rfl,hM_⟩
    replace hM:=hM.cg hM_
    refine .gq 11 ?_
    rcases ift h with ⟨c50,h⟩ | ⟨c50,h⟩
    ·refine .kn 90 c50<| .gq 8 ?_
     obtain ⟨c51,h⟩:=ifd h
     obtain ⟨c52,h⟩:=ifd h
     obtain ⟨c53,h⟩:=ifd h
     refine .ct x20_0 (I64 (x20_0+t19)) (hs26 _ (hr3.mono hM.below)) fun A54 c55 hs56=> ?_
     obtain ⟨t58,ht58,h⟩:=bs h
     refine .ca (cipher_Cipher_Dec.calls (hs56 _ (hs26 _ (hr3.mono hM.below))) hps14 (fun _ z=>((hM.oks 1).kept z)) ht58) ?_
     rintro _ W57 ⟨A59,c60,rfl,hM_⟩
     replace hM:=hM.cg hM_
     refine .gq 6<| .at (show RL 5 f5 (scrimtop_TopEcb.R r w) [1,1,1,1,1,1,1,1,1,1,1,0,1,0,0,1,0,0,1,1,0] [(3,.slice A24 (((a3.take (y21:Int).toNat).drop (0:Int).toNat).length) c25),(5,.bool a5),(15,.pointer (pa g15)),(17,.i t19),(18,.slice A31 t30.1.length c32),(20,.i x20_0),(21,.slice A59 t58.1.length c60)] _ from .dr [] hM fun W62 hM=> ?_)
     refine .pz tr [0,1,2,3,4] ?_
     obtain ⟨c63,h⟩:=ifd h
     obtain ⟨c64,h⟩:=ifd h
     obtain ⟨c65,h⟩:=ifd h
     refine .ct tr 5 x20_0 (I64 (x20_0+t19)) (hM.or 2) fun A66 c67 hs68=> .y tr 6 (yl_str (xs:=((t30.1.take (I64 (x20_0+t19):Int).toNat).drop (x20_0:Int).toNat))) (fun _ hs=>(hs68 _ (hM.rs hs 2 rfl)))<| .pz tr [7]<| .y tr 8 (yl_str (xs:=t58.1)) (fun _ hs=>(hM.rs hs 0 rfl))<| .pz tr [9]<| .dn tr ?_
     let y69:Bool:= !((strOf ((t30.1.take (I64 (x20_0+t19):Int).toNat).drop (x20_0:Int).toNat)).toList==(strOf t58.1).toList)
     replace h:=bz (y:=y69) h rfl
     rcases ift h with ⟨c70,h⟩ | ⟨c70,h⟩
     ·refine .kn 111 c70<| .gq 5 ?_
      obtain rfl:=sj h
      exact .ret func5 ⟨rfl,(hM.pm [] [])⟩
     exact .kn 111 c70<| .gq 10<| .at (ih0 k (by omega) (I64 (x20_0+t19)) (hM.pm [2] [[0],[1]]) h)
    refine .kn 90 c50<| .gq 3<| .at (show RL 5 f5 (scrimtop_TopEcb.R r w) [1,1,1,1,1,1,1,1,1,1,1,0,1,0,0,1,0,0,1,1,0] [(3,.slice A24 (((a3.take (y21:Int).toNat).drop (0:Int).toNat).length) c25),(5,.bool a5),(15,.pointer (pa g15)),(17,.i t19),(18,.slice A31 t30.1.length c32),(20,.i x20_0),(21,.slice A47 t46.1.length c48)] _ from .dr [] hM fun W71 hM=> ?_)
    refine .pz tr [0,1,2,3,4] ?_
    obtain ⟨c72,h⟩:=ifd h
    obtain ⟨c73,h⟩:=ifd h
    obtain ⟨c74,h⟩:=ifd h
    refine .ct tr 5 x20_0 (I64 (x20_0+t19)) (hM.or 1) fun A75 c76 hs77=> .y tr 6 (yl_str (xs:=((t30.1.take (I64 (x20_0+t19):Int).toNat).drop (x20_0:Int).toNat))) (fun _ hs=>(hs77 _ (hM.rs hs 1 rfl)))<| .pz tr [7]<| .y tr 8 (yl_str (xs:=t46.1)) (fun _ hs=>(hM.rs hs 0 rfl))<| .pz tr [9]<| .dn tr ?_
    let y78:Bool:= !((strOf ((t30.1.take (I64 (x20_0+t19):Int).toNat).drop (x20_0:Int).toNat)).toList==(strOf t46.1).toList)
    replace h:=bz (y:=y78) h rfl
    rcases ift h with ⟨c79,h⟩ | ⟨c79,h⟩
    ·refine .kn 111 c79<| .gq 5 ?_
     obtain rfl:=sj h
     exact .ret func5 ⟨rfl,(hM.pm [] [])⟩
    exact .kn 111 c79<| .gq 10<| .at (ih0 k (by omega) (I64 (x20_0+t19)) (hM.pm [1] [[0],[1]]) h)
   refine .kn 75 c38<| .gq 6 ?_
   obtain rfl:=sj h
   exact .ret func5 ⟨rfl,(hM.pm [] [])⟩
  exact .at (l0 k k.le_refl 0 (hM.pm [0] [[0],[1]]) h)
 obtain rfl:=rOpt.none hRt13_0 c16
 refine .gq 7 ?_
 obtain rfl:=sj h
 exact .ret func5 ⟨rfl,(hM.pm [] [])⟩
end Go.Scr.S
