/- Functions that the law reaches, as plain functions, and that each call answers so: the law. -/
import Derived.Test.YtdemmfohkhpklaaGreatDoorXF
import Derived.Test.YtdemmfohkhpklaaGreatDoorFa
import Derived.Test.YtdemmfohkhpklaaGreatDoorFb
import Derived.Test.YtdemmfohkhpklaaGreatDoorFc
import Derived.Test.YtdemmfohkhpklaaGreatDoorFd
set_option linter.unusedVariables false
set_option linter.unusedSimpArgs false
set_option maxRecDepth 100000
set_option maxHeartbeats 8000000
namespace Go.Scr.S
variable {k np0 cp0 np1 cp1 np2 cp2 np3 cp3 np4 cp4:Nat} {Ap0 Ap1 Ap2 Ap3 Ap4:Option Addr} {w w0:World} {FT:List Ent} {Zm Zp0 Zp1 Zp2 Zp3:Zp}
open Go.RowKit (Below)
open Go.Proofs.Tryz (prog f4 func4 f7 func7 f8 func8 f19 func19 f24 func24 f25 func25)
def Yo.f (k:Nat) (a0:Ak):Option (Bool):=if (decide ((a0.2.2.2.2.2.1.length:Int)≤100))=true then (some (decide ((a0.2.2.2.2.2.2.length:Int)≤100))) else (some false)
theorem Yo.calls {As0_5:Option Addr} {ns0_5 cs0_5:Nat} {As0_6:Option Addr} {ns0_6 cs0_6:Nat} {a0:Ak} {r:Bool} (hs0_5:Rd w (.slice As0_5 ns0_5 cs0_5) (nums .u8 a0.2.2.2.2.2.1)) (hs0_6:Rd w (.slice As0_6 ns0_6 cs0_6) (nums .u8 a0.2.2.2.2.2.2)) (h:Yo.f k a0=some r):Calls prog 7 #[.agg #[.i a0.1,.i a0.2.1,.i a0.2.2.1,.i a0.2.2.2.1,.bool a0.2.2.2.2.1,.slice As0_5 ns0_5 cs0_5,.slice As0_6 ns0_6 cs0_6]] w (Ret fun v w'=>v= .bool r∧Mem w w' (Gs [] [])):=by
 obtain rfl:=hs0_5.ln
 obtain rfl:=hs0_6.ln
 unfold Yo.f at h
 refine calls_S func7 ?_
 have M:=Mem.r0 w
 refine .gq 2<| .nw 24 ([.i a0.1,.i a0.2.1,.i a0.2.2.1,.i a0.2.2.2.1,.bool a0.2.2.2.2.1,.slice As0_5 a0.2.2.2.2.2.1.length cs0_5,.slice As0_6 a0.2.2.2.2.2.2.length cs0_6]) M fun g1 W2 M=> .gq 5<| .lv M 0 rfl 5 rfl<| .gq 3 ?_
 rcases ift h with ⟨c4,h⟩ | ⟨c4,h⟩
 ·refine .kn 7 c4<| .gq 1<| .lv M 0 rfl 6 rfl<| .gq 5 ?_
  obtain rfl:=sj h
  exact .ret func7 ⟨rfl,(M.pm [] [])⟩
 refine .kn 7 c4<| .gq 7 ?_
 obtain rfl:=sj h
 exact .ret func7 ⟨rfl,(M.pm [] [])⟩
def Ys.f (k:Nat) (a0:Int):Option (Int):=if (a0==1)=true then (some 8) else (if (a0==2)=true then (some 8) else (if (a0==3)=true then (some 8) else (if (a0==4)=true then (some 8) else (if (a0==5)=true then (some 8) else (if (a0==8)=true then (some 8) else (if (a0==6)=true then (some 16) else (if (a0==7)=true then (some 16) else (some 0))))))))
theorem Ys.calls {a0:Int} {r:Int} (h:Ys.f k a0=some r):Calls prog 19 #[.i a0] w (Ret fun v w'=>v= .i r∧Mem w w' (Gs [] [])):=by
 unfold Ys.f at h
 refine calls_S func19 ?_
 have M:=Mem.r0 w
 refine .gq 16 ?_
 rcases ift h with ⟨c1,h⟩ | ⟨c1,h⟩
 ·refine .kn 4 c1<| .gq 7 ?_
  obtain rfl:=sj h
  exact .ret func19 ⟨rfl,(M.pm [] [])⟩
 refine .kn 4 c1<| .gq 6 ?_
 rcases ift h with ⟨c2,h⟩ | ⟨c2,h⟩
 ·refine .kn 4 c2<| .gq 7 ?_
  obtain rfl:=sj h
  exact .ret func19 ⟨rfl,(M.pm [] [])⟩
 refine .kn 4 c2<| .gq 6 ?_
 rcases ift h with ⟨c3,h⟩ | ⟨c3,h⟩
 ·refine .kn 4 c3<| .gq 7 ?_
  obtain rfl:=sj h
  exact .ret func19 ⟨rfl,(M.pm [] [])⟩
 refine .kn 4 c3<| .gq 6 ?_
 rcases ift h with ⟨c4,h⟩ | ⟨c4,h⟩
 ·refine .kn 4 c4<| .gq 7 ?_
  obtain rfl:=sj h
  exact .ret func19 ⟨rfl,(M.pm [] [])⟩
 refine .kn 4 c4<| .gq 6 ?_
 rcases ift h with ⟨c5,h⟩ | ⟨c5,h⟩
 ·refine .kn 4 c5<| .gq 7 ?_
  obtain rfl:=sj h
  exact .ret func19 ⟨rfl,(M.pm [] [])⟩
 refine .kn 4 c5<| .gq 5 ?_
 rcases ift h with ⟨c6,h⟩ | ⟨c6,h⟩
 ·refine .kn 4 c6<| .gq 5 ?_
  obtain rfl:=sj h
  exact .ret func19 ⟨rfl,(M.pm [] [])⟩
 refine .kn 4 c6<| .gq 7 ?_
 rcases ift h with ⟨c7,h⟩ | ⟨c7,h⟩
 ·refine .kn 11 c7<| .gq 7 ?_
  obtain rfl:=sj h
  exact .ret func19 ⟨rfl,(M.pm [] [])⟩
 refine .kn 11 c7<| .gq 5 ?_
 rcases ift h with ⟨c8,h⟩ | ⟨c8,h⟩
 ·refine .kn 11 c8<| .gq 5 ?_
  obtain rfl:=sj h
  exact .ret func19 ⟨rfl,(M.pm [] [])⟩
 refine .kn 11 c8<| .gq 7 ?_
 obtain rfl:=sj h
 exact .ret func19 ⟨rfl,(M.pm [] [])⟩
def Yq.f (k:Nat) (a0:Int) (a1:Int):Option (Int):=if (decide (a1=0))=true then (none) else (if (decide ((Int.tmod a0 a1)<0))=true then (some (I64 ((Int.tmod a0 a1)+a1))) else (some (Int.tmod a0 a1)))
theorem Yq.calls {a0:Int} {a1:Int} {r:Int} (h:Yq.f k a0 a1=some r):Calls prog 24 #[.i a0,.i a1] w (Ret fun v w'=>v= .i r∧Mem w w' (Gs [] [])):=by
 unfold Yq.f at h
 refine calls_S func24 ?_
 have M:=Mem.r0 w
 refine .gq 8 ?_
 obtain ⟨c1,h⟩:=ifn h
 refine .yt (yl_rem (kd:= .i64) a0 c1)<| .gq 8 ?_
 rcases ift h with ⟨c2,h⟩ | ⟨c2,h⟩
 ·refine .kn 10 c2<| .gq 12 ?_
  obtain rfl:=sj h
  exact .ret func24 ⟨rfl,(M.pm [] [])⟩
 refine .kn 10 c2<| .gq 7 ?_
 obtain rfl:=sj h
 exact .ret func24 ⟨rfl,(M.pm [] [])⟩
def Ym.f (k:Nat) (a0:Int) (a1:Int) (a2:Li):Option Li:=if (a0==1)=true then (some ([]:Li)) else ((Yg.f k a1 a2).bind fun t4=>(some t4))
theorem Ym.calls {a0:Int} {a1:Int} {a2:Li} {r:Li} (hr2:Rd w (.slice Ap2 np2 cp2) (nums .u8 a2)) (h:Ym.f k a0 a1 a2=some r):Calls prog 25 #[.i a0,.i a1,(.slice Ap2 np2 cp2)] w (Ret fun v w'=> ∃A0' c0',v= .slice A0' r.length c0'∧Mem w w' (Gs [⟨.slice A0' r.length c0',5,1,nums .u8 r⟩] [])):=by
 obtain rfl:=hr2.ln
 unfold Ym.f at h
 refine calls_S func25 ?_
 have M:=Mem.r0 w
 refine .gq 10 ?_
 rcases ift h with ⟨c1,h⟩ | ⟨c1,h⟩
 ·refine .kn 8 c1<| .gq 5 ?_
  replace M:=M.n1 5
  obtain rfl:=sj h
  exact .ret func25 ⟨none,0,rfl,(M.pm [0] [])⟩
 refine .kn 8 c1<| .gq 6 ?_
 obtain ⟨t4,ht4,h⟩:=bs h
 refine .ca (Yg.calls (hr2.mono M.below) ht4) ?_
 rintro _ W3 ⟨A5,c6,rfl,M_⟩
 replace M:=M.cg M_
 refine .gq 2 ?_
 obtain rfl:=sj h
 exact .ret func25 ⟨A5,c6,rfl,(M.pm [0] [])⟩
def Yp.f (k:Nat) (a0:Ak):Option (Cf×Li×Li):=(Yi.f k a0.1).bind fun t8=>((Yq.f k a0.2.2.1 9).bind fun t10=>(if (decide ((I64 (1+t10))≤2))=true then ((Yq.f k a0.2.2.2.1 4).bind fun t24=>((Yh.f k t8 a0.2.1 a0.2.2.2.2.2.1).bind fun t28=>((Ys.f k t8).bind fun t33=>((Ym.f k (I64 (1+t10)) t33 a0.2.2.2.2.2.2).bind fun t35=>(some ((t8,I64 (1+t10),I64 (1+t24),a0.2.2.2.2.1),t28,t35)))))) else ((Yh.f k t8 a0.2.1 a0.2.2.2.2.2.1).bind fun t42=>((Ys.f k t8).bind fun t47=>((Ym.f k (I64 (1+t10)) t47 a0.2.2.2.2.2.2).bind fun t49=>(some ((t8,I64 (1+t10),4,a0.2.2.2.2.1),t42,t49)))))))
abbrev Yp.R (r:Cf×Li×Li) (w:World):Value→World→Prop:=fun v w'=> ∃A1' c1',∃A2' c2',v= .tuple #[.agg #[.i r.1.1,.i r.1.2.1,.i r.1.2.2.1,.bool r.1.2.2.2],.slice A1' r.2.1.length c1',.slice A2' r.2.2.length c2']∧Mem w w' (Gs [⟨.slice A1' r.2.1.length c1',5,1,nums .u8 r.2.1⟩,⟨.slice A2' r.2.2.length c2',5,1,nums .u8 r.2.2⟩] [])
theorem Yp.calls {As0_5:Option Addr} {ns0_5 cs0_5:Nat} {As0_6:Option Addr} {ns0_6 cs0_6:Nat} {a0:Ak} {r:Cf×Li×Li} (hs0_5:Rd w (.slice As0_5 ns0_5 cs0_5) (nums .u8 a0.2.2.2.2.2.1)) (hs0_6:Rd w (.slice As0_6 ns0_6 cs0_6) (nums .u8 a0.2.2.2.2.2.2)) (h:Yp.f k a0=some r):Calls prog 8 #[.agg #[.i a0.1,.i a0.2.1,.i a0.2.2.1,.i a0.2.2.2.1,.bool a0.2.2.2.2.1,.slice As0_5 ns0_5 cs0_5,.slice As0_6 ns0_6 cs0_6]] w (Ret (Yp.R r w)):=by
 obtain rfl:=hs0_5.ln
 obtain rfl:=hs0_6.ln
 unfold Yp.f at h
 refine calls_S func8 ?_
 have M:=Mem.r0 w
 refine .gq 2<| .nw 24 ([.i a0.1,.i a0.2.1,.i a0.2.2.1,.i a0.2.2.2.1,.bool a0.2.2.2.2.1,.slice As0_5 a0.2.2.2.2.2.1.length cs0_5,.slice As0_6 a0.2.2.2.2.2.2.length cs0_6]) M fun g1 W2 M=> .nw 27 ([.i 0,.i 0,.i 0,.bool false]) M fun g4 W5 M=> .gq 6<| .lv M 1 rfl 0 rfl ?_
 obtain ⟨t8,ht8,h⟩:=bs h
 refine .ca (Yi.calls ht8) ?_
 rintro _ W7 ⟨rfl,M_⟩
 replace M:=M.cg M_
 refine .gq 3<| .at (show RL 8 f8 (Yp.R r w) [1,1,0] [(1,.pt g1),(2,.pt g4),(5,.i t8)] _ from .dr [] M fun W9 M=> ?_)
 refine .pz tr [0,1]<| .lv tr 2 M 1 rfl 2 rfl<| .pz tr [5]<| .lv tr 6 M 1 rfl 4 rfl ?_
 obtain ⟨t10,ht10,h⟩:=bs h
 have J19: ∀(g12:Nat),RJ 8 f8 (Yp.R r w) [1,1,0] w [⟨.pt g12,27,0,[.i 0,.i 0,.i 0,.bool false]⟩,⟨.pt g4,27,0,[.i 0,.i 0,.i 0,.bool false]⟩,⟨.pt g1,24,0,[.i a0.1,.i a0.2.1,.i a0.2.2.1,.i a0.2.2.2.1,.bool a0.2.2.2.2.1,.slice As0_5 a0.2.2.2.2.2.1.length cs0_5,.slice As0_6 a0.2.2.2.2.2.2.length cs0_6]⟩] [] [0] ([0,1,2,5,6,8,3,4,7],[(1,.pt g1),(2,.pt g4),(5,.i t8),(6,.pt g12),(17,.agg #[.i t8,.i (I64 (1+t10)),.i 4,.bool a0.2.2.2.2.1])]):=by
  intro g12 W20 M
  refine .a1 tr 9<| .sw (N:=4) (new:=[.i t8,.i (I64 (1+t10)),.i 4,.bool a0.2.2.2.2.1]) M 0 rfl rfl rfl (by simp [Value.oneCell']) fun W21 M=> .dn tr<| .gq 4<| .lv M 0 rfl 1 rfl<| .gq 2 ?_
  rcases ift h with ⟨c22,h⟩ | ⟨c22,h⟩
  ·refine .kn 20 c22<| .gq 3<| .lv M 2 rfl 3 rfl ?_
   obtain ⟨t24,ht24,h⟩:=bs h
   refine .ca (Yq.calls ht24) ?_
   rintro _ W23 ⟨rfl,M_⟩
   replace M:=M.cg M_
   refine .gq 2<| .vf 2 (.i (I64 (1+t24))) M 0 rfl fun W25 M=> .gq 2<| .at (show RL 8 f8 (Yp.R r w) [1,1,1,1,0] [(1,.pt g1),(2,.pt g4),(5,.i t8),(6,.pt g12)] _ from .dr [1] M fun W26 M=> ?_)
   refine .y tr 0 (yl_ldp (g:=g12) (off:=0) 4 [.i t8,.i (I64 (1+t10)),.i (I64 (1+t24)),.bool a0.2.2.2.2.1] rfl) (fun _ hs=>(fun i_ u_ hu_=>match i_,hu_ with | 0,h_=>M.vs hs 0 rfl 0 h_ | 1,h_=>M.vs hs 0 rfl 1 h_ | 2,h_=>M.vs hs 0 rfl 2 h_ | 3,h_=>M.vs hs 0 rfl 3 h_ | _+4,h_=>by cases h_))<| .pz tr [1,2]<| .lv tr 3 M 2 rfl 1 rfl<| .pz tr [4]<| .lv tr 5 M 2 rfl 5 rfl<| .pz tr [7]<| .lv tr 8 M 0 rfl 1 rfl<| .pz tr [9,11]<| .lv tr 12 M 2 rfl 6 rfl ?_
   obtain ⟨t28,ht28,h⟩:=bs h
   refine .a1 tr 6<| .ca (Yh.calls (hs0_5.mono M.below) ht28) ?_
   rintro _ W27 ⟨A29,c30,rfl,M_⟩
   refine .ca M_ [2] ?_
   replace M:=M.cg M_
   obtain ⟨t33,ht33,h⟩:=bs h
   refine .a1 tr 10<| .ca (Ys.calls ht33) ?_
   rintro _ W32 ⟨rfl,M_⟩
   refine .ca M_ [2] ?_
   replace M:=M.cg M_
   obtain ⟨t35,ht35,h⟩:=bs h
   refine .a1 tr 13<| .ca (Ym.calls (hs0_6.mono M.below) ht35) ?_
   rintro _ W34 ⟨A36,c37,rfl,M_⟩
   refine .ca M_ [3] ?_
   replace M:=M.cg M_
   refine .a1 tr 14<| .sw (N:=4) (new:=[.i t8,.i (I64 (1+t10)),.i (I64 (1+t24)),.bool a0.2.2.2.2.1]) M 3 rfl rfl rfl (by simp [Value.oneCell']) fun W39 M=> .pz tr [15,16]<| .dn tr ?_
   obtain rfl:=sj h
   exact .r3 2 27 3 4 4 func8 M 3 rfl rfl ⟨A29,c30,A36,c37,rfl,(M.pm [1,0] [])⟩
  refine .kn 20 c22<| .gq 3<| .at (show RL 8 f8 (Yp.R r w) [1,1,1,1,0] [(1,.pt g1),(2,.pt g4),(5,.i t8),(6,.pt g12)] _ from .dr [1] M fun W40 M=> ?_)
  refine .y tr 0 (yl_ldp (g:=g12) (off:=0) 4 [.i t8,.i (I64 (1+t10)),.i 4,.bool a0.2.2.2.2.1] rfl) (fun _ hs=>(fun i_ u_ hu_=>match i_,hu_ with | 0,h_=>M.vs hs 0 rfl 0 h_ | 1,h_=>M.vs hs 0 rfl 1 h_ | 2,h_=>M.vs hs 0 rfl 2 h_ | 3,h_=>M.vs hs 0 rfl 3 h_ | _+4,h_=>by cases h_))<| .pz tr [1,2]<| .lv tr 3 M 2 rfl 1 rfl<| .pz tr [4]<| .lv tr 5 M 2 rfl 5 rfl<| .pz tr [7]<| .lv tr 8 M 0 rfl 1 rfl<| .pz tr [9,11]<| .lv tr 12 M 2 rfl 6 rfl ?_
  obtain ⟨t42,ht42,h⟩:=bs h
  refine .a1 tr 6<| .ca (Yh.calls (hs0_5.mono M.below) ht42) ?_
  rintro _ W41 ⟨A43,c44,rfl,M_⟩
  refine .ca M_ [2] ?_
  replace M:=M.cg M_
  obtain ⟨t47,ht47,h⟩:=bs h
  refine .a1 tr 10<| .ca (Ys.calls ht47) ?_
  rintro _ W46 ⟨rfl,M_⟩
  refine .ca M_ [2] ?_
  replace M:=M.cg M_
  obtain ⟨t49,ht49,h⟩:=bs h
  refine .a1 tr 13<| .ca (Ym.calls (hs0_6.mono M.below) ht49) ?_
  rintro _ W48 ⟨A50,c51,rfl,M_⟩
  refine .ca M_ [3] ?_
  replace M:=M.cg M_
  refine .a1 tr 14<| .sw (N:=4) (new:=[.i t8,.i (I64 (1+t10)),.i 4,.bool a0.2.2.2.2.1]) M 3 rfl rfl rfl (by simp [Value.oneCell']) fun W53 M=> .pz tr [15,16]<| .dn tr ?_
  obtain rfl:=sj h
  exact .r3 2 27 3 4 4 func8 M 3 rfl rfl ⟨A43,c44,A50,c51,rfl,(M.pm [1,0] [])⟩
 have J54:RJ 8 f8 (Yp.R r w) [1,1,0] w [⟨.pt g4,27,0,[.i 0,.i 0,.i 0,.bool false]⟩,⟨.pt g1,24,0,[.i a0.1,.i a0.2.1,.i a0.2.2.1,.i a0.2.2.2.1,.bool a0.2.2.2.2.1,.slice As0_5 a0.2.2.2.2.2.1.length cs0_5,.slice As0_6 a0.2.2.2.2.2.2.length cs0_6]⟩] [] [] ([0,1,2,5,6,3,4,7],[(1,.pt g1),(2,.pt g4),(5,.i t8),(17,.agg #[.i t8,.i (I64 (1+t10)),.i 4,.bool a0.2.2.2.2.1])]):=by
  intro W55 M
  exact .a1 tr 8<| .nw 27 ([.i 0,.i 0,.i 0,.bool false]) M [0] fun g56 W57 M=> .jn M [0,1,2] [] (J19 g56) rfl rfl
 have J59: ∀(g12:Nat),RJ 8 f8 (Yp.R r w) [1,1,0] w [⟨.pt g12,27,0,[.i 0,.i 0,.i 0,.bool false]⟩,⟨.pt g4,27,0,[.i 0,.i 0,.i 0,.bool false]⟩,⟨.pt g1,24,0,[.i a0.1,.i a0.2.1,.i a0.2.2.1,.i a0.2.2.2.1,.bool a0.2.2.2.2.1,.slice As0_5 a0.2.2.2.2.2.1.length cs0_5,.slice As0_6 a0.2.2.2.2.2.2.length cs0_6]⟩] [] [0] ([0,1,2,5,6,8],[(1,.pt g1),(2,.pt g4),(5,.i t8),(6,.pt g12),(10,.i t8),(12,.i a0.2.2.1),(16,.bool a0.2.2.2.2.1)]):=by
  intro g12 W60 M
  refine .a1 tr 3<| .ca (Yq.calls ht10) ?_
  rintro _ W61 ⟨rfl,M_⟩
  refine .ca M_ [0] ?_
  replace M:=M.cg M_
  exact .pz tr [4,7]<| .jn M [0,1,2] [] (J19 g12) rfl rfl
 refine .a2 tr 3 8 ?_ ?_
 ·refine .ca (Yq.calls ht10) ?_
  rintro _ W62 ⟨rfl,M_⟩
  refine .ca M_ [] ?_
  replace M:=M.cg M_
  exact .pz tr [4,7]<| .jn M [0,1] [] (J54) rfl rfl
 ·exact .nw 27 ([.i 0,.i 0,.i 0,.bool false]) M [0] fun g63 W64 M=> .jn M [0,1,2] [] (J59 g63) rfl rfl
def scrimtop_TopApart.l0:Nat→Lj→Lj→Cy→Cy→Cy→Int→Option (Bool)
 | 0,_,_,_,_,_,_=>none
 | k+1,t85,t87,x11_0,x12_0,x13_0,x22_0=>if (decide (x22_0<(t85.length:Int)))=true then (gd (0≤x22_0) (gd (x22_0<(t85.length:Int)) ((Q5.f k x11_0 (rdr ([]:Li) t85 x22_0)).bind fun t108=>(if (decide (x22_0<(t87.length:Int)))=true then (gd (0≤x22_0) (gd (x22_0<(t87.length:Int)) ((Q5.f k x12_0 (rdr ([]:Li) t87 x22_0)).bind fun t125=>(gd (0≤x22_0) (gd (x22_0<(t85.length:Int)) ((Q5.f k x13_0 (rdr ([]:Li) t85 x22_0)).bind fun t141=>((some (!((strOf t108.1).toList==(strOf t141.1).toList):Bool)).bind fun y153=>(if y153=true then (some false) else (scrimtop_TopApart.l0 k t85 t87 t108.2.2 t125.2.2 t141.2.2 (I64 (x22_0+1))))))))))) else (gd (0≤x22_0) (gd (x22_0<(t85.length:Int)) ((Q5.f k x13_0 (rdr ([]:Li) t85 x22_0)).bind fun t159=>((some (!((strOf t108.1).toList==(strOf t159.1).toList):Bool)).bind fun y171=>(if y171=true then (some false) else (scrimtop_TopApart.l0 k t85 t87 t108.2.2 x12_0 t159.2.2 (I64 (x22_0+1)))))))))))) else ((Q3.f k x12_0).bind fun t174=>((Q3.f k x11_0).bind fun t181=>((Q3.f k x13_0).bind fun t188=>(if (t181.2==t188.2)=true then (some ((strOf t181.1).toList==(strOf t188.1).toList)) else (some false)))))
def scrimtop_TopApart.f (k:Nat) (a0:Ak) (a1:Ak) (a2:Li) (a3:Li) (a4:Li):Option (Bool):=(Yt.f k).bind fun t8=>(if (!t8)=true then (some false) else (if (decide ((a2.length:Int)>200))=true then (some true) else (if (decide ((a3.length:Int)>200))=true then (some true) else ((Yo.f k a0).bind fun t13=>(if (!t13)=true then (some true) else ((Yo.f k a1).bind fun t16=>(if (!t16)=true then (some true) else ((Vc.f k).bind fun t19=>((Vc.f k).bind fun t23=>((Vc.f k).bind fun t27=>((Yp.f k a0).bind fun t31=>((Yp.f k a1).bind fun t43=>((Q4.f k t19 t31.1 t31.2.1 t31.2.2).bind fun t55=>(if (t55.1 != 0)=true then (some false) else ((Q4.f k t23 t43.1 t43.2.1 t43.2.2).bind fun t65=>(if (t65.1 != 0)=true then (some false) else ((Q4.f k t27 t31.1 t31.2.1 t31.2.2).bind fun t75=>(if (t75.1 != 0)=true then (some false) else ((Yk.f k a2 a4).bind fun t85=>((Yk.f k a3 a4).bind fun t87=>(scrimtop_TopApart.l0 k t85 t87 t55.2 t65.2 t75.2 0)))))))))))))))))))))
abbrev scrimtop_TopApart.R (r:Bool) (w:World):Value→World→Prop:=fun v w'=>v= .bool r∧Mem w w' (Gs [] [])
theorem scrimtop_TopApart.calls {As0_5:Option Addr} {ns0_5 cs0_5:Nat} {As0_6:Option Addr} {ns0_6 cs0_6:Nat} {a0:Ak} {As1_5:Option Addr} {ns1_5 cs1_5:Nat} {As1_6:Option Addr} {ns1_6 cs1_6:Nat} {a1:Ak} {a2:Li} {a3:Li} {a4:Li} {r:Bool} (hr2:Rd w (.slice Ap2 np2 cp2) (nums .u8 a2)) (hr3:Rd w (.slice Ap3 np3 cp3) (nums .u8 a3)) (hr4:Rd w (.slice Ap4 np4 cp4) (nums .i64 a4)) (hs0_5:Rd w (.slice As0_5 ns0_5 cs0_5) (nums .u8 a0.2.2.2.2.2.1)) (hs0_6:Rd w (.slice As0_6 ns0_6 cs0_6) (nums .u8 a0.2.2.2.2.2.2)) (hs1_5:Rd w (.slice As1_5 ns1_5 cs1_5) (nums .u8 a1.2.2.2.2.2.1)) (hs1_6:Rd w (.slice As1_6 ns1_6 cs1_6) (nums .u8 a1.2.2.2.2.2.2)) (hG1:Rg w 1 (nums .u8 [1,2,4,8,16,32,64,128])) (h:scrimtop_TopApart.f k a0 a1 a2 a3 a4=some r):Calls prog 4 #[.agg #[.i a0.1,.i a0.2.1,.i a0.2.2.1,.i a0.2.2.2.1,.bool a0.2.2.2.2.1,.slice As0_5 ns0_5 cs0_5,.slice As0_6 ns0_6 cs0_6],.agg #[.i a1.1,.i a1.2.1,.i a1.2.2.1,.i a1.2.2.2.1,.bool a1.2.2.2.2.1,.slice As1_5 ns1_5 cs1_5,.slice As1_6 ns1_6 cs1_6],(.slice Ap2 np2 cp2),(.slice Ap3 np3 cp3),(.slice Ap4 np4 cp4)] w (Ret (scrimtop_TopApart.R r w)):=by
 obtain rfl:=hr2.ln
 obtain rfl:=hr3.ln
 obtain rfl:=hr4.ln
 obtain rfl:=hs0_5.ln
 obtain rfl:=hs0_6.ln
 obtain rfl:=hs1_5.ln
 obtain rfl:=hs1_6.ln
 unfold scrimtop_TopApart.f at h
 refine calls_S func4 ?_
 have M:=Mem.r0 w
 refine .gq 2<| .nw 24 ([.i a0.1,.i a0.2.1,.i a0.2.2.1,.i a0.2.2.2.1,.bool a0.2.2.2.2.1,.slice As0_5 a0.2.2.2.2.2.1.length cs0_5,.slice As0_6 a0.2.2.2.2.2.2.length cs0_6]) M fun g1 W2 M=> .nw 24 ([.i a1.1,.i a1.2.1,.i a1.2.2.1,.i a1.2.2.2.1,.bool a1.2.2.2.2.1,.slice As1_5 a1.2.2.2.2.2.1.length cs1_5,.slice As1_6 a1.2.2.2.2.2.2.length cs1_6]) M fun g4 W5 M=> .gq 5 ?_
 obtain ⟨t8,ht8,h⟩:=bs h
 refine .ca (Yt.calls (hG1.mono M.below) ht8) ?_
 rintro _ W7 ⟨rfl,M_⟩
 replace M:=M.cg M_
 refine .gq 2 ?_
 rcases ift h with ⟨c9,h⟩ | ⟨c9,h⟩
 ·refine .kn 32 c9<| .gq 5 ?_
  obtain rfl:=sj h
  exact .ret func4 ⟨rfl,(M.pm [] [])⟩
 refine .kn 32 c9<| .gq 9 ?_
 rcases ift h with ⟨c10,h⟩ | ⟨c10,h⟩
 ·refine .kn 36 c10<| .gq 20 ?_
  obtain rfl:=sj h
  exact .ret func4 ⟨rfl,(M.pm [] [])⟩
 refine .kn 36 c10<| .gq 5 ?_
 rcases ift h with ⟨c11,h⟩ | ⟨c11,h⟩
 ·refine .kn 41 c11<| .gq 15 ?_
  obtain rfl:=sj h
  exact .ret func4 ⟨rfl,(M.pm [] [])⟩
 refine .kn 41 c11<| .y (yl_ldp (g:=g1) (off:=0) 7 [.i a0.1,.i a0.2.1,.i a0.2.2.1,.i a0.2.2.2.1,.bool a0.2.2.2.2.1,.slice As0_5 a0.2.2.2.2.2.1.length cs0_5,.slice As0_6 a0.2.2.2.2.2.2.length cs0_6] rfl) (fun i_ u_ hu_=>match i_,hu_ with | 0,h_=>(M.var_at 1 rfl (i:=0) (u:=u_) h_).1 | 1,h_=>(M.var_at 1 rfl (i:=1) (u:=u_) h_).1 | 2,h_=>(M.var_at 1 rfl (i:=2) (u:=u_) h_).1 | 3,h_=>(M.var_at 1 rfl (i:=3) (u:=u_) h_).1 | 4,h_=>(M.var_at 1 rfl (i:=4) (u:=u_) h_).1 | 5,h_=>(M.var_at 1 rfl (i:=5) (u:=u_) h_).1 | 6,h_=>(M.var_at 1 rfl (i:=6) (u:=u_) h_).1 | _+7,h_=>by cases h_) ?_
 obtain ⟨t13,ht13,h⟩:=bs h
 refine .ca (Yo.calls (hs0_5.mono M.below) (hs0_6.mono M.below) ht13) ?_
 rintro _ W12 ⟨rfl,M_⟩
 replace M:=M.cg M_
 refine .gq 3 ?_
 rcases ift h with ⟨c14,h⟩ | ⟨c14,h⟩
 ·refine .kn 46 c14<| .gq 10 ?_
  obtain rfl:=sj h
  exact .ret func4 ⟨rfl,(M.pm [] [])⟩
 refine .kn 46 c14<| .y (yl_ldp (g:=g4) (off:=0) 7 [.i a1.1,.i a1.2.1,.i a1.2.2.1,.i a1.2.2.2.1,.bool a1.2.2.2.2.1,.slice As1_5 a1.2.2.2.2.2.1.length cs1_5,.slice As1_6 a1.2.2.2.2.2.2.length cs1_6] rfl) (fun i_ u_ hu_=>match i_,hu_ with | 0,h_=>(M.var_at 0 rfl (i:=0) (u:=u_) h_).1 | 1,h_=>(M.var_at 0 rfl (i:=1) (u:=u_) h_).1 | 2,h_=>(M.var_at 0 rfl (i:=2) (u:=u_) h_).1 | 3,h_=>(M.var_at 0 rfl (i:=3) (u:=u_) h_).1 | 4,h_=>(M.var_at 0 rfl (i:=4) (u:=u_) h_).1 | 5,h_=>(M.var_at 0 rfl (i:=5) (u:=u_) h_).1 | 6,h_=>(M.var_at 0 rfl (i:=6) (u:=u_) h_).1 | _+7,h_=>by cases h_) ?_
 obtain ⟨t16,ht16,h⟩:=bs h
 refine .ca (Yo.calls (hs1_5.mono M.below) (hs1_6.mono M.below) ht16) ?_
 rintro _ W15 ⟨rfl,M_⟩
 replace M:=M.cg M_
 refine .gq 3 ?_
 rcases ift h with ⟨c17,h⟩ | ⟨c17,h⟩
 ·refine .kn 50 c17<| .gq 5 ?_
  obtain rfl:=sj h
  exact .ret func4 ⟨rfl,(M.pm [] [])⟩
 refine .kn 50 c17<| .gq 4 ?_
 obtain ⟨t19,ht19,h⟩:=bs h
 refine .ca (Vc.calls ht19) ?_
 rintro _ W18 ⟨gt19_0,cst19_0,Ft19_0,rfl,hRt19_0,M_⟩
 obtain ⟨_,_,_,_,_,_,uo20_6,_,uo20_8,_,_,rfl,rfl,rfl,rfl,rfl,rfl,rfl,ho20_6,⟨Ao20_7,co20_7,rfl,ho20_7⟩,ho20_8,⟨Ao20_9,co20_9,rfl,ho20_9⟩,⟨Ao20_10,co20_10,rfl,ho20_10⟩⟩:=hRt19_0
 replace M:=M.cg M_
 obtain ⟨t23,ht23,h⟩:=bs h
 refine .ca (Vc.calls ht23) ?_
 rintro _ W22 ⟨gt23_0,cst23_0,Ft23_0,rfl,hRt23_0,M_⟩
 obtain ⟨_,_,_,_,_,_,uo24_6,_,uo24_8,_,_,rfl,rfl,rfl,rfl,rfl,rfl,rfl,ho24_6,⟨Ao24_7,co24_7,rfl,ho24_7⟩,ho24_8,⟨Ao24_9,co24_9,rfl,ho24_9⟩,⟨Ao24_10,co24_10,rfl,ho24_10⟩⟩:=hRt23_0
 replace M:=M.cg M_
 obtain ⟨t27,ht27,h⟩:=bs h
 refine .ca (Vc.calls ht27) ?_
 rintro _ W26 ⟨gt27_0,cst27_0,Ft27_0,rfl,hRt27_0,M_⟩
 obtain ⟨_,_,_,_,_,_,uo28_6,_,uo28_8,_,_,rfl,rfl,rfl,rfl,rfl,rfl,rfl,ho28_6,⟨Ao28_7,co28_7,rfl,ho28_7⟩,ho28_8,⟨Ao28_9,co28_9,rfl,ho28_9⟩,⟨Ao28_10,co28_10,rfl,ho28_10⟩⟩:=hRt27_0
 replace M:=M.cg M_
 refine .gq 6<| .y (yl_ldp (g:=g1) (off:=0) 7 [.i a0.1,.i a0.2.1,.i a0.2.2.1,.i a0.2.2.2.1,.bool a0.2.2.2.2.1,.slice As0_5 a0.2.2.2.2.2.1.length cs0_5,.slice As0_6 a0.2.2.2.2.2.2.length cs0_6] rfl) (fun i_ u_ hu_=>match i_,hu_ with | 0,h_=>(M.var_at 4 rfl (i:=0) (u:=u_) h_).1 | 1,h_=>(M.var_at 4 rfl (i:=1) (u:=u_) h_).1 | 2,h_=>(M.var_at 4 rfl (i:=2) (u:=u_) h_).1 | 3,h_=>(M.var_at 4 rfl (i:=3) (u:=u_) h_).1 | 4,h_=>(M.var_at 4 rfl (i:=4) (u:=u_) h_).1 | 5,h_=>(M.var_at 4 rfl (i:=5) (u:=u_) h_).1 | 6,h_=>(M.var_at 4 rfl (i:=6) (u:=u_) h_).1 | _+7,h_=>by cases h_) ?_
 obtain ⟨t31,ht31,h⟩:=bs h
 refine .ca (Yp.calls (hs0_5.mono M.below) (hs0_6.mono M.below) ht31) ?_
 rintro _ W30 ⟨A32,c33,A34,c35,rfl,M_⟩
 replace M:=M.cg M_
 refine .gq 4<| .nw 27 ([.i 0,.i 0,.i 0,.bool false]) M fun g38 W39 M=> .sw (N:=4) (new:=[.i t31.1.1,.i t31.1.2.1,.i t31.1.2.2.1,.bool t31.1.2.2.2]) M 0 rfl rfl rfl (by simp [Value.oneCell']) fun W41 M=> .gq 5<| .y (yl_ldp (g:=g4) (off:=0) 7 [.i a1.1,.i a1.2.1,.i a1.2.2.1,.i a1.2.2.2.1,.bool a1.2.2.2.2.1,.slice As1_5 a1.2.2.2.2.2.1.length cs1_5,.slice As1_6 a1.2.2.2.2.2.2.length cs1_6] rfl) (fun i_ u_ hu_=>match i_,hu_ with | 0,h_=>(M.var_at 6 rfl (i:=0) (u:=u_) h_).1 | 1,h_=>(M.var_at 6 rfl (i:=1) (u:=u_) h_).1 | 2,h_=>(M.var_at 6 rfl (i:=2) (u:=u_) h_).1 | 3,h_=>(M.var_at 6 rfl (i:=3) (u:=u_) h_).1 | 4,h_=>(M.var_at 6 rfl (i:=4) (u:=u_) h_).1 | 5,h_=>(M.var_at 6 rfl (i:=5) (u:=u_) h_).1 | 6,h_=>(M.var_at 6 rfl (i:=6) (u:=u_) h_).1 | _+7,h_=>by cases h_) ?_
 obtain ⟨t43,ht43,h⟩:=bs h
 refine .ca (Yp.calls (hs1_5.mono M.below) (hs1_6.mono M.below) ht43) ?_
 rintro _ W42 ⟨A44,c45,A46,c47,rfl,M_⟩
 replace M:=M.cg M_
 refine .gq 4<| .nw 27 ([.i 0,.i 0,.i 0,.bool false]) M fun g50 W51 M=> .sw (N:=4) (new:=[.i t43.1.1,.i t43.1.2.1,.i t43.1.2.2.1,.bool t43.1.2.2.2]) M 0 rfl rfl rfl (by simp [Value.oneCell']) fun W53 M=> .gq 18<| .y (yl_ldp (g:=g38) (off:=0) 4 [.i t31.1.1,.i t31.1.2.1,.i t31.1.2.2.1,.bool t31.1.2.2.2] rfl) (fun i_ u_ hu_=>match i_,hu_ with | 0,h_=>(M.var_at 3 rfl (i:=0) (u:=u_) h_).1 | 1,h_=>(M.var_at 3 rfl (i:=1) (u:=u_) h_).1 | 2,h_=>(M.var_at 3 rfl (i:=2) (u:=u_) h_).1 | 3,h_=>(M.var_at 3 rfl (i:=3) (u:=u_) h_).1 | _+4,h_=>by cases h_)<| .gq 2 ?_
 have hs56:Rs_ctx_Ctx (Oks Ft19_0) [.bool t19.1,.bool t19.2.1,.i t19.2.2.1,.i t19.2.2.2.1,.i t19.2.2.2.2.1,.bool t19.2.2.2.2.2.1,uo20_6,.slice Ao20_7 t19.2.2.2.2.2.2.2.1.length co20_7,uo20_8,.slice Ao20_9 t19.2.2.2.2.2.2.2.2.2.1.length co20_9,.slice Ao20_10 t19.2.2.2.2.2.2.2.2.2.2.length co20_10] t19:=⟨_,_,_,_,_,_,_,_,_,_,_,rfl,rfl,rfl,rfl,rfl,rfl,rfl,(upc _ _ _ _ (fun _ z=>z) ho20_6),(upn (fun _ z=>z) (rno ho20_7 (M.oks 2))),((up_opt (up_ptr up_Rs_modes_Mode)) _ _ _ _ (fun _ z=>z) ho20_8),(upn (fun _ z=>z) (rno ho20_9 (M.oks 2))),(upn (fun _ z=>z) (rno ho20_10 (M.oks 2)))⟩
 obtain ⟨t55,ht55,h⟩:=bs h
 refine .ca (Q4.calls (hp0:=hs56) (hZm:=fun _ hk_ hT_=>(hT_.fg 2 rfl)) (M0:=M.fm [8] [0,1,2,3,4,5,6,7,9,10] [0,1,2] rfl rfl rfl) (Zp2:=fun W_=>Rd W_ (.slice A32 t31.2.1.length c33) (nums .u8 t31.2.1)) (hr2:=fun _ h_=>h_) (hZp2:=fun _ hk_ hT_=>(hT_.fr 4 rfl)) (Zp3:=fun W_=>Rd W_ (.slice A34 t31.2.2.length c35) (nums .u8 t31.2.2)) (hr3:=fun _ h_=>h_) (hZp3:=fun _ hk_ hT_=>(hT_.fr 5 rfl)) (hG1:=hG1) (h:=ht55)) ?_
 rintro _ W54 ⟨cst55,Ft55,gq8t55,csq8t55,eq85t55,Aq9t55,nq9t55,cq9t55,rfl,hRt55,hq8t55,hq85t55,M_⟩
 have hr57:MxA_ctx_Ctx (andZ (Oks Ft55) (Oks Ft19_0)) (.pt gq8t55) (.slice Aq9t55 nq9t55 cq9t55) cst55 t55.2:=hRt55
 have hrhr578:Rs_modes_Mode (andZ (Oks Ft55) (Oks Ft19_0)) csq8t55 t55.2.2.2.2.2.2.2.2.2.1:=hq8t55
 have hrhr5785:Own5 eq85t55 csq8t55 t55.2.2.2.2.2.2.2.2.2.1:=hq85t55
 replace M:=M_.uf
 obtain rfl:=(M_.or 3).ln
 obtain ⟨uo59_0,_,_,_,_,uo59_5,rfl,ho59_0,rfl,rfl,⟨Ao59_3,co59_3,rfl,ho59_3⟩,⟨Ao59_4,co59_4,rfl,ho59_4⟩⟩:=hrhr578
 obtain ⟨_,_,_,_,_,_,uo62_6,_,_,rfl,rfl,rfl,rfl,rfl,rfl,rfl,ho62_6,⟨Ao62_7,co62_7,rfl,ho62_7⟩,⟨Ao62_10,co62_10,rfl,ho62_10⟩⟩:=hr57
 refine .gq 3 ?_
 rcases ift h with ⟨c63,h⟩ | ⟨c63,h⟩
 ·refine .kn 84 c63<| .gq 21 ?_
  obtain rfl:=sj h
  exact .ret func4 ⟨rfl,(M.pm [] [])⟩
 refine .kn 84 c63<| .gq 1<| .y (yl_ldp (g:=g50) (off:=0) 4 [.i t43.1.1,.i t43.1.2.1,.i t43.1.2.2.1,.bool t43.1.2.2.2] rfl) (fun i_ u_ hu_=>match i_,hu_ with | 0,h_=>(M.var_at 4 rfl (i:=0) (u:=u_) h_).1 | 1,h_=>(M.var_at 4 rfl (i:=1) (u:=u_) h_).1 | 2,h_=>(M.var_at 4 rfl (i:=2) (u:=u_) h_).1 | 3,h_=>(M.var_at 4 rfl (i:=3) (u:=u_) h_).1 | _+4,h_=>by cases h_)<| .gq 2 ?_
 have hs66:Rs_ctx_Ctx (Oks Ft23_0) [.bool t23.1,.bool t23.2.1,.i t23.2.2.1,.i t23.2.2.2.1,.i t23.2.2.2.2.1,.bool t23.2.2.2.2.2.1,uo24_6,.slice Ao24_7 t23.2.2.2.2.2.2.2.1.length co24_7,uo24_8,.slice Ao24_9 t23.2.2.2.2.2.2.2.2.2.1.length co24_9,.slice Ao24_10 t23.2.2.2.2.2.2.2.2.2.2.length co24_10] t23:=⟨_,_,_,_,_,_,_,_,_,_,_,rfl,rfl,rfl,rfl,rfl,rfl,rfl,(upc _ _ _ _ (fun _ z=>z) ho24_6),(upn (fun _ z=>z) (rno ho24_7 (M.oks 2))),((up_opt (up_ptr up_Rs_modes_Mode)) _ _ _ _ (fun _ z=>z) ho24_8),(upn (fun _ z=>z) (rno ho24_9 (M.oks 2))),(upn (fun _ z=>z) (rno ho24_10 (M.oks 2)))⟩
 obtain ⟨t65,ht65,h⟩:=bs h
 refine .ca (Q4.calls (hp0:=hs66) (hZm:=fun _ hk_ hT_=>(hT_.fg 2 rfl)) (M0:=M.fm [11] [0,1,2,3,4,5,6,7,8,9,10,12,13] [0,1,2,3] rfl rfl rfl) (Zp2:=fun W_=>Rd W_ (.slice A44 t43.2.1.length c45) (nums .u8 t43.2.1)) (hr2:=fun _ h_=>h_) (hZp2:=fun _ hk_ hT_=>(hT_.fr 5 rfl)) (Zp3:=fun W_=>Rd W_ (.slice A46 t43.2.2.length c47) (nums .u8 t43.2.2)) (hr3:=fun _ h_=>h_) (hZp3:=fun _ hk_ hT_=>(hT_.fr 6 rfl)) (hG1:=hG1) (h:=ht65)) ?_
 rintro _ W64 ⟨cst65,Ft65,gq8t65,csq8t65,eq85t65,Aq9t65,nq9t65,cq9t65,rfl,hRt65,hq8t65,hq85t65,M_⟩
 have hr67:MxA_ctx_Ctx (andZ (Oks Ft65) (Oks Ft23_0)) (.pt gq8t65) (.slice Aq9t65 nq9t65 cq9t65) cst65 t65.2:=hRt65
 have hrhr678:Rs_modes_Mode (andZ (Oks Ft65) (Oks Ft23_0)) csq8t65 t65.2.2.2.2.2.2.2.2.2.1:=hq8t65
 have hrhr6785:Own5 eq85t65 csq8t65 t65.2.2.2.2.2.2.2.2.2.1:=hq85t65
 replace M:=M_.uf
 obtain rfl:=(M_.or 3).ln
 obtain ⟨uo69_0,_,_,_,_,uo69_5,rfl,ho69_0,rfl,rfl,⟨Ao69_3,co69_3,rfl,ho69_3⟩,⟨Ao69_4,co69_4,rfl,ho69_4⟩⟩:=hrhr678
 obtain ⟨_,_,_,_,_,_,uo72_6,_,_,rfl,rfl,rfl,rfl,rfl,rfl,rfl,ho72_6,⟨Ao72_7,co72_7,rfl,ho72_7⟩,⟨Ao72_10,co72_10,rfl,ho72_10⟩⟩:=hr67
 refine .gq 3 ?_
 rcases ift h with ⟨c73,h⟩ | ⟨c73,h⟩
 ·refine .kn 92 c73<| .gq 13 ?_
  obtain rfl:=sj h
  exact .ret func4 ⟨rfl,(M.pm [] [])⟩
 refine .kn 92 c73<| .gq 1<| .y (yl_ldp (g:=g38) (off:=0) 4 [.i t31.1.1,.i t31.1.2.1,.i t31.1.2.2.1,.bool t31.1.2.2.2] rfl) (fun i_ u_ hu_=>match i_,hu_ with | 0,h_=>(M.var_at 11 rfl (i:=0) (u:=u_) h_).1 | 1,h_=>(M.var_at 11 rfl (i:=1) (u:=u_) h_).1 | 2,h_=>(M.var_at 11 rfl (i:=2) (u:=u_) h_).1 | 3,h_=>(M.var_at 11 rfl (i:=3) (u:=u_) h_).1 | _+4,h_=>by cases h_)<| .gq 2 ?_
 have hs76:Rs_ctx_Ctx (Oks Ft27_0) [.bool t27.1,.bool t27.2.1,.i t27.2.2.1,.i t27.2.2.2.1,.i t27.2.2.2.2.1,.bool t27.2.2.2.2.2.1,uo28_6,.slice Ao28_7 t27.2.2.2.2.2.2.2.1.length co28_7,uo28_8,.slice Ao28_9 t27.2.2.2.2.2.2.2.2.2.1.length co28_9,.slice Ao28_10 t27.2.2.2.2.2.2.2.2.2.2.length co28_10] t27:=⟨_,_,_,_,_,_,_,_,_,_,_,rfl,rfl,rfl,rfl,rfl,rfl,rfl,(upc _ _ _ _ (fun _ z=>z) ho28_6),(upn (fun _ z=>z) (rno ho28_7 (M.oks 2))),((up_opt (up_ptr up_Rs_modes_Mode)) _ _ _ _ (fun _ z=>z) ho28_8),(upn (fun _ z=>z) (rno ho28_9 (M.oks 2))),(upn (fun _ z=>z) (rno ho28_10 (M.oks 2)))⟩
 obtain ⟨t75,ht75,h⟩:=bs h
 refine .ca (Q4.calls (hp0:=hs76) (hZm:=fun _ hk_ hT_=>(hT_.fg 2 rfl)) (M0:=M.fm [14] [0,1,2,3,4,5,6,7,8,9,10,11,12,13,15,16] [0,1,2,3,4] rfl rfl rfl) (Zp2:=fun W_=>Rd W_ (.slice A32 t31.2.1.length c33) (nums .u8 t31.2.1)) (hr2:=fun _ h_=>h_) (hZp2:=fun _ hk_ hT_=>(hT_.fr 12 rfl)) (Zp3:=fun W_=>Rd W_ (.slice A34 t31.2.2.length c35) (nums .u8 t31.2.2)) (hr3:=fun _ h_=>h_) (hZp3:=fun _ hk_ hT_=>(hT_.fr 13 rfl)) (hG1:=hG1) (h:=ht75)) ?_
 rintro _ W74 ⟨cst75,Ft75,gq8t75,csq8t75,eq85t75,Aq9t75,nq9t75,cq9t75,rfl,hRt75,hq8t75,hq85t75,M_⟩
 have hr77:MxA_ctx_Ctx (andZ (Oks Ft75) (Oks Ft27_0)) (.pt gq8t75) (.slice Aq9t75 nq9t75 cq9t75) cst75 t75.2:=hRt75
 have hrhr778:Rs_modes_Mode (andZ (Oks Ft75) (Oks Ft27_0)) csq8t75 t75.2.2.2.2.2.2.2.2.2.1:=hq8t75
 have hrhr7785:Own5 eq85t75 csq8t75 t75.2.2.2.2.2.2.2.2.2.1:=hq85t75
 replace M:=M_.uf
 obtain rfl:=(M_.or 3).ln
 obtain ⟨uo79_0,_,_,_,_,uo79_5,rfl,ho79_0,rfl,rfl,⟨Ao79_3,co79_3,rfl,ho79_3⟩,⟨Ao79_4,co79_4,rfl,ho79_4⟩⟩:=hrhr778
 obtain ⟨_,_,_,_,_,_,uo82_6,_,_,rfl,rfl,rfl,rfl,rfl,rfl,rfl,ho82_6,⟨Ao82_7,co82_7,rfl,ho82_7⟩,⟨Ao82_10,co82_10,rfl,ho82_10⟩⟩:=hr77
 refine .gq 3 ?_
 rcases ift h with ⟨c83,h⟩ | ⟨c83,h⟩
 ·refine .kn 99 c83<| .gq 5 ?_
  obtain rfl:=sj h
  exact .ret func4 ⟨rfl,(M.pm [] [])⟩
 refine .kn 99 c83<| .gq 6 ?_
 obtain ⟨t85,ht85,h⟩:=bs h
 refine .ca (Yk.calls (hr4.mono M.below) (RdF.of_rd hr2) (fun _ z=>(M.kept.trans z)) ht85) ?_
 rintro vt85_0 W84 ⟨_,Ft85_0,rfl,hRt85_0,M_⟩
 obtain ⟨At85_0,ct85_0,cst85_0,rfl,hrt85_0,hqt85_0⟩:=hRt85_0
 replace M:=M.cg M_
 refine .gq 2 ?_
 obtain ⟨t87,ht87,h⟩:=bs h
 refine .ca (Yk.calls (hr4.mono M.below) (RdF.of_rd hr3) (fun _ z=>(M.kept.trans z)) ht87) ?_
 rintro vt87_0 W86 ⟨_,Ft87_0,rfl,hRt87_0,M_⟩
 obtain ⟨At87_0,ct87_0,cst87_0,rfl,hrt87_0,hqt87_0⟩:=hRt87_0
 replace M:=M.cg M_
 refine .gq 10 ?_
 have l0: ∀k_≤k,∀(cs11_0:List Value) (x11_0:Cy) (F11_0:List Ent) (gq811_0:Nat) (csq811_0:List Value) (eq8511_0:Ent) (Aq911_0:Option Addr) (nq911_0 cq911_0:Nat) (cs12_0:List Value) (x12_0:Cy) (F12_0:List Ent) (gq812_0:Nat) (csq812_0:List Value) (eq8512_0:Ent) (Aq912_0:Option Addr) (nq912_0 cq912_0:Nat) (cs13_0:List Value) (x13_0:Cy) (F13_0:List Ent) (gq813_0:Nat) (csq813_0:List Value) (eq8513_0:Ent) (Aq913_0:Option Addr) (nq913_0 cq913_0:Nat) (x22_0:Int) {W:World} (M:Mem w W (Gs [⟨.pt gt19_0,72,0,cs11_0⟩,⟨.pt gq811_0,100,0,csq811_0⟩,eq8511_0,⟨.slice Aq911_0 nq911_0 cq911_0,5,1,nums .u8 x11_0.2.2.2.2.2.2.2.2.2.1⟩,⟨.pt gt23_0,72,0,cs12_0⟩,⟨.pt gq812_0,100,0,csq812_0⟩,eq8512_0,⟨.slice Aq912_0 nq912_0 cq912_0,5,1,nums .u8 x12_0.2.2.2.2.2.2.2.2.2.1⟩,⟨.pt gt27_0,72,0,cs13_0⟩,⟨.pt gq813_0,100,0,csq813_0⟩,eq8513_0,⟨.slice Aq913_0 nq913_0 cq913_0,5,1,nums .u8 x13_0.2.2.2.2.2.2.2.2.2.1⟩] [F11_0,F12_0,F13_0,Ft87_0,Ft85_0,Ft75,Ft65,Ft55,Ft27_0,Ft23_0,Ft19_0])) (hR11_0:MxA_ctx_Ctx (andZ (Oks F11_0) (andZ (Oks Ft55) (Oks Ft19_0))) (.pt gq811_0) (.slice Aq911_0 nq911_0 cq911_0) cs11_0 x11_0) (hq811_0:Rs_modes_Mode (andZ (Oks F11_0) (andZ (Oks Ft55) (Oks Ft19_0))) csq811_0 x11_0.2.2.2.2.2.2.2.2.1) (hq8511_0:Own5 eq8511_0 csq811_0 x11_0.2.2.2.2.2.2.2.2.1) (hR12_0:MxA_ctx_Ctx (andZ (Oks F12_0) (andZ (Oks Ft65) (Oks Ft23_0))) (.pt gq812_0) (.slice Aq912_0 nq912_0 cq912_0) cs12_0 x12_0) (hq812_0:Rs_modes_Mode (andZ (Oks F12_0) (andZ (Oks Ft65) (Oks Ft23_0))) csq812_0 x12_0.2.2.2.2.2.2.2.2.1) (hq8512_0:Own5 eq8512_0 csq812_0 x12_0.2.2.2.2.2.2.2.2.1) (hR13_0:MxA_ctx_Ctx (andZ (Oks F13_0) (andZ (Oks Ft75) (Oks Ft27_0))) (.pt gq813_0) (.slice Aq913_0 nq913_0 cq913_0) cs13_0 x13_0) (hq813_0:Rs_modes_Mode (andZ (Oks F13_0) (andZ (Oks Ft75) (Oks Ft27_0))) csq813_0 x13_0.2.2.2.2.2.2.2.2.1) (hq8513_0:Own5 eq8513_0 csq813_0 x13_0.2.2.2.2.2.2.2.2.1) (h:scrimtop_TopApart.l0 k_ t85 t87 x11_0 x12_0 x13_0 x22_0=some r),RL 4 f4 (scrimtop_TopApart.R r w) [1,1,1,1,1,1,1,1,0,1,0,0] [(11,.pt gt19_0),(12,.pt gt23_0),(13,.pt gt27_0),(20,.slice At85_0 t85.length ct85_0),(21,.slice At87_0 t87.length ct87_0),(22,.i x22_0)] W:=by
  refine loopI (by intros;rename_i h;simp [scrimtop_TopApart.l0] at h) fun k hk ih0 cs11_0 x11_0 F11_0 gq811_0 csq811_0 eq8511_0 Aq911_0 nq911_0 cq911_0 cs12_0 x12_0 F12_0 gq812_0 csq812_0 eq8512_0 Aq912_0 nq912_0 cq912_0 cs13_0 x13_0 F13_0 gq813_0 csq813_0 eq8513_0 Aq913_0 nq913_0 cq913_0 x22_0 W M hR11_0 hq811_0 hq8511_0 hR12_0 hq812_0 hq8512_0 hR13_0 hq813_0 hq8513_0 h=> ?_
  simp only [scrimtop_TopApart.l0] at h
  obtain rfl:=(M.or 3).ln
  obtain ⟨uo89_0,_,_,_,_,uo89_5,rfl,ho89_0,rfl,rfl,⟨Ao89_3,co89_3,rfl,ho89_3⟩,⟨Ao89_4,co89_4,rfl,ho89_4⟩⟩:=hq811_0
  obtain ⟨_,_,_,_,_,_,uo92_6,_,_,rfl,rfl,rfl,rfl,rfl,rfl,rfl,ho92_6,⟨Ao92_7,co92_7,rfl,ho92_7⟩,⟨Ao92_10,co92_10,rfl,ho92_10⟩⟩:=hR11_0
  obtain rfl:=(M.or 7).ln
  obtain ⟨uo94_0,_,_,_,_,uo94_5,rfl,ho94_0,rfl,rfl,⟨Ao94_3,co94_3,rfl,ho94_3⟩,⟨Ao94_4,co94_4,rfl,ho94_4⟩⟩:=hq812_0
  obtain ⟨_,_,_,_,_,_,uo97_6,_,_,rfl,rfl,rfl,rfl,rfl,rfl,rfl,ho97_6,⟨Ao97_7,co97_7,rfl,ho97_7⟩,⟨Ao97_10,co97_10,rfl,ho97_10⟩⟩:=hR12_0
  obtain rfl:=(M.or 11).ln
  obtain ⟨uo99_0,_,_,_,_,uo99_5,rfl,ho99_0,rfl,rfl,⟨Ao99_3,co99_3,rfl,ho99_3⟩,⟨Ao99_4,co99_4,rfl,ho99_4⟩⟩:=hq813_0
  obtain ⟨_,_,_,_,_,_,uo102_6,_,_,rfl,rfl,rfl,rfl,rfl,rfl,rfl,ho102_6,⟨Ao102_7,co102_7,rfl,ho102_7⟩,⟨Ao102_10,co102_10,rfl,ho102_10⟩⟩:=hR13_0
  refine .gq 8 ?_
  rcases ift h with ⟨c103,h⟩ | ⟨c103,h⟩
  ·refine .kn 109 c103<| .gq 9 ?_
   obtain ⟨c105,h⟩:=ifd h
   obtain ⟨c106,h⟩:=ifd h
   obtain ⟨uq104,huq104,hvq104⟩:=Each2.at hqt85_0 ([]:Li) (i:=x22_0) c105 c106
   obtain ⟨Aq104,cq104,rfl,hq104⟩:=hvq104
   obtain ⟨pq104,Cq104⟩:=(hrt85_0 _ (ai (M.oks 4) M.kept)).cel c105 c106 huq104
   refine .ix Cq104<| .lc Cq104 ?_
   have hs109:MxA_ctx_Ctx (andZ (Oks F11_0) (andZ (Oks Ft55) (Oks Ft19_0))) (.pt gq811_0) (.slice Aq911_0 x11_0.2.2.2.2.2.2.2.2.2.1.length cq911_0) [.bool x11_0.1,.bool x11_0.2.1,.i x11_0.2.2.1,.i x11_0.2.2.2.1,.i x11_0.2.2.2.2.1,.bool x11_0.2.2.2.2.2.1,uo92_6,.slice Ao92_7 x11_0.2.2.2.2.2.2.2.1.length co92_7,.pt gq811_0,.slice Aq911_0 x11_0.2.2.2.2.2.2.2.2.2.1.length cq911_0,.slice Ao92_10 x11_0.2.2.2.2.2.2.2.2.2.2.length co92_10] x11_0:=⟨_,_,_,_,_,_,_,_,_,rfl,rfl,rfl,rfl,rfl,rfl,rfl,(upc _ _ _ _ (fun _ z=>(ai z.1 (ai z.2.1 z.2.2))) ho92_6),(upn (fun _ z=>(ai z.1 (ai z.2.1 z.2.2))) (rno ho92_7 (ai (M.oks 0) (ai (M.oks 7) (M.oks 10))))),(upn (fun _ z=>(ai z.1 (ai z.2.1 z.2.2))) (rno ho92_10 (ai (M.oks 0) (ai (M.oks 7) (M.oks 10)))))⟩
   have hs110:Rs_modes_Mode (andZ (Oks F11_0) (andZ (Oks Ft55) (Oks Ft19_0))) [uo89_0,.i x11_0.2.2.2.2.2.2.2.2.1.2.1,.bool x11_0.2.2.2.2.2.2.2.2.1.2.2.1,.slice Ao89_3 x11_0.2.2.2.2.2.2.2.2.1.2.2.2.1.length co89_3,.slice Ao89_4 x11_0.2.2.2.2.2.2.2.2.1.2.2.2.2.1.length co89_4,uo89_5] x11_0.2.2.2.2.2.2.2.2.1:=⟨_,_,_,_,_,_,rfl,(upc _ _ _ _ (fun _ z=>(ai z.1 (ai z.2.1 z.2.2))) ho89_0),rfl,rfl,(upn (fun _ z=>(ai z.1 (ai z.2.1 z.2.2))) (rno ho89_3 (ai (M.oks 0) (ai (M.oks 7) (M.oks 10))))),(upn (fun _ z=>(ai z.1 (ai z.2.1 z.2.2))) (rno ho89_4 (ai (M.oks 0) (ai (M.oks 7) (M.oks 10)))))⟩
   obtain ⟨t108,ht108,h⟩:=bs h
   refine .ca (Q5.calls (hp0:=hs109) (hq8:=hs110) (hq85:=hq8511_0) (hZm:=fun _ hk_ hT_=>(ai (hT_.fg 0 rfl) (ai (hT_.fg 7 rfl) (hT_.fg 10 rfl)))) (M0:=M.fm [0,1,2,3] [4,5,6,7,8,9,10,11] [0,1,2,3,4,5,6,7,8,9,10] rfl rfl rfl) (Zp1:=fun W_=>Rd W_ (.slice Aq104 ((rdr ([]:Li) t85 x22_0).length) cq104) (nums .u8 (rdr ([]:Li) t85 x22_0))) (hr1:=fun _ h_=>h_) (hZp1:=fun _ hk_ hT_=>(hq104 _ (ai (hT_.fg 4 rfl) hk_))) (h:=ht108)) ?_
   rintro _ W107 ⟨A111,c112,cst108,Ft108,gq8t108,csq8t108,eq85t108,Aq9t108,nq9t108,cq9t108,rfl,hRt108,hq8t108,hq85t108,M_⟩
   have hr114:MxA_ctx_Ctx (andZ (Oks Ft108) (andZ (Oks F11_0) (andZ (Oks Ft55) (Oks Ft19_0)))) (.pt gq8t108) (.slice Aq9t108 nq9t108 cq9t108) cst108 t108.2.2:=hRt108
   have hrhr1148:Rs_modes_Mode (andZ (Oks Ft108) (andZ (Oks F11_0) (andZ (Oks Ft55) (Oks Ft19_0)))) csq8t108 t108.2.2.2.2.2.2.2.2.2.2.1:=hq8t108
   have hrhr11485:Own5 eq85t108 csq8t108 t108.2.2.2.2.2.2.2.2.2.2.1:=hq85t108
   replace M:=M_.uf
   obtain rfl:=(M_.or 4).ln
   obtain ⟨uo116_0,_,_,_,_,uo116_5,rfl,ho116_0,rfl,rfl,⟨Ao116_3,co116_3,rfl,ho116_3⟩,⟨Ao116_4,co116_4,rfl,ho116_4⟩⟩:=hrhr1148
   obtain ⟨_,_,_,_,_,_,uo119_6,_,_,rfl,rfl,rfl,rfl,rfl,rfl,rfl,ho119_6,⟨Ao119_7,co119_7,rfl,ho119_7⟩,⟨Ao119_10,co119_10,rfl,ho119_10⟩⟩:=hr114
   refine .gq 14 ?_
   rcases ift h with ⟨c120,h⟩ | ⟨c120,h⟩
   ·refine .kn 124 c120<| .gq 5 ?_
    obtain ⟨c122,h⟩:=ifd h
    obtain ⟨c123,h⟩:=ifd h
    obtain ⟨uq121,huq121,hvq121⟩:=Each2.at hqt87_0 ([]:Li) (i:=x22_0) c122 c123
    obtain ⟨Aq121,cq121,rfl,hq121⟩:=hvq121
    obtain ⟨pq121,Cq121⟩:=(hrt87_0 _ (ai (M.oks 4) M.kept)).cel c122 c123 huq121
    refine .ix Cq121<| .lc Cq121 ?_
    have hs126:MxA_ctx_Ctx (andZ (Oks F12_0) (andZ (Oks Ft65) (Oks Ft23_0))) (.pt gq812_0) (.slice Aq912_0 x12_0.2.2.2.2.2.2.2.2.2.1.length cq912_0) [.bool x12_0.1,.bool x12_0.2.1,.i x12_0.2.2.1,.i x12_0.2.2.2.1,.i x12_0.2.2.2.2.1,.bool x12_0.2.2.2.2.2.1,uo97_6,.slice Ao97_7 x12_0.2.2.2.2.2.2.2.1.length co97_7,.pt gq812_0,.slice Aq912_0 x12_0.2.2.2.2.2.2.2.2.2.1.length cq912_0,.slice Ao97_10 x12_0.2.2.2.2.2.2.2.2.2.2.length co97_10] x12_0:=⟨_,_,_,_,_,_,_,_,_,rfl,rfl,rfl,rfl,rfl,rfl,rfl,(upc _ _ _ _ (fun _ z=>(ai z.1 (ai z.2.1 z.2.2))) ho97_6),(upn (fun _ z=>(ai z.1 (ai z.2.1 z.2.2))) (rno ho97_7 (ai (M.oks 2) (ai (M.oks 7) (M.oks 10))))),(upn (fun _ z=>(ai z.1 (ai z.2.1 z.2.2))) (rno ho97_10 (ai (M.oks 2) (ai (M.oks 7) (M.oks 10)))))⟩
    have hs127:Rs_modes_Mode (andZ (Oks F12_0) (andZ (Oks Ft65) (Oks Ft23_0))) [uo94_0,.i x12_0.2.2.2.2.2.2.2.2.1.2.1,.bool x12_0.2.2.2.2.2.2.2.2.1.2.2.1,.slice Ao94_3 x12_0.2.2.2.2.2.2.2.2.1.2.2.2.1.length co94_3,.slice Ao94_4 x12_0.2.2.2.2.2.2.2.2.1.2.2.2.2.1.length co94_4,uo94_5] x12_0.2.2.2.2.2.2.2.2.1:=⟨_,_,_,_,_,_,rfl,(upc _ _ _ _ (fun _ z=>(ai z.1 (ai z.2.1 z.2.2))) ho94_0),rfl,rfl,(upn (fun _ z=>(ai z.1 (ai z.2.1 z.2.2))) (rno ho94_3 (ai (M.oks 2) (ai (M.oks 7) (M.oks 10))))),(upn (fun _ z=>(ai z.1 (ai z.2.1 z.2.2))) (rno ho94_4 (ai (M.oks 2) (ai (M.oks 7) (M.oks 10)))))⟩
    obtain ⟨t125,ht125,h⟩:=bs h
    refine .ca (Q5.calls (hp0:=hs126) (hq8:=hs127) (hq85:=hq8512_0) (hZm:=fun _ hk_ hT_=>(ai (hT_.fg 2 rfl) (ai (hT_.fg 7 rfl) (hT_.fg 10 rfl)))) (M0:=M.fm [5,6,7,8] [0,1,2,3,4,9,10,11,12] [0,1,2,3,4,5,6,7,8,9,10,11] rfl rfl rfl) (Zp1:=fun W_=>Rd W_ (.slice Aq121 ((rdr ([]:Li) t87 x22_0).length) cq121) (nums .u8 (rdr ([]:Li) t87 x22_0))) (hr1:=fun _ h_=>h_) (hZp1:=fun _ hk_ hT_=>(hq121 _ (ai (hT_.fg 4 rfl) hk_))) (h:=ht125)) ?_
    rintro _ W124 ⟨A128,c129,cst125,Ft125,gq8t125,csq8t125,eq85t125,Aq9t125,nq9t125,cq9t125,rfl,hRt125,hq8t125,hq85t125,M_⟩
    have hr131:MxA_ctx_Ctx (andZ (Oks Ft125) (andZ (Oks F12_0) (andZ (Oks Ft65) (Oks Ft23_0)))) (.pt gq8t125) (.slice Aq9t125 nq9t125 cq9t125) cst125 t125.2.2:=hRt125
    have hrhr1318:Rs_modes_Mode (andZ (Oks Ft125) (andZ (Oks F12_0) (andZ (Oks Ft65) (Oks Ft23_0)))) csq8t125 t125.2.2.2.2.2.2.2.2.2.2.1:=hq8t125
    have hrhr13185:Own5 eq85t125 csq8t125 t125.2.2.2.2.2.2.2.2.2.2.1:=hq85t125
    replace M:=M_.uf
    obtain rfl:=(M_.or 4).ln
    obtain ⟨uo133_0,_,_,_,_,uo133_5,rfl,ho133_0,rfl,rfl,⟨Ao133_3,co133_3,rfl,ho133_3⟩,⟨Ao133_4,co133_4,rfl,ho133_4⟩⟩:=hrhr1318
    obtain ⟨_,_,_,_,_,_,uo136_6,_,_,rfl,rfl,rfl,rfl,rfl,rfl,rfl,ho136_6,⟨Ao136_7,co136_7,rfl,ho136_7⟩,⟨Ao136_10,co136_10,rfl,ho136_10⟩⟩:=hr131
    refine .gq 6 ?_
    obtain ⟨c138,h⟩:=ifd h
    obtain ⟨c139,h⟩:=ifd h
    obtain ⟨uq137,huq137,hvq137⟩:=Each2.at hqt85_0 ([]:Li) (i:=x22_0) c138 c139
    obtain ⟨Aq137,cq137,rfl,hq137⟩:=hvq137
    obtain ⟨pq137,Cq137⟩:=(hrt85_0 _ (ai (M.oks 6) M.kept)).cel c138 c139 huq137
    refine .ix Cq137<| .lc Cq137 ?_
    have hs142:MxA_ctx_Ctx (andZ (Oks F13_0) (andZ (Oks Ft75) (Oks Ft27_0))) (.pt gq813_0) (.slice Aq913_0 x13_0.2.2.2.2.2.2.2.2.2.1.length cq913_0) [.bool x13_0.1,.bool x13_0.2.1,.i x13_0.2.2.1,.i x13_0.2.2.2.1,.i x13_0.2.2.2.2.1,.bool x13_0.2.2.2.2.2.1,uo102_6,.slice Ao102_7 x13_0.2.2.2.2.2.2.2.1.length co102_7,.pt gq813_0,.slice Aq913_0 x13_0.2.2.2.2.2.2.2.2.2.1.length cq913_0,.slice Ao102_10 x13_0.2.2.2.2.2.2.2.2.2.2.length co102_10] x13_0:=⟨_,_,_,_,_,_,_,_,_,rfl,rfl,rfl,rfl,rfl,rfl,rfl,(upc _ _ _ _ (fun _ z=>(ai z.1 (ai z.2.1 z.2.2))) ho102_6),(upn (fun _ z=>(ai z.1 (ai z.2.1 z.2.2))) (rno ho102_7 (ai (M.oks 4) (ai (M.oks 7) (M.oks 10))))),(upn (fun _ z=>(ai z.1 (ai z.2.1 z.2.2))) (rno ho102_10 (ai (M.oks 4) (ai (M.oks 7) (M.oks 10)))))⟩
    have hs143:Rs_modes_Mode (andZ (Oks F13_0) (andZ (Oks Ft75) (Oks Ft27_0))) [uo99_0,.i x13_0.2.2.2.2.2.2.2.2.1.2.1,.bool x13_0.2.2.2.2.2.2.2.2.1.2.2.1,.slice Ao99_3 x13_0.2.2.2.2.2.2.2.2.1.2.2.2.1.length co99_3,.slice Ao99_4 x13_0.2.2.2.2.2.2.2.2.1.2.2.2.2.1.length co99_4,uo99_5] x13_0.2.2.2.2.2.2.2.2.1:=⟨_,_,_,_,_,_,rfl,(upc _ _ _ _ (fun _ z=>(ai z.1 (ai z.2.1 z.2.2))) ho99_0),rfl,rfl,(upn (fun _ z=>(ai z.1 (ai z.2.1 z.2.2))) (rno ho99_3 (ai (M.oks 4) (ai (M.oks 7) (M.oks 10))))),(upn (fun _ z=>(ai z.1 (ai z.2.1 z.2.2))) (rno ho99_4 (ai (M.oks 4) (ai (M.oks 7) (M.oks 10)))))⟩
    obtain ⟨t141,ht141,h⟩:=bs h
    refine .ca (Q5.calls (hp0:=hs142) (hq8:=hs143) (hq85:=hq8513_0) (hZm:=fun _ hk_ hT_=>(ai (hT_.fg 4 rfl) (ai (hT_.fg 7 rfl) (hT_.fg 10 rfl)))) (M0:=M.fm [10,11,12,13] [0,1,2,3,4,5,6,7,8,9] [0,1,2,3,4,5,6,7,8,9,10,11,12] rfl rfl rfl) (Zp1:=fun W_=>Rd W_ (.slice Aq137 ((rdr ([]:Li) t85 x22_0).length) cq137) (nums .u8 (rdr ([]:Li) t85 x22_0))) (hr1:=fun _ h_=>h_) (hZp1:=fun _ hk_ hT_=>(hq137 _ (ai (hT_.fg 6 rfl) hk_))) (h:=ht141)) ?_
    rintro _ W140 ⟨A144,c145,cst141,Ft141,gq8t141,csq8t141,eq85t141,Aq9t141,nq9t141,cq9t141,rfl,hRt141,hq8t141,hq85t141,M_⟩
    have hr147:MxA_ctx_Ctx (andZ (Oks Ft141) (andZ (Oks F13_0) (andZ (Oks Ft75) (Oks Ft27_0)))) (.pt gq8t141) (.slice Aq9t141 nq9t141 cq9t141) cst141 t141.2.2:=hRt141
    have hrhr1478:Rs_modes_Mode (andZ (Oks Ft141) (andZ (Oks F13_0) (andZ (Oks Ft75) (Oks Ft27_0)))) csq8t141 t141.2.2.2.2.2.2.2.2.2.2.1:=hq8t141
    have hrhr14785:Own5 eq85t141 csq8t141 t141.2.2.2.2.2.2.2.2.2.2.1:=hq85t141
    replace M:=M_.uf
    obtain rfl:=(M_.or 4).ln
    obtain ⟨uo149_0,_,_,_,_,uo149_5,rfl,ho149_0,rfl,rfl,⟨Ao149_3,co149_3,rfl,ho149_3⟩,⟨Ao149_4,co149_4,rfl,ho149_4⟩⟩:=hrhr1478
    obtain ⟨_,_,_,_,_,_,uo152_6,_,_,rfl,rfl,rfl,rfl,rfl,rfl,rfl,ho152_6,⟨Ao152_7,co152_7,rfl,ho152_7⟩,⟨Ao152_10,co152_10,rfl,ho152_10⟩⟩:=hr147
    refine .gq 9<| .y (yl_str (xs:=t108.1)) (M.or 10)<| .gq 1<| .y (yl_str (xs:=t141.1)) (M.or 0)<| .gq 2 ?_
    let y153:Bool:= !((strOf t108.1).toList==(strOf t141.1).toList)
    replace h:=bz (y:=y153) h rfl
    rcases ift h with ⟨c154,h⟩ | ⟨c154,h⟩
    ·refine .kn 144 c154<| .gq 5 ?_
     obtain rfl:=sj h
     exact .ret func4 ⟨rfl,(M.pm [] [])⟩
    exact .kn 144 c154<| .gq 9<| .at (ih0 k (by omega) [.bool t108.2.2.1,.bool t108.2.2.2.1,.i t108.2.2.2.2.1,.i t108.2.2.2.2.2.1,.i t108.2.2.2.2.2.2.1,.bool t108.2.2.2.2.2.2.2.1,uo119_6,.slice Ao119_7 t108.2.2.2.2.2.2.2.2.2.1.length co119_7,.pt gq8t108,.slice Aq9t108 t108.2.2.2.2.2.2.2.2.2.2.2.1.length cq9t108,.slice Ao119_10 t108.2.2.2.2.2.2.2.2.2.2.2.2.length co119_10] t108.2.2 (List.flatten [Ft108,F11_0]) gq8t108 [uo116_0,.i t108.2.2.2.2.2.2.2.2.2.2.1.2.1,.bool t108.2.2.2.2.2.2.2.2.2.2.1.2.2.1,.slice Ao116_3 t108.2.2.2.2.2.2.2.2.2.2.1.2.2.2.1.length co116_3,.slice Ao116_4 t108.2.2.2.2.2.2.2.2.2.2.1.2.2.2.2.1.length co116_4,uo116_5] eq85t108 Aq9t108 t108.2.2.2.2.2.2.2.2.2.2.2.1.length cq9t108 [.bool t125.2.2.1,.bool t125.2.2.2.1,.i t125.2.2.2.2.1,.i t125.2.2.2.2.2.1,.i t125.2.2.2.2.2.2.1,.bool t125.2.2.2.2.2.2.2.1,uo136_6,.slice Ao136_7 t125.2.2.2.2.2.2.2.2.2.1.length co136_7,.pt gq8t125,.slice Aq9t125 t125.2.2.2.2.2.2.2.2.2.2.2.1.length cq9t125,.slice Ao136_10 t125.2.2.2.2.2.2.2.2.2.2.2.2.length co136_10] t125.2.2 (List.flatten [Ft125,F12_0]) gq8t125 [uo133_0,.i t125.2.2.2.2.2.2.2.2.2.2.1.2.1,.bool t125.2.2.2.2.2.2.2.2.2.2.1.2.2.1,.slice Ao133_3 t125.2.2.2.2.2.2.2.2.2.2.1.2.2.2.1.length co133_3,.slice Ao133_4 t125.2.2.2.2.2.2.2.2.2.2.1.2.2.2.2.1.length co133_4,uo133_5] eq85t125 Aq9t125 t125.2.2.2.2.2.2.2.2.2.2.2.1.length cq9t125 [.bool t141.2.2.1,.bool t141.2.2.2.1,.i t141.2.2.2.2.1,.i t141.2.2.2.2.2.1,.i t141.2.2.2.2.2.2.1,.bool t141.2.2.2.2.2.2.2.1,uo152_6,.slice Ao152_7 t141.2.2.2.2.2.2.2.2.2.1.length co152_7,.pt gq8t141,.slice Aq9t141 t141.2.2.2.2.2.2.2.2.2.2.2.1.length cq9t141,.slice Ao152_10 t141.2.2.2.2.2.2.2.2.2.2.2.2.length co152_10] t141.2.2 (List.flatten [Ft141,F13_0]) gq8t141 [uo149_0,.i t141.2.2.2.2.2.2.2.2.2.2.1.2.1,.bool t141.2.2.2.2.2.2.2.2.2.2.1.2.2.1,.slice Ao149_3 t141.2.2.2.2.2.2.2.2.2.2.1.2.2.2.1.length co149_3,.slice Ao149_4 t141.2.2.2.2.2.2.2.2.2.2.1.2.2.2.2.1.length co149_4,uo149_5] eq85t141 Aq9t141 t141.2.2.2.2.2.2.2.2.2.2.2.1.length cq9t141 (I64 (x22_0+1)) (M.pm [11,12,13,14,6,7,8,9,1,2,3,4] [[2,3],[1,4],[0,5],[6],[7],[8],[9],[10],[11],[12],[13]]) ⟨_,_,_,_,_,_,_,_,_,rfl,rfl,rfl,rfl,rfl,rfl,rfl,(upc _ _ _ _ (fun _ z=>(ai (Oks.g z.1 0 rfl) (ai (Oks.g z.1 1 rfl) (ai z.2.1 z.2.2)))) ho119_6),(upn (fun _ z=>(ai (Oks.g z.1 0 rfl) (ai (Oks.g z.1 1 rfl) (ai z.2.1 z.2.2)))) (rno ho119_7 (ai (M.oks 2) (ai (M.oks 3) (ai (M.oks 10) (M.oks 13)))))),(upn (fun _ z=>(ai (Oks.g z.1 0 rfl) (ai (Oks.g z.1 1 rfl) (ai z.2.1 z.2.2)))) (rno ho119_10 (ai (M.oks 2) (ai (M.oks 3) (ai (M.oks 10) (M.oks 13))))))⟩ ⟨_,_,_,_,_,_,rfl,(upc _ _ _ _ (fun _ z=>(ai (Oks.g z.1 0 rfl) (ai (Oks.g z.1 1 rfl) (ai z.2.1 z.2.2)))) ho116_0),rfl,rfl,(upn (fun _ z=>(ai (Oks.g z.1 0 rfl) (ai (Oks.g z.1 1 rfl) (ai z.2.1 z.2.2)))) (rno ho116_3 (ai (M.oks 2) (ai (M.oks 3) (ai (M.oks 10) (M.oks 13)))))),(upn (fun _ z=>(ai (Oks.g z.1 0 rfl) (ai (Oks.g z.1 1 rfl) (ai z.2.1 z.2.2)))) (rno ho116_4 (ai (M.oks 2) (ai (M.oks 3) (ai (M.oks 10) (M.oks 13))))))⟩ hrhr11485 ⟨_,_,_,_,_,_,_,_,_,rfl,rfl,rfl,rfl,rfl,rfl,rfl,(upc _ _ _ _ (fun _ z=>(ai (Oks.g z.1 0 rfl) (ai (Oks.g z.1 1 rfl) (ai z.2.1 z.2.2)))) ho136_6),(upn (fun _ z=>(ai (Oks.g z.1 0 rfl) (ai (Oks.g z.1 1 rfl) (ai z.2.1 z.2.2)))) (rno ho136_7 (ai (M.oks 1) (ai (M.oks 4) (ai (M.oks 9) (M.oks 12)))))),(upn (fun _ z=>(ai (Oks.g z.1 0 rfl) (ai (Oks.g z.1 1 rfl) (ai z.2.1 z.2.2)))) (rno ho136_10 (ai (M.oks 1) (ai (M.oks 4) (ai (M.oks 9) (M.oks 12))))))⟩ ⟨_,_,_,_,_,_,rfl,(upc _ _ _ _ (fun _ z=>(ai (Oks.g z.1 0 rfl) (ai (Oks.g z.1 1 rfl) (ai z.2.1 z.2.2)))) ho133_0),rfl,rfl,(upn (fun _ z=>(ai (Oks.g z.1 0 rfl) (ai (Oks.g z.1 1 rfl) (ai z.2.1 z.2.2)))) (rno ho133_3 (ai (M.oks 1) (ai (M.oks 4) (ai (M.oks 9) (M.oks 12)))))),(upn (fun _ z=>(ai (Oks.g z.1 0 rfl) (ai (Oks.g z.1 1 rfl) (ai z.2.1 z.2.2)))) (rno ho133_4 (ai (M.oks 1) (ai (M.oks 4) (ai (M.oks 9) (M.oks 12))))))⟩ hrhr13185 ⟨_,_,_,_,_,_,_,_,_,rfl,rfl,rfl,rfl,rfl,rfl,rfl,(upc _ _ _ _ (fun _ z=>(ai (Oks.g z.1 0 rfl) (ai (Oks.g z.1 1 rfl) (ai z.2.1 z.2.2)))) ho152_6),(upn (fun _ z=>(ai (Oks.g z.1 0 rfl) (ai (Oks.g z.1 1 rfl) (ai z.2.1 z.2.2)))) (rno ho152_7 (ai (M.oks 0) (ai (M.oks 5) (ai (M.oks 8) (M.oks 11)))))),(upn (fun _ z=>(ai (Oks.g z.1 0 rfl) (ai (Oks.g z.1 1 rfl) (ai z.2.1 z.2.2)))) (rno ho152_10 (ai (M.oks 0) (ai (M.oks 5) (ai (M.oks 8) (M.oks 11))))))⟩ ⟨_,_,_,_,_,_,rfl,(upc _ _ _ _ (fun _ z=>(ai (Oks.g z.1 0 rfl) (ai (Oks.g z.1 1 rfl) (ai z.2.1 z.2.2)))) ho149_0),rfl,rfl,(upn (fun _ z=>(ai (Oks.g z.1 0 rfl) (ai (Oks.g z.1 1 rfl) (ai z.2.1 z.2.2)))) (rno ho149_3 (ai (M.oks 0) (ai (M.oks 5) (ai (M.oks 8) (M.oks 11)))))),(upn (fun _ z=>(ai (Oks.g z.1 0 rfl) (ai (Oks.g z.1 1 rfl) (ai z.2.1 z.2.2)))) (rno ho149_4 (ai (M.oks 0) (ai (M.oks 5) (ai (M.oks 8) (M.oks 11))))))⟩ hrhr14785 h)
   refine .kn 124 c120<| .gq 7 ?_
   obtain ⟨c156,h⟩:=ifd h
   obtain ⟨c157,h⟩:=ifd h
   obtain ⟨uq155,huq155,hvq155⟩:=Each2.at hqt85_0 ([]:Li) (i:=x22_0) c156 c157
   obtain ⟨Aq155,cq155,rfl,hq155⟩:=hvq155
   obtain ⟨pq155,Cq155⟩:=(hrt85_0 _ (ai (M.oks 5) M.kept)).cel c156 c157 huq155
   refine .ix Cq155<| .lc Cq155 ?_
   have hs160:MxA_ctx_Ctx (andZ (Oks F13_0) (andZ (Oks Ft75) (Oks Ft27_0))) (.pt gq813_0) (.slice Aq913_0 x13_0.2.2.2.2.2.2.2.2.2.1.length cq913_0) [.bool x13_0.1,.bool x13_0.2.1,.i x13_0.2.2.1,.i x13_0.2.2.2.1,.i x13_0.2.2.2.2.1,.bool x13_0.2.2.2.2.2.1,uo102_6,.slice Ao102_7 x13_0.2.2.2.2.2.2.2.1.length co102_7,.pt gq813_0,.slice Aq913_0 x13_0.2.2.2.2.2.2.2.2.2.1.length cq913_0,.slice Ao102_10 x13_0.2.2.2.2.2.2.2.2.2.2.length co102_10] x13_0:=⟨_,_,_,_,_,_,_,_,_,rfl,rfl,rfl,rfl,rfl,rfl,rfl,(upc _ _ _ _ (fun _ z=>(ai z.1 (ai z.2.1 z.2.2))) ho102_6),(upn (fun _ z=>(ai z.1 (ai z.2.1 z.2.2))) (rno ho102_7 (ai (M.oks 3) (ai (M.oks 6) (M.oks 9))))),(upn (fun _ z=>(ai z.1 (ai z.2.1 z.2.2))) (rno ho102_10 (ai (M.oks 3) (ai (M.oks 6) (M.oks 9)))))⟩
   have hs161:Rs_modes_Mode (andZ (Oks F13_0) (andZ (Oks Ft75) (Oks Ft27_0))) [uo99_0,.i x13_0.2.2.2.2.2.2.2.2.1.2.1,.bool x13_0.2.2.2.2.2.2.2.2.1.2.2.1,.slice Ao99_3 x13_0.2.2.2.2.2.2.2.2.1.2.2.2.1.length co99_3,.slice Ao99_4 x13_0.2.2.2.2.2.2.2.2.1.2.2.2.2.1.length co99_4,uo99_5] x13_0.2.2.2.2.2.2.2.2.1:=⟨_,_,_,_,_,_,rfl,(upc _ _ _ _ (fun _ z=>(ai z.1 (ai z.2.1 z.2.2))) ho99_0),rfl,rfl,(upn (fun _ z=>(ai z.1 (ai z.2.1 z.2.2))) (rno ho99_3 (ai (M.oks 3) (ai (M.oks 6) (M.oks 9))))),(upn (fun _ z=>(ai z.1 (ai z.2.1 z.2.2))) (rno ho99_4 (ai (M.oks 3) (ai (M.oks 6) (M.oks 9)))))⟩
   obtain ⟨t159,ht159,h⟩:=bs h
   refine .ca (Q5.calls (hp0:=hs160) (hq8:=hs161) (hq85:=hq8513_0) (hZm:=fun _ hk_ hT_=>(ai (hT_.fg 3 rfl) (ai (hT_.fg 6 rfl) (hT_.fg 9 rfl)))) (M0:=M.fm [9,10,11,12] [0,1,2,3,4,5,6,7,8] [0,1,2,3,4,5,6,7,8,9,10,11] rfl rfl rfl) (Zp1:=fun W_=>Rd W_ (.slice Aq155 ((rdr ([]:Li) t85 x22_0).length) cq155) (nums .u8 (rdr ([]:Li) t85 x22_0))) (hr1:=fun _ h_=>h_) (hZp1:=fun _ hk_ hT_=>(hq155 _ (ai (hT_.fg 5 rfl) hk_))) (h:=ht159)) ?_
   rintro _ W158 ⟨A162,c163,cst159,Ft159,gq8t159,csq8t159,eq85t159,Aq9t159,nq9t159,cq9t159,rfl,hRt159,hq8t159,hq85t159,M_⟩
   have hr165:MxA_ctx_Ctx (andZ (Oks Ft159) (andZ (Oks F13_0) (andZ (Oks Ft75) (Oks Ft27_0)))) (.pt gq8t159) (.slice Aq9t159 nq9t159 cq9t159) cst159 t159.2.2:=hRt159
   have hrhr1658:Rs_modes_Mode (andZ (Oks Ft159) (andZ (Oks F13_0) (andZ (Oks Ft75) (Oks Ft27_0)))) csq8t159 t159.2.2.2.2.2.2.2.2.2.2.1:=hq8t159
   have hrhr16585:Own5 eq85t159 csq8t159 t159.2.2.2.2.2.2.2.2.2.2.1:=hq85t159
   replace M:=M_.uf
   obtain rfl:=(M_.or 4).ln
   obtain ⟨uo167_0,_,_,_,_,uo167_5,rfl,ho167_0,rfl,rfl,⟨Ao167_3,co167_3,rfl,ho167_3⟩,⟨Ao167_4,co167_4,rfl,ho167_4⟩⟩:=hrhr1658
   obtain ⟨_,_,_,_,_,_,uo170_6,_,_,rfl,rfl,rfl,rfl,rfl,rfl,rfl,ho170_6,⟨Ao170_7,co170_7,rfl,ho170_7⟩,⟨Ao170_10,co170_10,rfl,ho170_10⟩⟩:=hr165
   refine .gq 9<| .y (yl_str (xs:=t108.1)) (M.or 5)<| .gq 1<| .y (yl_str (xs:=t159.1)) (M.or 0)<| .gq 2 ?_
   let y171:Bool:= !((strOf t108.1).toList==(strOf t159.1).toList)
   replace h:=bz (y:=y171) h rfl
   rcases ift h with ⟨c172,h⟩ | ⟨c172,h⟩
   ·refine .kn 144 c172<| .gq 5 ?_
    obtain rfl:=sj h
    exact .ret func4 ⟨rfl,(M.pm [] [])⟩
   exact .kn 144 c172<| .gq 9<| .at (ih0 k (by omega) [.bool t108.2.2.1,.bool t108.2.2.2.1,.i t108.2.2.2.2.1,.i t108.2.2.2.2.2.1,.i t108.2.2.2.2.2.2.1,.bool t108.2.2.2.2.2.2.2.1,uo119_6,.slice Ao119_7 t108.2.2.2.2.2.2.2.2.2.1.length co119_7,.pt gq8t108,.slice Aq9t108 t108.2.2.2.2.2.2.2.2.2.2.2.1.length cq9t108,.slice Ao119_10 t108.2.2.2.2.2.2.2.2.2.2.2.2.length co119_10] t108.2.2 (List.flatten [Ft108,F11_0]) gq8t108 [uo116_0,.i t108.2.2.2.2.2.2.2.2.2.2.1.2.1,.bool t108.2.2.2.2.2.2.2.2.2.2.1.2.2.1,.slice Ao116_3 t108.2.2.2.2.2.2.2.2.2.2.1.2.2.2.1.length co116_3,.slice Ao116_4 t108.2.2.2.2.2.2.2.2.2.2.1.2.2.2.2.1.length co116_4,uo116_5] eq85t108 Aq9t108 t108.2.2.2.2.2.2.2.2.2.2.2.1.length cq9t108 [.bool x12_0.1,.bool x12_0.2.1,.i x12_0.2.2.1,.i x12_0.2.2.2.1,.i x12_0.2.2.2.2.1,.bool x12_0.2.2.2.2.2.1,uo97_6,.slice Ao97_7 x12_0.2.2.2.2.2.2.2.1.length co97_7,.pt gq812_0,.slice Aq912_0 x12_0.2.2.2.2.2.2.2.2.2.1.length cq912_0,.slice Ao97_10 x12_0.2.2.2.2.2.2.2.2.2.2.length co97_10] x12_0 F12_0 gq812_0 [uo94_0,.i x12_0.2.2.2.2.2.2.2.2.1.2.1,.bool x12_0.2.2.2.2.2.2.2.2.1.2.2.1,.slice Ao94_3 x12_0.2.2.2.2.2.2.2.2.1.2.2.2.1.length co94_3,.slice Ao94_4 x12_0.2.2.2.2.2.2.2.2.1.2.2.2.2.1.length co94_4,uo94_5] eq8512_0 Aq912_0 x12_0.2.2.2.2.2.2.2.2.2.1.length cq912_0 [.bool t159.2.2.1,.bool t159.2.2.2.1,.i t159.2.2.2.2.1,.i t159.2.2.2.2.2.1,.i t159.2.2.2.2.2.2.1,.bool t159.2.2.2.2.2.2.2.1,uo170_6,.slice Ao170_7 t159.2.2.2.2.2.2.2.2.2.1.length co170_7,.pt gq8t159,.slice Aq9t159 t159.2.2.2.2.2.2.2.2.2.2.2.1.length cq9t159,.slice Ao170_10 t159.2.2.2.2.2.2.2.2.2.2.2.2.length co170_10] t159.2.2 (List.flatten [Ft159,F13_0]) gq8t159 [uo167_0,.i t159.2.2.2.2.2.2.2.2.2.2.1.2.1,.bool t159.2.2.2.2.2.2.2.2.2.2.1.2.2.1,.slice Ao167_3 t159.2.2.2.2.2.2.2.2.2.2.1.2.2.2.1.length co167_3,.slice Ao167_4 t159.2.2.2.2.2.2.2.2.2.2.1.2.2.2.2.1.length co167_4,uo167_5] eq85t159 Aq9t159 t159.2.2.2.2.2.2.2.2.2.2.2.1.length cq9t159 (I64 (x22_0+1)) (M.pm [6,7,8,9,10,11,12,13,1,2,3,4] [[1,2],[3],[0,4],[5],[6],[7],[8],[9],[10],[11],[12]]) ⟨_,_,_,_,_,_,_,_,_,rfl,rfl,rfl,rfl,rfl,rfl,rfl,(upc _ _ _ _ (fun _ z=>(ai (Oks.g z.1 0 rfl) (ai (Oks.g z.1 1 rfl) (ai z.2.1 z.2.2)))) ho119_6),(upn (fun _ z=>(ai (Oks.g z.1 0 rfl) (ai (Oks.g z.1 1 rfl) (ai z.2.1 z.2.2)))) (rno ho119_7 (ai (M.oks 1) (ai (M.oks 2) (ai (M.oks 9) (M.oks 12)))))),(upn (fun _ z=>(ai (Oks.g z.1 0 rfl) (ai (Oks.g z.1 1 rfl) (ai z.2.1 z.2.2)))) (rno ho119_10 (ai (M.oks 1) (ai (M.oks 2) (ai (M.oks 9) (M.oks 12))))))⟩ ⟨_,_,_,_,_,_,rfl,(upc _ _ _ _ (fun _ z=>(ai (Oks.g z.1 0 rfl) (ai (Oks.g z.1 1 rfl) (ai z.2.1 z.2.2)))) ho116_0),rfl,rfl,(upn (fun _ z=>(ai (Oks.g z.1 0 rfl) (ai (Oks.g z.1 1 rfl) (ai z.2.1 z.2.2)))) (rno ho116_3 (ai (M.oks 1) (ai (M.oks 2) (ai (M.oks 9) (M.oks 12)))))),(upn (fun _ z=>(ai (Oks.g z.1 0 rfl) (ai (Oks.g z.1 1 rfl) (ai z.2.1 z.2.2)))) (rno ho116_4 (ai (M.oks 1) (ai (M.oks 2) (ai (M.oks 9) (M.oks 12))))))⟩ hrhr11485 ⟨_,_,_,_,_,_,_,_,_,rfl,rfl,rfl,rfl,rfl,rfl,rfl,(upc _ _ _ _ (fun _ z=>(ai z.1 (ai z.2.1 z.2.2))) ho97_6),(upn (fun _ z=>(ai z.1 (ai z.2.1 z.2.2))) (rno ho97_7 (ai (M.oks 3) (ai (M.oks 8) (M.oks 11))))),(upn (fun _ z=>(ai z.1 (ai z.2.1 z.2.2))) (rno ho97_10 (ai (M.oks 3) (ai (M.oks 8) (M.oks 11)))))⟩ ⟨_,_,_,_,_,_,rfl,(upc _ _ _ _ (fun _ z=>(ai z.1 (ai z.2.1 z.2.2))) ho94_0),rfl,rfl,(upn (fun _ z=>(ai z.1 (ai z.2.1 z.2.2))) (rno ho94_3 (ai (M.oks 3) (ai (M.oks 8) (M.oks 11))))),(upn (fun _ z=>(ai z.1 (ai z.2.1 z.2.2))) (rno ho94_4 (ai (M.oks 3) (ai (M.oks 8) (M.oks 11)))))⟩ hq8512_0 ⟨_,_,_,_,_,_,_,_,_,rfl,rfl,rfl,rfl,rfl,rfl,rfl,(upc _ _ _ _ (fun _ z=>(ai (Oks.g z.1 0 rfl) (ai (Oks.g z.1 1 rfl) (ai z.2.1 z.2.2)))) ho170_6),(upn (fun _ z=>(ai (Oks.g z.1 0 rfl) (ai (Oks.g z.1 1 rfl) (ai z.2.1 z.2.2)))) (rno ho170_7 (ai (M.oks 0) (ai (M.oks 4) (ai (M.oks 7) (M.oks 10)))))),(upn (fun _ z=>(ai (Oks.g z.1 0 rfl) (ai (Oks.g z.1 1 rfl) (ai z.2.1 z.2.2)))) (rno ho170_10 (ai (M.oks 0) (ai (M.oks 4) (ai (M.oks 7) (M.oks 10))))))⟩ ⟨_,_,_,_,_,_,rfl,(upc _ _ _ _ (fun _ z=>(ai (Oks.g z.1 0 rfl) (ai (Oks.g z.1 1 rfl) (ai z.2.1 z.2.2)))) ho167_0),rfl,rfl,(upn (fun _ z=>(ai (Oks.g z.1 0 rfl) (ai (Oks.g z.1 1 rfl) (ai z.2.1 z.2.2)))) (rno ho167_3 (ai (M.oks 0) (ai (M.oks 4) (ai (M.oks 7) (M.oks 10)))))),(upn (fun _ z=>(ai (Oks.g z.1 0 rfl) (ai (Oks.g z.1 1 rfl) (ai z.2.1 z.2.2)))) (rno ho167_4 (ai (M.oks 0) (ai (M.oks 4) (ai (M.oks 7) (M.oks 10))))))⟩ hrhr16585 h)
  refine .kn 109 c103<| .gq 5 ?_
  have hs175:MxA_ctx_Ctx (andZ (Oks F12_0) (andZ (Oks Ft65) (Oks Ft23_0))) (.pt gq812_0) (.slice Aq912_0 x12_0.2.2.2.2.2.2.2.2.2.1.length cq912_0) [.bool x12_0.1,.bool x12_0.2.1,.i x12_0.2.2.1,.i x12_0.2.2.2.1,.i x12_0.2.2.2.2.1,.bool x12_0.2.2.2.2.2.1,uo97_6,.slice Ao97_7 x12_0.2.2.2.2.2.2.2.1.length co97_7,.pt gq812_0,.slice Aq912_0 x12_0.2.2.2.2.2.2.2.2.2.1.length cq912_0,.slice Ao97_10 x12_0.2.2.2.2.2.2.2.2.2.2.length co97_10] x12_0:=⟨_,_,_,_,_,_,_,_,_,rfl,rfl,rfl,rfl,rfl,rfl,rfl,(upc _ _ _ _ (fun _ z=>(ai z.1 (ai z.2.1 z.2.2))) ho97_6),(upn (fun _ z=>(ai z.1 (ai z.2.1 z.2.2))) (rno ho97_7 (ai (M.oks 1) (ai (M.oks 6) (M.oks 9))))),(upn (fun _ z=>(ai z.1 (ai z.2.1 z.2.2))) (rno ho97_10 (ai (M.oks 1) (ai (M.oks 6) (M.oks 9)))))⟩
  have hs176:Rs_modes_Mode (andZ (Oks F12_0) (andZ (Oks Ft65) (Oks Ft23_0))) [uo94_0,.i x12_0.2.2.2.2.2.2.2.2.1.2.1,.bool x12_0.2.2.2.2.2.2.2.2.1.2.2.1,.slice Ao94_3 x12_0.2.2.2.2.2.2.2.2.1.2.2.2.1.length co94_3,.slice Ao94_4 x12_0.2.2.2.2.2.2.2.2.1.2.2.2.2.1.length co94_4,uo94_5] x12_0.2.2.2.2.2.2.2.2.1:=⟨_,_,_,_,_,_,rfl,(upc _ _ _ _ (fun _ z=>(ai z.1 (ai z.2.1 z.2.2))) ho94_0),rfl,rfl,(upn (fun _ z=>(ai z.1 (ai z.2.1 z.2.2))) (rno ho94_3 (ai (M.oks 1) (ai (M.oks 6) (M.oks 9))))),(upn (fun _ z=>(ai z.1 (ai z.2.1 z.2.2))) (rno ho94_4 (ai (M.oks 1) (ai (M.oks 6) (M.oks 9)))))⟩
  obtain ⟨t174,ht174,h⟩:=bs h
  refine .ca (Q3.calls (hp0:=hs175) (hq8:=hs176) (hq85:=hq8512_0) (hZm:=fun _ hk_ hT_=>(ai (hT_.fg 1 rfl) (ai (hT_.fg 6 rfl) (hT_.fg 9 rfl)))) (M0:=M.fm [4,5,6,7] [0,1,2,3,8,9,10,11] [0,1,2,3,4,5,6,7,8,9,10] rfl rfl rfl) (h:=ht174)) ?_
  rintro _ W173 ⟨A177,c178,rfl,M_⟩
  replace M:=M_.u1
  refine .gq 4 ?_
  have hs182:MxA_ctx_Ctx (andZ (Oks F11_0) (andZ (Oks Ft55) (Oks Ft19_0))) (.pt gq811_0) (.slice Aq911_0 x11_0.2.2.2.2.2.2.2.2.2.1.length cq911_0) [.bool x11_0.1,.bool x11_0.2.1,.i x11_0.2.2.1,.i x11_0.2.2.2.1,.i x11_0.2.2.2.2.1,.bool x11_0.2.2.2.2.2.1,uo92_6,.slice Ao92_7 x11_0.2.2.2.2.2.2.2.1.length co92_7,.pt gq811_0,.slice Aq911_0 x11_0.2.2.2.2.2.2.2.2.2.1.length cq911_0,.slice Ao92_10 x11_0.2.2.2.2.2.2.2.2.2.2.length co92_10] x11_0:=⟨_,_,_,_,_,_,_,_,_,rfl,rfl,rfl,rfl,rfl,rfl,rfl,(upc _ _ _ _ (fun _ z=>(ai z.1 (ai z.2.1 z.2.2))) ho92_6),(upn (fun _ z=>(ai z.1 (ai z.2.1 z.2.2))) (rno ho92_7 (ai (M.oks 0) (ai (M.oks 7) (M.oks 10))))),(upn (fun _ z=>(ai z.1 (ai z.2.1 z.2.2))) (rno ho92_10 (ai (M.oks 0) (ai (M.oks 7) (M.oks 10)))))⟩
  have hs183:Rs_modes_Mode (andZ (Oks F11_0) (andZ (Oks Ft55) (Oks Ft19_0))) [uo89_0,.i x11_0.2.2.2.2.2.2.2.2.1.2.1,.bool x11_0.2.2.2.2.2.2.2.2.1.2.2.1,.slice Ao89_3 x11_0.2.2.2.2.2.2.2.2.1.2.2.2.1.length co89_3,.slice Ao89_4 x11_0.2.2.2.2.2.2.2.2.1.2.2.2.2.1.length co89_4,uo89_5] x11_0.2.2.2.2.2.2.2.2.1:=⟨_,_,_,_,_,_,rfl,(upc _ _ _ _ (fun _ z=>(ai z.1 (ai z.2.1 z.2.2))) ho89_0),rfl,rfl,(upn (fun _ z=>(ai z.1 (ai z.2.1 z.2.2))) (rno ho89_3 (ai (M.oks 0) (ai (M.oks 7) (M.oks 10))))),(upn (fun _ z=>(ai z.1 (ai z.2.1 z.2.2))) (rno ho89_4 (ai (M.oks 0) (ai (M.oks 7) (M.oks 10)))))⟩
  obtain ⟨t181,ht181,h⟩:=bs h
  refine .ca (Q3.calls (hp0:=hs182) (hq8:=hs183) (hq85:=hq8511_0) (hZm:=fun _ hk_ hT_=>(ai (hT_.fg 0 rfl) (ai (hT_.fg 7 rfl) (hT_.fg 10 rfl)))) (M0:=M.fm [1,2,3,4] [0,5,6,7,8] [0,1,2,3,4,5,6,7,8,9,10] rfl rfl rfl) (h:=ht181)) ?_
  rintro _ W180 ⟨A184,c185,rfl,M_⟩
  replace M:=M_.u1
  refine .gq 9 ?_
  have hs189:MxA_ctx_Ctx (andZ (Oks F13_0) (andZ (Oks Ft75) (Oks Ft27_0))) (.pt gq813_0) (.slice Aq913_0 x13_0.2.2.2.2.2.2.2.2.2.1.length cq913_0) [.bool x13_0.1,.bool x13_0.2.1,.i x13_0.2.2.1,.i x13_0.2.2.2.1,.i x13_0.2.2.2.2.1,.bool x13_0.2.2.2.2.2.1,uo102_6,.slice Ao102_7 x13_0.2.2.2.2.2.2.2.1.length co102_7,.pt gq813_0,.slice Aq913_0 x13_0.2.2.2.2.2.2.2.2.2.1.length cq913_0,.slice Ao102_10 x13_0.2.2.2.2.2.2.2.2.2.2.length co102_10] x13_0:=⟨_,_,_,_,_,_,_,_,_,rfl,rfl,rfl,rfl,rfl,rfl,rfl,(upc _ _ _ _ (fun _ z=>(ai z.1 (ai z.2.1 z.2.2))) ho102_6),(upn (fun _ z=>(ai z.1 (ai z.2.1 z.2.2))) (rno ho102_7 (ai (M.oks 2) (ai (M.oks 5) (M.oks 8))))),(upn (fun _ z=>(ai z.1 (ai z.2.1 z.2.2))) (rno ho102_10 (ai (M.oks 2) (ai (M.oks 5) (M.oks 8)))))⟩
  have hs190:Rs_modes_Mode (andZ (Oks F13_0) (andZ (Oks Ft75) (Oks Ft27_0))) [uo99_0,.i x13_0.2.2.2.2.2.2.2.2.1.2.1,.bool x13_0.2.2.2.2.2.2.2.2.1.2.2.1,.slice Ao99_3 x13_0.2.2.2.2.2.2.2.2.1.2.2.2.1.length co99_3,.slice Ao99_4 x13_0.2.2.2.2.2.2.2.2.1.2.2.2.2.1.length co99_4,uo99_5] x13_0.2.2.2.2.2.2.2.2.1:=⟨_,_,_,_,_,_,rfl,(upc _ _ _ _ (fun _ z=>(ai z.1 (ai z.2.1 z.2.2))) ho99_0),rfl,rfl,(upn (fun _ z=>(ai z.1 (ai z.2.1 z.2.2))) (rno ho99_3 (ai (M.oks 2) (ai (M.oks 5) (M.oks 8))))),(upn (fun _ z=>(ai z.1 (ai z.2.1 z.2.2))) (rno ho99_4 (ai (M.oks 2) (ai (M.oks 5) (M.oks 8)))))⟩
  obtain ⟨t188,ht188,h⟩:=bs h
  refine .ca (Q3.calls (hp0:=hs189) (hq8:=hs190) (hq85:=hq8513_0) (hZm:=fun _ hk_ hT_=>(ai (hT_.fg 2 rfl) (ai (hT_.fg 5 rfl) (hT_.fg 8 rfl)))) (M0:=M.fm [2,3,4,5] [0,1] [0,1,2,3,4,5,6,7,8,9,10] rfl rfl rfl) (h:=ht188)) ?_
  rintro _ W187 ⟨A191,c192,rfl,M_⟩
  replace M:=M_.u1
  refine .gq 12 ?_
  rcases ift h with ⟨c194,h⟩ | ⟨c194,h⟩
  ·refine .kn 160 c194<| .gq 1<| .y (yl_str (xs:=t181.1)) (M.or 1)<| .gq 1<| .y (yl_str (xs:=t188.1)) (M.or 0)<| .gq 4 ?_
   obtain rfl:=sj h
   exact .ret func4 ⟨rfl,(M.pm [] [])⟩
  refine .kn 160 c194<| .gq 8 ?_
  obtain rfl:=sj h
  exact .ret func4 ⟨rfl,(M.pm [] [])⟩
 exact .at (l0 k k.le_refl [.bool t55.2.1,.bool t55.2.2.1,.i t55.2.2.2.1,.i t55.2.2.2.2.1,.i t55.2.2.2.2.2.1,.bool t55.2.2.2.2.2.2.1,uo62_6,.slice Ao62_7 t55.2.2.2.2.2.2.2.2.1.length co62_7,.pt gq8t55,.slice Aq9t55 t55.2.2.2.2.2.2.2.2.2.2.1.length cq9t55,.slice Ao62_10 t55.2.2.2.2.2.2.2.2.2.2.2.length co62_10] t55.2 ([]:List Ent) gq8t55 [uo59_0,.i t55.2.2.2.2.2.2.2.2.2.1.2.1,.bool t55.2.2.2.2.2.2.2.2.2.1.2.2.1,.slice Ao59_3 t55.2.2.2.2.2.2.2.2.2.1.2.2.2.1.length co59_3,.slice Ao59_4 t55.2.2.2.2.2.2.2.2.2.1.2.2.2.2.1.length co59_4,uo59_5] eq85t55 Aq9t55 t55.2.2.2.2.2.2.2.2.2.2.1.length cq9t55 [.bool t65.2.1,.bool t65.2.2.1,.i t65.2.2.2.1,.i t65.2.2.2.2.1,.i t65.2.2.2.2.2.1,.bool t65.2.2.2.2.2.2.1,uo72_6,.slice Ao72_7 t65.2.2.2.2.2.2.2.2.1.length co72_7,.pt gq8t65,.slice Aq9t65 t65.2.2.2.2.2.2.2.2.2.2.1.length cq9t65,.slice Ao72_10 t65.2.2.2.2.2.2.2.2.2.2.2.length co72_10] t65.2 ([]:List Ent) gq8t65 [uo69_0,.i t65.2.2.2.2.2.2.2.2.2.1.2.1,.bool t65.2.2.2.2.2.2.2.2.2.1.2.2.1,.slice Ao69_3 t65.2.2.2.2.2.2.2.2.2.1.2.2.2.1.length co69_3,.slice Ao69_4 t65.2.2.2.2.2.2.2.2.2.1.2.2.2.2.1.length co69_4,uo69_5] eq85t65 Aq9t65 t65.2.2.2.2.2.2.2.2.2.2.1.length cq9t65 [.bool t75.2.1,.bool t75.2.2.1,.i t75.2.2.2.1,.i t75.2.2.2.2.1,.i t75.2.2.2.2.2.1,.bool t75.2.2.2.2.2.2.1,uo82_6,.slice Ao82_7 t75.2.2.2.2.2.2.2.2.1.length co82_7,.pt gq8t75,.slice Aq9t75 t75.2.2.2.2.2.2.2.2.2.2.1.length cq9t75,.slice Ao82_10 t75.2.2.2.2.2.2.2.2.2.2.2.length co82_10] t75.2 ([]:List Ent) gq8t75 [uo79_0,.i t75.2.2.2.2.2.2.2.2.2.1.2.1,.bool t75.2.2.2.2.2.2.2.2.2.1.2.2.1,.slice Ao79_3 t75.2.2.2.2.2.2.2.2.2.1.2.2.2.1.length co79_3,.slice Ao79_4 t75.2.2.2.2.2.2.2.2.2.1.2.2.2.2.1.length co79_4,uo79_5] eq85t75 Aq9t75 t75.2.2.2.2.2.2.2.2.2.2.1.length cq9t75 0 (M.pm [8,9,10,11,4,5,6,7,0,1,2,3] [[],[],[],[0],[1],[2],[3],[4],[5],[6],[7]]) ⟨_,_,_,_,_,_,_,_,_,rfl,rfl,rfl,rfl,rfl,rfl,rfl,(upc _ _ _ _ (fun _ z=>(ai z.2.1 z.2.2)) ho62_6),(upn (fun _ z=>(ai z.2.1 z.2.2)) (rno ho62_7 (ai (M.oks 4) (M.oks 7)))),(upn (fun _ z=>(ai z.2.1 z.2.2)) (rno ho62_10 (ai (M.oks 4) (M.oks 7))))⟩ ⟨_,_,_,_,_,_,rfl,(upc _ _ _ _ (fun _ z=>(ai z.2.1 z.2.2)) ho59_0),rfl,rfl,(upn (fun _ z=>(ai z.2.1 z.2.2)) (rno ho59_3 (ai (M.oks 4) (M.oks 7)))),(upn (fun _ z=>(ai z.2.1 z.2.2)) (rno ho59_4 (ai (M.oks 4) (M.oks 7))))⟩ hrhr5785 ⟨_,_,_,_,_,_,_,_,_,rfl,rfl,rfl,rfl,rfl,rfl,rfl,(upc _ _ _ _ (fun _ z=>(ai z.2.1 z.2.2)) ho72_6),(upn (fun _ z=>(ai z.2.1 z.2.2)) (rno ho72_7 (ai (M.oks 3) (M.oks 6)))),(upn (fun _ z=>(ai z.2.1 z.2.2)) (rno ho72_10 (ai (M.oks 3) (M.oks 6))))⟩ ⟨_,_,_,_,_,_,rfl,(upc _ _ _ _ (fun _ z=>(ai z.2.1 z.2.2)) ho69_0),rfl,rfl,(upn (fun _ z=>(ai z.2.1 z.2.2)) (rno ho69_3 (ai (M.oks 3) (M.oks 6)))),(upn (fun _ z=>(ai z.2.1 z.2.2)) (rno ho69_4 (ai (M.oks 3) (M.oks 6))))⟩ hrhr6785 ⟨_,_,_,_,_,_,_,_,_,rfl,rfl,rfl,rfl,rfl,rfl,rfl,(upc _ _ _ _ (fun _ z=>(ai z.2.1 z.2.2)) ho82_6),(upn (fun _ z=>(ai z.2.1 z.2.2)) (rno ho82_7 (ai (M.oks 2) (M.oks 5)))),(upn (fun _ z=>(ai z.2.1 z.2.2)) (rno ho82_10 (ai (M.oks 2) (M.oks 5))))⟩ ⟨_,_,_,_,_,_,rfl,(upc _ _ _ _ (fun _ z=>(ai z.2.1 z.2.2)) ho79_0),rfl,rfl,(upn (fun _ z=>(ai z.2.1 z.2.2)) (rno ho79_3 (ai (M.oks 2) (M.oks 5)))),(upn (fun _ z=>(ai z.2.1 z.2.2)) (rno ho79_4 (ai (M.oks 2) (M.oks 5))))⟩ hrhr7785 h)
end Go.Scr.S
