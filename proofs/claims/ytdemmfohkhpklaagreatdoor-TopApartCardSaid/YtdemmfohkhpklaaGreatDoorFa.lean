/- Functions that the law reaches, as plain functions, and that each call answers so: what makes a cipher. -/
import Derived.Test.YtdemmfohkhpklaaGreatDoorXF
set_option linter.unusedVariables false
set_option linter.unusedSimpArgs false
set_option maxRecDepth 100000
set_option maxHeartbeats 8000000
namespace Go.Scr.S
variable {k np0 cp0 np1 cp1 np2 cp2 np3 cp3 np4 cp4:Nat} {Ap0 Ap1 Ap2 Ap3 Ap4:Option Addr} {w w0:World} {FT:List Ent} {Zm Zp0 Zp1 Zp2 Zp3:Zp}
open Go.RowKit (Below)
open Go.Proofs.Tryz (prog f18 func18 f23 func23 f56 func56 f57 func57 f58 func58 f60 func60 f62 func62 f64 func64 f66 func66 f89 func89 f90 func90 f94 func94 f95 func95 f97 func97 f98 func98 f99 func99 f102 func102 f103 func103 f104 func104 f105 func105 f106 func106 f107 func107 f108 func108 f109 func109 f110 func110 f111 func111 f112 func112 f135 func135 f136 func136 f137 func137 f141 func141 f142 func142 f143 func143 f144 func144 f146 func146 f147 func147 f148 func148 f149 func149 f150 func150 f151 func151 f152 func152 f153 func153 f154 func154 f155 func155 f156 func156 f157 func157 f179 func179 f180 func180 f185 func185 f186 func186 f187 func187 f188 func188 f189 func189 f190 func190 f191 func191 f192 func192 f193 func193 f194 func194 f214 func214 f215 func215 f216 func216 f217 func217)
def Rs_des_Des (Z:Zp) (cs:List Value) (x:Lk):Prop:= ∃(u0:Value),cs=[u0]∧(rRows (rRows (rNums .u8))) Z u0 x
theorem up_Rs_des_Des (Z Y:Zp) (cs:List Value) (x:Lk) (hs: ∀W,Y W→Z W):Rs_des_Des Z cs x→Rs_des_Des Y cs x:=fun ⟨u0,e,h0⟩=>⟨u0,e,(up_rows (up_rows (up_nums .u8))) _ _ _ _ hs h0⟩
def Rs_idea_Idea (Z:Zp) (cs:List Value) (x:Lp):Prop:= ∃(u0:Value) (u1:Value),cs=[u0,u1]∧(rNums .i64) Z u0 x.1∧(rNums .i64) Z u1 x.2
theorem up_Rs_idea_Idea (Z Y:Zp) (cs:List Value) (x:Lp) (hs: ∀W,Y W→Z W):Rs_idea_Idea Z cs x→Rs_idea_Idea Y cs x:=fun ⟨u0,u1,e,h0,h1⟩=>⟨u0,u1,e,upn hs h0,upn hs h1⟩
def Rs_twofish_Twofish (Z:Zp) (cs:List Value) (x:Lp):Prop:= ∃(u0:Value) (u1:Value),cs=[u0,u1]∧(rNums .u32) Z u0 x.1∧(rNums .u32) Z u1 x.2
theorem up_Rs_twofish_Twofish (Z Y:Zp) (cs:List Value) (x:Lp) (hs: ∀W,Y W→Z W):Rs_twofish_Twofish Z cs x→Rs_twofish_Twofish Y cs x:=fun ⟨u0,u1,e,h0,h1⟩=>⟨u0,u1,e,upn hs h0,upn hs h1⟩
def Rs_aria_Aria (Z:Zp) (cs:List Value) (x:(Lj×Lj)):Prop:= ∃(c0:List Value) (u1:Value),cs=c0++[u1]∧x.1.length=4∧Each2 ((rNums .u8) Z) c0 x.1∧(rRows (rNums .u8)) Z u1 x.2
theorem up_Rs_aria_Aria (Z Y:Zp) (cs:List Value) (x:(Lj×Lj)) (hs: ∀W,Y W→Z W):Rs_aria_Aria Z cs x→Rs_aria_Aria Y cs x:=fun ⟨c0,u1,e,l0,h0,h1⟩=>⟨c0,u1,e,l0,Each2.up (up_nums .u8) h0 hs,(up_rows (up_nums .u8)) _ _ _ _ hs h1⟩
def Rs_small_Small (Z:Zp) (cs:List Value) (x:(Li×Int)):Prop:= ∃(u0:Value) (u1:Value),cs=[u0,u1]∧(rNums .u32) Z u0 x.1∧(rInt .i64) Z u1 x.2
theorem up_Rs_small_Small (Z Y:Zp) (cs:List Value) (x:(Li×Int)) (hs: ∀W,Y W→Z W):Rs_small_Small Z cs x→Rs_small_Small Y cs x:=fun ⟨u0,u1,e,h0,h1⟩=>⟨u0,u1,e,upn hs h0,(up_int .i64) _ _ _ _ hs h1⟩
def Rs_cipher_Cipher (Z:Zp) (cs:List Value) (x:Ci):Prop:= ∃(u0:Value) (u1:Value),cs=[u0,u1]∧(rInt .i64) Z u0 x.1∧(rSum (rFn 59 (rOpt (rPtr Rs_des_Des))) (rSum (rFn 61 (rOpt (rPtr Rs_idea_Idea))) (rSum (rFn 63 (rOpt (rPtr Rs_twofish_Twofish))) (rSum (rFn 65 (rOpt (rPtr Rs_aria_Aria))) (rFn 67 (rOpt (rPtr Rs_small_Small))))))) Z u1 x.2
theorem up_Rs_cipher_Cipher (Z Y:Zp) (cs:List Value) (x:Ci) (hs: ∀W,Y W→Z W):Rs_cipher_Cipher Z cs x→Rs_cipher_Cipher Y cs x:=fun ⟨u0,u1,e,h0,h1⟩=>⟨u0,u1,e,(up_int .i64) _ _ _ _ hs h0,(up_sum (up_fn 59 (up_opt (up_ptr up_Rs_des_Des))) (up_sum (up_fn 61 (up_opt (up_ptr up_Rs_idea_Idea))) (up_sum (up_fn 63 (up_opt (up_ptr up_Rs_twofish_Twofish))) (up_sum (up_fn 65 (up_opt (up_ptr up_Rs_aria_Aria))) (up_fn 67 (up_opt (up_ptr up_Rs_small_Small))))))) _ _ _ _ hs h1⟩
theorem upc:Up (rOpt (rPtr Rs_cipher_Cipher)):=up_opt (up_ptr up_Rs_cipher_Cipher)
def Q2.f (k:Nat) (a0:Int):Option (Int):=if (a0==1)=true then (some 8) else (if (a0==2)=true then (some 8) else (if (a0==3)=true then (some 8) else (if (a0==4)=true then (some 8) else (if (a0==5)=true then (some 8) else (if (a0==8)=true then (some 8) else (if (a0==6)=true then (some 16) else (if (a0==7)=true then (some 16) else (some 0))))))))
theorem Q2.calls {a0:Int} {r:Int} (h:Q2.f k a0=some r):Calls prog 23 #[.i a0] w (Ret fun v w'=>v= .i r∧Mem w w' (Gs [] [])):=by
 unfold Q2.f at h
 refine calls_S func23 ?_
 have M:=Mem.r0 w
 refine .gq 16 ?_
 rcases ift h with ⟨c1,h⟩ | ⟨c1,h⟩
 ·refine .kn 4 c1<| .gq 7 ?_
  obtain rfl:=sj h
  exact .ret func23 ⟨rfl,(M.pm [] [])⟩
 refine .kn 4 c1<| .gq 6 ?_
 rcases ift h with ⟨c2,h⟩ | ⟨c2,h⟩
 ·refine .kn 4 c2<| .gq 7 ?_
  obtain rfl:=sj h
  exact .ret func23 ⟨rfl,(M.pm [] [])⟩
 refine .kn 4 c2<| .gq 6 ?_
 rcases ift h with ⟨c3,h⟩ | ⟨c3,h⟩
 ·refine .kn 4 c3<| .gq 7 ?_
  obtain rfl:=sj h
  exact .ret func23 ⟨rfl,(M.pm [] [])⟩
 refine .kn 4 c3<| .gq 6 ?_
 rcases ift h with ⟨c4,h⟩ | ⟨c4,h⟩
 ·refine .kn 4 c4<| .gq 7 ?_
  obtain rfl:=sj h
  exact .ret func23 ⟨rfl,(M.pm [] [])⟩
 refine .kn 4 c4<| .gq 6 ?_
 rcases ift h with ⟨c5,h⟩ | ⟨c5,h⟩
 ·refine .kn 4 c5<| .gq 7 ?_
  obtain rfl:=sj h
  exact .ret func23 ⟨rfl,(M.pm [] [])⟩
 refine .kn 4 c5<| .gq 5 ?_
 rcases ift h with ⟨c6,h⟩ | ⟨c6,h⟩
 ·refine .kn 4 c6<| .gq 5 ?_
  obtain rfl:=sj h
  exact .ret func23 ⟨rfl,(M.pm [] [])⟩
 refine .kn 4 c6<| .gq 7 ?_
 rcases ift h with ⟨c7,h⟩ | ⟨c7,h⟩
 ·refine .kn 11 c7<| .gq 7 ?_
  obtain rfl:=sj h
  exact .ret func23 ⟨rfl,(M.pm [] [])⟩
 refine .kn 11 c7<| .gq 5 ?_
 rcases ift h with ⟨c8,h⟩ | ⟨c8,h⟩
 ·refine .kn 11 c8<| .gq 5 ?_
  obtain rfl:=sj h
  exact .ret func23 ⟨rfl,(M.pm [] [])⟩
 refine .kn 11 c8<| .gq 7 ?_
 obtain rfl:=sj h
 exact .ret func23 ⟨rfl,(M.pm [] [])⟩
def Y8.l0:Nat→Li→Int→Int→Option (Int)
 | 0,_,_,_=>none
 | k+1,a0,a1,x8_0=>if (decide (x8_0<(a0.length:Int)))=true then (gd (0≤x8_0) (gd (x8_0<(a0.length:Int)) (if (a1==(rd a0 x8_0))=true then (some x8_0) else (Y8.l0 k a0 a1 (I64 (x8_0+1)))))) else (some (-1))
def Y8.f (k:Nat) (a0:Li) (a1:Int):Option (Int):=Y8.l0 k a0 a1 0
abbrev Y8.R (r:Int) (w:World):Value→World→Prop:=fun v w'=>v= .i r∧Mem w w' (Gs [] [])
theorem Y8.calls {a0:Li} {a1:Int} {r:Int} (hr0:Rd w (.slice Ap0 np0 cp0) (nums .i64 a0)) (h:Y8.f k a0 a1=some r):Calls prog 89 #[(.slice Ap0 np0 cp0),.i a1] w (Ret (Y8.R r w)):=by
 obtain rfl:=hr0.ln
 unfold Y8.f at h
 refine calls_S func89 ?_
 have M:=Mem.r0 w
 refine .gq 13 ?_
 have l0: ∀k_≤k,∀(x8_0:Int) {W:World} (M:Mem w W (Gs [] [])) (h:Y8.l0 k_ a0 a1 x8_0=some r),RL 89 f89 (Y8.R r w) [1,0,1,0,0] [(0,.slice Ap0 a0.length cp0),(1,.i a1),(7,.i (a0.length:Int)),(8,.i x8_0)] W:=by
  refine loopI (by intros;rename_i h;simp [Y8.l0] at h) fun k hk ih0 x8_0 W M h=> ?_
  simp only [Y8.l0] at h
  refine .gq 5 ?_
  rcases ift h with ⟨c1,h⟩ | ⟨c1,h⟩
  ·refine .kn 9 c1<| .gq 14 ?_
   obtain ⟨c3,h⟩:=ifd h
   obtain ⟨c4,h⟩:=ifd h
   obtain ⟨pq2,Cq2⟩:=(hr0.mono M.below).na c3 c4
   refine .ix Cq2<| .lc Cq2<| .gq 2 ?_
   rcases ift h with ⟨c5,h⟩ | ⟨c5,h⟩
   ·refine .kn 16 c5<| .gq 6 ?_
    obtain rfl:=sj h
    exact .ret func89 ⟨rfl,(M.pm [] [])⟩
   exact .kn 16 c5<| .gq 8<| .at (ih0 k (by omega) (I64 (x8_0+1)) (M.pm [] []) h)
  refine .kn 9 c1<| .gq 6 ?_
  obtain rfl:=sj h
  exact .ret func89 ⟨rfl,(M.pm [] [])⟩
 exact .at (l0 k k.le_refl 0 (M.pm [] []) h)
def Y5.f (k:Nat) (a0:Li) (a1:Int):Option (Bool):=(Y8.f k a0 a1).bind fun t2=>(some (decide (t2≥0)))
theorem Y5.calls {a0:Li} {a1:Int} {r:Bool} (hr0:Rd w (.slice Ap0 np0 cp0) (nums .i64 a0)) (h:Y5.f k a0 a1=some r):Calls prog 56 #[(.slice Ap0 np0 cp0),.i a1] w (Ret fun v w'=>v= .bool r∧Mem w w' (Gs [] [])):=by
 obtain rfl:=hr0.ln
 unfold Y5.f at h
 refine calls_S func56 ?_
 have M:=Mem.r0 w
 refine .gq 8 ?_
 obtain ⟨t2,ht2,h⟩:=bs h
 refine .ca (Y8.calls (hr0.mono M.below) ht2) ?_
 rintro _ W1 ⟨rfl,M_⟩
 replace M:=M.cg M_
 refine .gq 3 ?_
 obtain rfl:=sj h
 exact .ret func56 ⟨rfl,(M.pm [] [])⟩
def Qz.f (k:Nat) (a0:Int):Option Li:=if (a0==1)=true then (some ([8]:Li)) else (if (a0==2)=true then (some ([16,24]:Li)) else (if (a0==3)=true then (some ([16]:Li)) else (if (a0==4)=true then (some ([16]:Li)) else (if (a0==8)=true then (some ([16]:Li)) else (if (a0==5)=true then (some ([32]:Li)) else (if (a0==6)=true then (some ([16,24,32]:Li)) else (if (a0==7)=true then (some ([16,24,32]:Li)) else (some ([]:Li)))))))))
theorem Qz.calls {a0:Int} {r:Li} (h:Qz.f k a0=some r):Calls prog 57 #[.i a0] w (Ret fun v w'=> ∃A0' c0',v= .slice A0' r.length c0'∧Mem w w' (Gs [⟨.slice A0' r.length c0',3,1,nums .i64 r⟩] [])):=by
 unfold Qz.f at h
 refine calls_S func57 ?_
 have M:=Mem.r0 w
 refine .gq 15 ?_
 rcases ift h with ⟨c1,h⟩ | ⟨c1,h⟩
 ·refine .kn 4 c1<| .gq 3<| .new 3 1 1 (nums .i64 [8]) M fun g2 W3 M=> .gq 2 ?_
  obtain rfl:=sj h
  exact .ret func57 ⟨(pa g2),1,rfl,(M.pm [0] [])⟩
 refine .kn 4 c1<| .gq 6 ?_
 rcases ift h with ⟨c5,h⟩ | ⟨c5,h⟩
 ·refine .kn 7 c5<| .gq 3<| .new 3 1 2 (nums .i64 [16,24]) M fun g6 W7 M=> .gq 2 ?_
  obtain rfl:=sj h
  exact .ret func57 ⟨(pa g6),2,rfl,(M.pm [0] [])⟩
 refine .kn 7 c5<| .gq 7 ?_
 rcases ift h with ⟨c9,h⟩ | ⟨c9,h⟩
 ·refine .kn 10 c9<| .gq 5<| .new 3 1 1 (nums .i64 [16]) M fun g10 W11 M=> .gq 2 ?_
  obtain rfl:=sj h
  exact .ret func57 ⟨(pa g10),1,rfl,(M.pm [0] [])⟩
 refine .kn 10 c9<| .gq 6 ?_
 rcases ift h with ⟨c13,h⟩ | ⟨c13,h⟩
 ·refine .kn 10 c13<| .gq 5<| .new 3 1 1 (nums .i64 [16]) M fun g14 W15 M=> .gq 2 ?_
  obtain rfl:=sj h
  exact .ret func57 ⟨(pa g14),1,rfl,(M.pm [0] [])⟩
 refine .kn 10 c13<| .gq 5 ?_
 rcases ift h with ⟨c17,h⟩ | ⟨c17,h⟩
 ·refine .kn 10 c17<| .gq 3<| .new 3 1 1 (nums .i64 [16]) M fun g18 W19 M=> .gq 2 ?_
  obtain rfl:=sj h
  exact .ret func57 ⟨(pa g18),1,rfl,(M.pm [0] [])⟩
 refine .kn 10 c17<| .gq 6 ?_
 rcases ift h with ⟨c21,h⟩ | ⟨c21,h⟩
 ·refine .kn 15 c21<| .gq 3<| .new 3 1 1 (nums .i64 [32]) M fun g22 W23 M=> .gq 2 ?_
  obtain rfl:=sj h
  exact .ret func57 ⟨(pa g22),1,rfl,(M.pm [0] [])⟩
 refine .kn 15 c21<| .gq 7 ?_
 rcases ift h with ⟨c25,h⟩ | ⟨c25,h⟩
 ·refine .kn 18 c25<| .gq 5<| .new 3 1 3 (nums .i64 [16,24,32]) M fun g26 W27 M=> .gq 2 ?_
  obtain rfl:=sj h
  exact .ret func57 ⟨(pa g26),3,rfl,(M.pm [0] [])⟩
 refine .kn 18 c25<| .gq 5 ?_
 rcases ift h with ⟨c29,h⟩ | ⟨c29,h⟩
 ·refine .kn 18 c29<| .gq 3<| .new 3 1 3 (nums .i64 [16,24,32]) M fun g30 W31 M=> .gq 2 ?_
  obtain rfl:=sj h
  exact .ret func57 ⟨(pa g30),3,rfl,(M.pm [0] [])⟩
 refine .kn 18 c29<| .gq 7 ?_
 replace M:=M.n1 3
 obtain rfl:=sj h
 exact .ret func57 ⟨none,0,rfl,(M.pm [0] [])⟩
def Vl.l0:Nat→Int→Int→Int→Li→Int→Int→Option Li
 | 0,_,_,_,_,_,_=>none
 | k+1,a2,a3,a4,x0_0,x11_0,x14_0=>if (decide (x14_0<a4))=true then (gd (x0_0.length+([x11_0]:Li).length≤1000000000) (if (decide ((I64 (x11_0-a2))<1))=true then (Vl.l0 k a2 a3 a4 (x0_0++([x11_0]:Li)) (I64 ((I64 (x11_0-a2))+(I64 (a2+a3)))) (I64 (x14_0+1))) else (Vl.l0 k a2 a3 a4 (x0_0++([x11_0]:Li)) (I64 (x11_0-a2)) (I64 (x14_0+1))))) else (some x0_0)
def Vl.f (k:Nat) (a0:Li) (a1:Int) (a2:Int) (a3:Int) (a4:Int):Option Li:=Vl.l0 k a2 a3 a4 a0 a1 0
abbrev Vl.R (r:Li) (w0:World) (FT:List Ent):Value→World→Prop:=fun v w'=> ∃A0' c0',v= .slice A0' r.length c0'∧Mem w0 w' (Gs [⟨.slice A0' r.length c0',3,1,nums .i64 r⟩] [FT])
theorem Vl.calls {a0:Li} {a1:Int} {a2:Int} {a3:Int} {a4:Int} {r:Li} (M0:Mem w0 w (Gs [⟨.slice Ap0 np0 cp0,3,1,nums .i64 a0⟩] [FT])) (h:Vl.f k a0 a1 a2 a3 a4=some r):Calls prog 179 #[(.slice Ap0 np0 cp0),.i a1,.i a2,.i a3,.i a4] w (Ret (Vl.R r w0 FT)):=by
 obtain rfl:=(M0.or 0).ln
 unfold Vl.f at h
 refine calls_S func179 ?_
 have M:=M0
 refine .gq 17 ?_
 have l0: ∀k_≤k,∀(A0_0:Option Addr) (c0_0:Nat) (x0_0:Li) (x11_0:Int) (x14_0:Int) {W:World} (M:Mem w0 W (Gs [⟨.slice A0_0 x0_0.length c0_0,3,1,nums .i64 x0_0⟩] [FT])) (h:Vl.l0 k_ a2 a3 a4 x0_0 x11_0 x14_0=some r),RL 179 f179 (Vl.R r w0 FT) [1,1,0,1,0,0] [(0,.slice A0_0 x0_0.length c0_0),(2,.i a2),(3,.i a3),(11,.i x11_0),(13,.i a4),(14,.i x14_0)] W:=by
  refine loopI (by intros;rename_i h;simp [Vl.l0] at h) fun k hk ih0 A0_0 c0_0 x0_0 x11_0 x14_0 W M h=> ?_
  simp only [Vl.l0] at h
  refine .gq 5 ?_
  rcases ift h with ⟨c3,h⟩ | ⟨c3,h⟩
  ·refine .kn 15 c3<| .gq 8<| .new 3 1 1 (nums .i64 [x11_0]) M fun g4 W5 M=> ?_
   obtain ⟨c10,h⟩:=ifd h
   refine .an M 1 rfl (M.or 0) c10 fun A7 c8 W9 M=> .gq 14 ?_
   rcases ift h with ⟨c12,h⟩ | ⟨c12,h⟩
   ·exact .kn 24 c12<| .gq 15<| .at (ih0 k (by omega) A7 c8 (x0_0++([x11_0]:Li)) (I64 ((I64 (x11_0-a2))+(I64 (a2+a3)))) (I64 (x14_0+1)) (M.pm [1] [[0]]) h)
   exact .kn 24 c12<| .gq 8<| .at (ih0 k (by omega) A7 c8 (x0_0++([x11_0]:Li)) (I64 (x11_0-a2)) (I64 (x14_0+1)) (M.pm [1] [[0]]) h)
  refine .kn 15 c3<| .gq 7 ?_
  obtain rfl:=sj h
  exact .ret func179 ⟨A0_0,c0_0,rfl,(M.pm [0] [[0]])⟩
 exact .at (l0 k k.le_refl Ap0 cp0 a0 a1 0 (M.pm [0] [[0]]) h)
def Vk.f (k:Nat):Option Lp:=(Vl.f k ([]:Li) 57 8 57 28).bind fun t2=>((Vl.f k t2 63 8 55 24).bind fun t8=>(gd (t8.length+([28,20,12,4]:Li).length≤1000000000) (gd (([14,17,11,24,1,5,3,28,15,6,21,10,23,19,12,4,26,8,16,7,27,20,13,2]:Li).length+([41,52,31,37,47,55,30,40,51,45,33,48,44,49,39,56,34,53,46,42,50,36,29,32]:Li).length≤1000000000) (some ((t8++([28,20,12,4]:Li)),(([14,17,11,24,1,5,3,28,15,6,21,10,23,19,12,4,26,8,16,7,27,20,13,2]:Li)++([41,52,31,37,47,55,30,40,51,45,33,48,44,49,39,56,34,53,46,42,50,36,29,32]:Li)))))))
theorem Vk.calls {r:Li×Li} (h:Vk.f k=some r):Calls prog 135 #[] w (Ret fun v w'=> ∃A0' c0',∃A1' c1',v= .tuple #[.slice A0' r.1.length c0',.slice A1' r.2.length c1']∧Mem w w' (Gs [⟨.slice A0' r.1.length c0',3,1,nums .i64 r.1⟩,⟨.slice A1' r.2.length c1',3,1,nums .i64 r.2⟩] [])):=by
 unfold Vk.f at h
 refine calls_S func135 ?_
 have M:=Mem.r0 w
 refine .gq 7 ?_
 replace M:=M.n1 3
 obtain ⟨t2,ht2,h⟩:=bs h
 refine .ca (Vl.calls (M.fm [0] [] [] rfl rfl rfl) ht2) ?_
 rintro _ W1 ⟨A4,c5,rfl,M_⟩
 replace M:=M_.u1
 refine .gq 5 ?_
 obtain ⟨t8,ht8,h⟩:=bs h
 refine .ca (Vl.calls (M.fm [0] [] [] rfl rfl rfl) ht8) ?_
 rintro _ W7 ⟨A9,c10,rfl,M_⟩
 replace M:=M_.u1
 refine .new 3 1 4 (nums .i64 [28,20,12,4]) M fun g12 W13 M=> ?_
 obtain ⟨c18,h⟩:=ifd h
 refine .an M 1 rfl (M.or 0) c18 fun A15 c16 W17 M=> .gq 4<| .new 3 1 24 (nums .i64 [14,17,11,24,1,5,3,28,15,6,21,10,23,19,12,4,26,8,16,7,27,20,13,2]) M fun g20 W21 M=> .gq 6<| .new 3 1 24 (nums .i64 [41,52,31,37,47,55,30,40,51,45,33,48,44,49,39,56,34,53,46,42,50,36,29,32]) M fun g23 W24 M=> ?_
 obtain ⟨c29,h⟩:=ifd h
 refine .an M 1 rfl (M.or 0) c29 fun A26 c27 W28 M=> .gq 3 ?_
 obtain rfl:=sj h
 exact .ret func135 ⟨A15,c16,A26,c27,rfl,(M.pm [3,1] [])⟩
def Y1.f (k:Nat) (a0:Li):Option Li:=gd (([]:Li).length+a0.length≤1000000000) (some (([]:Li)++a0))
theorem Y1.calls {a0:Li} {r:Li} (hr0:Rd w (.slice Ap0 np0 cp0) (nums .i64 a0)) (h:Y1.f k a0=some r):Calls prog 136 #[(.slice Ap0 np0 cp0)] w (Ret fun v w'=> ∃A0' c0',v= .slice A0' r.length c0'∧Mem w w' (Gs [⟨.slice A0' r.length c0',3,1,nums .i64 r⟩] [])):=by
 obtain rfl:=hr0.ln
 unfold Y1.f at h
 refine calls_S func136 ?_
 have M:=Mem.r0 w
 refine .gq 8 ?_
 rcases (hr0.mono M.below).isnil with ⟨rfl,hn_⟩ | ⟨a1,rfl⟩
 ·obtain rfl:a0=[]:=by simpa [nums,bools,strs,ones] using hn_
  replace h:(some ([]:Li))=some r:=by simpa using h
  refine .gq 7 ?_
  replace M:=M.n1 3
  obtain rfl:=sj h
  exact .ret func136 ⟨none,0,rfl,(M.pm [0] [])⟩
 ·refine .gq 6<| .new 3 1 0 (nums .i64 []) M fun g2 W3 M=> .gq 1 ?_
  obtain ⟨c8,h⟩:=ifd h
  refine .an M 0 rfl (hr0.mono M.below) c8 fun A5 c6 W7 M=> .gq 2 ?_
  obtain rfl:=sj h
  exact .ret func136 ⟨A5,c6,rfl,(M.pm [0] [])⟩
def Qk.f (k:Nat) (a0:Li) (a1:Int):Option (Int):=if (decide (a1<1))=true then (some 0) else ((some (decide ((I64 (Int.tdiv (I64 (a1-1)) 8))≥(a0.length:Int)):Bool)).bind fun y2=>(if y2=true then (some 0) else (gd (0≤(I64 (Int.tdiv (I64 (a1-1)) 8))) (gd ((I64 (Int.tdiv (I64 (a1-1)) 8))<(a0.length:Int)) (gd (0≤(I64 (7-(Int.tmod (I64 (a1-1)) 8)))) (some (band .i64 (I64 (shrv .u8 (rd a0 (I64 (Int.tdiv (I64 (a1-1)) 8))) (I64 (7-(Int.tmod (I64 (a1-1)) 8))))) 1)))))))
theorem Qk.calls {a0:Li} {a1:Int} {r:Int} (hr0:Rd w (.slice Ap0 np0 cp0) (nums .u8 a0)) (h:Qk.f k a0 a1=some r):Calls prog 180 #[(.slice Ap0 np0 cp0),.i a1] w (Ret fun v w'=>v= .i r∧Mem w w' (Gs [] [])):=by
 obtain rfl:=hr0.ln
 unfold Qk.f at h
 refine calls_S func180 ?_
 have M:=Mem.r0 w
 refine .gq 10 ?_
 rcases ift h with ⟨c1,h⟩ | ⟨c1,h⟩
 ·refine .kn 7 c1<| .gq 13 ?_
  obtain rfl:=sj h
  exact .ret func180 ⟨rfl,(M.pm [] [])⟩
 refine .kn 7 c1<| .gq 8 ?_
 let y2:Bool:=decide ((I64 (Int.tdiv (I64 (a1-1)) 8))≥(a0.length:Int))
 replace h:=bz (y:=y2) h rfl
 rcases ift h with ⟨c3,h⟩ | ⟨c3,h⟩
 ·refine .kn 14 c3<| .gq 5 ?_
  obtain rfl:=sj h
  exact .ret func180 ⟨rfl,(M.pm [] [])⟩
 refine .kn 14 c3<| .gq 8 ?_
 obtain ⟨c5,h⟩:=ifd h
 obtain ⟨c6,h⟩:=ifd h
 obtain ⟨pq4,Cq4⟩:=(hr0.mono M.below).na c5 c6
 refine .ix Cq4<| .lc Cq4<| .gq 4 ?_
 obtain ⟨c7,h⟩:=ifd h
 refine .yt (yl_shr (kd:= .u8) (rd a0 (I64 (Int.tdiv (I64 (a1-1)) 8))) c7)<| .gq 4 ?_
 obtain rfl:=sj h
 exact .ret func180 ⟨rfl,(M.pm [] [])⟩
def Qn.l0:Nat→Li→Li→Int→Li→Int→Option (Li×Bool)
 | 0,_,_,_,_,_=>none
 | k+1,a0,a1,y1,x6_0,x16_0=>if (decide (x16_0<(a1.length:Int)))=true then (gd (0≤x16_0) (gd (x16_0<(a1.length:Int)) (if (decide ((rd a1 x16_0)<1))=true then (some (([]:Li),false)) else (gd (0≤x16_0) (gd (x16_0<(a1.length:Int)) ((some (decide ((I64 (Int.tdiv (I64 ((rd a1 x16_0)-1)) 8))≥(a0.length:Int)):Bool)).bind fun y16=>(if y16=true then (some (([]:Li),false)) else (gd (0≤(I64 (Int.tdiv x16_0 8))) (gd ((I64 (Int.tdiv x16_0 8))<((y1:Int).toNat:Int)) (gd (0≤x16_0) (gd (x16_0<(a1.length:Int)) ((Qk.f k a0 (rd a1 x16_0)).bind fun t26=>(gd (0≤(I64 (7-(Int.tmod x16_0 8)))) (gd (0≤(I64 (Int.tdiv x16_0 8))) (gd ((I64 (Int.tdiv x16_0 8))<((y1:Int).toNat:Int)) (Qn.l0 k a0 a1 y1 (x6_0.set (I64 (Int.tdiv x16_0 8):Int).toNat (bor .u8 (rd x6_0 (I64 (Int.tdiv x16_0 8))) (U8 (shlv .i64 t26 (I64 (7-(Int.tmod x16_0 8))))))) (I64 (x16_0+1)))))))))))))))))) else (some (x6_0,true))
def Qn.f (k:Nat) (a0:Li) (a1:Li):Option (Li×Bool):=(some (I64 (Int.tdiv (I64 ((I64 ((a1.length:Int)+8))-1)) 8):Int)).bind fun y1=>(gd (0≤y1) (gd (y1≤1000000000) (Qn.l0 k a0 a1 y1 (List.replicate ((y1:Int).toNat) (0:Int)) 0)))
abbrev Qn.R (r:Li×Bool) (w:World):Value→World→Prop:=fun v w'=> ∃A0' c0',v= .tuple #[.slice A0' r.1.length c0',.bool r.2]∧Mem w w' (Gs [⟨.slice A0' r.1.length c0',5,1,nums .u8 r.1⟩] [])
theorem Qn.calls {a0:Li} {a1:Li} {r:Li×Bool} (hr0:Rd w (.slice Ap0 np0 cp0) (nums .u8 a0)) (hr1:Rd w (.slice Ap1 np1 cp1) (nums .i64 a1)) (h:Qn.f k a0 a1=some r):Calls prog 137 #[(.slice Ap0 np0 cp0),(.slice Ap1 np1 cp1)] w (Ret (Qn.R r w)):=by
 obtain rfl:=hr0.ln
 obtain rfl:=hr1.ln
 unfold Qn.f at h
 refine calls_S func137 ?_
 have M:=Mem.r0 w
 refine .gq 12 ?_
 let y1:Int:=I64 (Int.tdiv (I64 ((I64 ((a1.length:Int)+8))-1)) 8)
 replace h:=bz (y:=y1) h rfl
 obtain ⟨c4,h⟩:=ifd h
 obtain ⟨c5,h⟩:=ifd h
 refine .mn 5 .u8 y1 y1 M fun g3 W2 M=> .gq 11 ?_
 have l0: ∀k_≤k,∀(x6_0:Li) (x16_0:Int) {W:World} (M:Mem w W (Gs [⟨.slice (pa g3) ((y1:Int).toNat) ((y1:Int).toNat),5,1,nums .u8 x6_0⟩] [])) (h:Qn.l0 k_ a0 a1 y1 x6_0 x16_0=some r),RL 137 f137 (Qn.R r w) [1,1,0,1,0,0] [(0,.slice Ap0 a0.length cp0),(1,.slice Ap1 a1.length cp1),(6,.slice (pa g3) ((y1:Int).toNat) ((y1:Int).toNat)),(15,.i (a1.length:Int)),(16,.i x16_0)] W:=by
  refine loopI (by intros;rename_i h;simp [Qn.l0] at h) fun k hk ih0 x6_0 x16_0 W M h=> ?_
  simp only [Qn.l0] at h
  refine .gq 5 ?_
  rcases ift h with ⟨c7,h⟩ | ⟨c7,h⟩
  ·refine .kn 17 c7<| .gq 14 ?_
   obtain ⟨c9,h⟩:=ifd h
   obtain ⟨c10,h⟩:=ifd h
   obtain ⟨pq8,Cq8⟩:=(hr1.mono M.below).na c9 c10
   refine .ix Cq8<| .lc Cq8<| .gq 2 ?_
   rcases ift h with ⟨c11,h⟩ | ⟨c11,h⟩
   ·refine .kn 24 c11<| .gq 17 ?_
    replace M:=M.n1 5
    obtain rfl:=sj h
    exact .ret func137 ⟨none,0,rfl,(M.pm [0] [])⟩
   refine .kn 24 c11<| .gq 2 ?_
   obtain ⟨c14,h⟩:=ifd h
   obtain ⟨c15,h⟩:=ifd h
   obtain ⟨pq13,Cq13⟩:=(hr1.mono M.below).na c14 c15
   refine .ix Cq13<| .lc Cq13<| .gq 7 ?_
   let y16:Bool:=decide ((I64 (Int.tdiv (I64 ((rd a1 x16_0)-1)) 8))≥(a0.length:Int))
   replace h:=bz (y:=y16) h rfl
   rcases ift h with ⟨c17,h⟩ | ⟨c17,h⟩
   ·refine .kn 34 c17<| .gq 6 ?_
    replace M:=M.n1 5
    obtain rfl:=sj h
    exact .ret func137 ⟨none,0,rfl,(M.pm [0] [])⟩
   refine .kn 34 c17<| .gq 2<| .at (show RL 137 f137 (Qn.R r w) [1,1,0,1,0,0,1,1,0,0,1,1] [(0,.slice Ap0 a0.length cp0),(1,.slice Ap1 a1.length cp1),(6,.slice (pa g3) ((y1:Int).toNat) ((y1:Int).toNat)),(7,.i x16_0),(15,.i (a1.length:Int)),(16,.i x16_0)] _ from .dr [0] M fun W19 M=> ?_)
   refine .pz tr [0,1,2] ?_
   obtain ⟨c21,h⟩:=ifd h
   obtain ⟨c22,h⟩:=ifd h
   obtain ⟨pq20,Cq20⟩:=M.na 0 rfl c21 c22
   refine .ix tr 3 Cq20<| .pz tr [5,6,7] ?_
   obtain ⟨c24,h⟩:=ifd h
   obtain ⟨c25,h⟩:=ifd h
   obtain ⟨pq23,Cq23⟩:=(hr1.mono M.below).na c24 c25
   refine .ix tr 8 Cq23<| .ln tr 9 Cq23 (fun _ hs=>(Rd.kept hr1 (M.ks hs)))<| .pz tr [11,12,13] ?_
   obtain ⟨t26,ht26,h⟩:=bs h
   obtain ⟨c31,h⟩:=ifd h
   have J32:RJ 137 f137 (Qn.R r w) [1,1,0,1,0,0,1,1,0,0,1,1] w [⟨.slice (pa g3) ((y1:Int).toNat) ((y1:Int).toNat),5,1,nums .u8 x6_0⟩] [] [0] ([0,1,2,3,5,6,7,8,9,11,12,13,4,10,14,15,16],[(0,.slice Ap0 a0.length cp0),(1,.slice Ap1 a1.length cp1),(6,.slice (pa g3) ((y1:Int).toNat) ((y1:Int).toNat)),(7,.i x16_0),(15,.i (a1.length:Int)),(16,.i x16_0),(35,.slice (pa g3) ((y1:Int).toNat) ((y1:Int).toNat)),(36,.i x16_0),(37,.i (I64 (Int.tdiv x16_0 8))),(38,.pointer (some pq20)),(39,.y (rd x6_0 (I64 (Int.tdiv x16_0 8)))),(40,.slice Ap0 a0.length cp0),(41,.slice Ap1 a1.length cp1),(42,.i x16_0),(43,.pointer (some pq23)),(44,.i (rd a1 x16_0)),(45,.i t26),(46,.i x16_0),(47,.i (Int.tmod x16_0 8)),(48,.i (I64 (7-(Int.tmod x16_0 8)))),(49,.i (shlv .i64 t26 (I64 (7-(Int.tmod x16_0 8))))),(50,.y (U8 (shlv .i64 t26 (I64 (7-(Int.tmod x16_0 8)))))),(51,.y (bor .u8 (rd x6_0 (I64 (Int.tdiv x16_0 8))) (U8 (shlv .i64 t26 (I64 (7-(Int.tmod x16_0 8)))))))]):=by
    intro W33 M
    obtain ⟨c35,h⟩:=ifd h
    obtain ⟨c36,h⟩:=ifd h
    obtain ⟨pq34,Cq34⟩:=M.na 0 rfl c35 c36
    exact .ix tr 17 Cq34<| .a1 tr 18<| .sn (bor .u8 (rd x6_0 (I64 (Int.tdiv x16_0 8))) (U8 (shlv .i64 t26 (I64 (7-(Int.tmod x16_0 8)))))) Cq34 M 0 rfl fun W37 M=> .dn tr<| .gq 6<| .at (ih0 k (by omega) (x6_0.set (I64 (Int.tdiv x16_0 8):Int).toNat (bor .u8 (rd x6_0 (I64 (Int.tdiv x16_0 8))) (U8 (shlv .i64 t26 (I64 (7-(Int.tmod x16_0 8))))))) (I64 (x16_0+1)) (M.pm [0] []) h)
   have J38:RJ 137 f137 (Qn.R r w) [1,1,0,1,0,0,1,1,0,0,1,1] w [⟨.slice (pa g3) ((y1:Int).toNat) ((y1:Int).toNat),5,1,nums .u8 x6_0⟩] [] [0] ([0,1,2,3,5,6,7,8,9,11,12,13,10,14,15],[(0,.slice Ap0 a0.length cp0),(1,.slice Ap1 a1.length cp1),(6,.slice (pa g3) ((y1:Int).toNat) ((y1:Int).toNat)),(7,.i x16_0),(15,.i (a1.length:Int)),(16,.i x16_0),(35,.slice (pa g3) ((y1:Int).toNat) ((y1:Int).toNat)),(36,.i x16_0),(37,.i (I64 (Int.tdiv x16_0 8))),(38,.pointer (some pq20)),(40,.slice Ap0 a0.length cp0),(41,.slice Ap1 a1.length cp1),(42,.i x16_0),(43,.pointer (some pq23)),(44,.i (rd a1 x16_0)),(45,.i t26),(46,.i x16_0),(47,.i (Int.tmod x16_0 8)),(48,.i (I64 (7-(Int.tmod x16_0 8)))),(49,.i (shlv .i64 t26 (I64 (7-(Int.tmod x16_0 8))))),(50,.y (U8 (shlv .i64 t26 (I64 (7-(Int.tmod x16_0 8))))))]):=by
    intro W39 M
    exact .a1 tr 4<| .ln Cq20 (M.or 0)<| .pz tr [16]<| .jn M [0] [] (J32) rfl rfl
   have J40:RJ 137 f137 (Qn.R r w) [1,1,0,1,0,0,1,1,0,0,1,1] w [⟨.slice (pa g3) ((y1:Int).toNat) ((y1:Int).toNat),5,1,nums .u8 x6_0⟩] [] [0] ([0,1,2,3,5,6,7,8,9,11,12,13,4],[(0,.slice Ap0 a0.length cp0),(1,.slice Ap1 a1.length cp1),(6,.slice (pa g3) ((y1:Int).toNat) ((y1:Int).toNat)),(7,.i x16_0),(15,.i (a1.length:Int)),(16,.i x16_0),(35,.slice (pa g3) ((y1:Int).toNat) ((y1:Int).toNat)),(36,.i x16_0),(37,.i (I64 (Int.tdiv x16_0 8))),(38,.pointer (some pq20)),(39,.y (rd x6_0 (I64 (Int.tdiv x16_0 8)))),(40,.slice Ap0 a0.length cp0),(41,.slice Ap1 a1.length cp1),(42,.i x16_0),(43,.pointer (some pq23)),(44,.i (rd a1 x16_0)),(46,.i x16_0),(47,.i (Int.tmod x16_0 8)),(48,.i (I64 (7-(Int.tmod x16_0 8))))]):=by
    intro W41 M
    refine .a1 tr 10<| .ca (Qk.calls (hr0.mono M.below) ht26) ?_
    rintro _ W42 ⟨rfl,M_⟩
    refine .ca M_ [0] ?_
    replace M:=M.cg M_
    exact .yt tr 14 (yl_shl (kd:= .i64) t26 c31)<| .pz tr [15,16]<| .jn M [0] [] (J32) rfl rfl
   refine .a2 tr 4 10 ?_ ?_
   ·exact .ln Cq20 (M.or 0)<| .jn M [0] [] (J40) rfl rfl
   ·refine .ca (Qk.calls (hr0.mono M.below) ht26) ?_
    rintro _ W44 ⟨rfl,M_⟩
    refine .ca M_ [0] ?_
    replace M:=M.cg M_
    exact .yt tr 14 (yl_shl (kd:= .i64) t26 c31)<| .pz tr [15]<| .jn M [0] [] (J38) rfl rfl
  refine .kn 17 c7<| .gq 8 ?_
  obtain rfl:=sj h
  have hn0_:=(M.or 0).ln
  exact .ret (v:= .tuple #[.slice (pa g3) ((y1:Int).toNat) ((y1:Int).toNat),.bool true]) func137 ⟨(pa g3),(y1:Int).toNat,(by rw [hn0_]),by rw [hn0_];exact (M.pm [0] [])⟩
 exact .at (l0 k k.le_refl (List.replicate ((y1:Int).toNat) (0:Int)) 0 (M.pm [0] []) h)
mutual
def Vh.l0:Nat→Li→Lp→Li→Lj→Int→Option (Lj×Int)
 | 0,_,_,_,_,_=>none
 | k+1,a0,t3,x4_0,x6_0,x24_0=>if (decide (x24_0<16))=true then ((some ((if (decide (x24_0<2))=true then true else (if (x24_0==8)=true then true else (x24_0==15))):Bool)).bind fun y19=>((some ((if y19=true then (1:Int) else (2:Int)):Int)).bind fun y21=>(gd (0≤28) (gd (28≤(x4_0.length:Int)) (gd (28≤(x4_0.length:Int)) ((Y1.f k ((x4_0.take (28:Int).toNat).drop (0:Int).toNat)).bind fun t33=>((Y1.f k ((x4_0.take ((x4_0.length:Int):Int).toNat).drop (28:Int).toNat)).bind fun t38=>(gd (0<t33.length) (gd (0≤y21) (gd (y21<(t33.length:Int)) (gd (0≤y21) (gd (y21≤(t33.length:Int)) (gd (0≤y21) (gd (y21≤(t38.length:Int)) (gd (0≤y21) (gd (y21≤(t38.length:Int)) (gd (t33.length+((t33.take (y21:Int).toNat).drop (0:Int).toNat).length≤1000000000) (gd (((t33.drop (y21:Int).toNat)++((t33.take (y21:Int).toNat).drop (0:Int).toNat)).length+((t38.take ((t38.length:Int):Int).toNat).drop (y21:Int).toNat).length≤1000000000) (gd ((((t33.drop (y21:Int).toNat)++((t33.take (y21:Int).toNat).drop (0:Int).toNat))++((t38.take ((t38.length:Int):Int).toNat).drop (y21:Int).toNat)).length+((t38.take (y21:Int).toNat).drop (0:Int).toNat).length≤1000000000) (Vh.l1 k a0 t3 t33 t38 x24_0 x6_0 y21 ([]:Li) 0)))))))))))))))))))) else (some (x6_0,0))
def Vh.l1:Nat→Li→Lp→Li→Li→Int→Lj→Int→Li→Int→Option (Lj×Int)
 | 0,_,_,_,_,_,_,_,_,_=>none
 | k+1,a0,t3,t33,t38,x24_0,x6_0,y21,x11_1,x60_1=>if (decide (x60_1<(t3.2.length:Int)))=true then (gd (0≤x60_1) (gd (x60_1<(t3.2.length:Int)) (gd (0≤(I64 ((rd t3.2 x60_1)-1))) (gd ((I64 ((rd t3.2 x60_1)-1))<(((((t33.drop (y21:Int).toNat)++((t33.take (y21:Int).toNat).drop (0:Int).toNat))++((t38.take ((t38.length:Int):Int).toNat).drop (y21:Int).toNat))++((t38.take (y21:Int).toNat).drop (0:Int).toNat)).length:Int)) ((some (rd ((((t33.drop (y21:Int).toNat)++((t33.take (y21:Int).toNat).drop (0:Int).toNat))++((t38.take ((t38.length:Int):Int).toNat).drop (y21:Int).toNat))++((t38.take (y21:Int).toNat).drop (0:Int).toNat)) (I64 ((rd t3.2 x60_1)-1)):Int)).bind fun y91=>(gd (x11_1.length+([y91]:Li).length≤1000000000) (Vh.l1 k a0 t3 t33 t38 x24_0 x6_0 y21 (x11_1++([y91]:Li)) (I64 (x60_1+1))))))))) else ((Qn.f k a0 x11_1).bind fun t101=>(gd (x6_0.length+([t101.1]:Lj).length≤1000000000) (Vh.l2 k a0 t3 ((((t33.drop (y21:Int).toNat)++((t33.take (y21:Int).toNat).drop (0:Int).toNat))++((t38.take ((t38.length:Int):Int).toNat).drop (y21:Int).toNat))++((t38.take (y21:Int).toNat).drop (0:Int).toNat)) (x6_0++([t101.1]:Lj)) (I64 (x24_0+1)))))
def Vh.l2:Nat→Li→Lp→Li→Lj→Int→Option (Lj×Int)
 | 0,_,_,_,_,_=>none
 | k+1,a0,t3,x4_2,x6_2,x24_2=>if (decide (x24_2<16))=true then ((some ((if (decide (x24_2<2))=true then true else (if (x24_2==8)=true then true else (x24_2==15))):Bool)).bind fun y121=>((some ((if y121=true then (1:Int) else (2:Int)):Int)).bind fun y123=>(gd (0≤28) (gd (28≤(x4_2.length:Int)) (gd (28≤(x4_2.length:Int)) ((Y1.f k ((x4_2.take (28:Int).toNat).drop (0:Int).toNat)).bind fun t135=>((Y1.f k ((x4_2.take ((x4_2.length:Int):Int).toNat).drop (28:Int).toNat)).bind fun t140=>(gd (0<t135.length) (gd (0≤y123) (gd (y123<(t135.length:Int)) (gd (0≤y123) (gd (y123≤(t135.length:Int)) (gd (0≤y123) (gd (y123≤(t140.length:Int)) (gd (0≤y123) (gd (y123≤(t140.length:Int)) (gd (t135.length+((t135.take (y123:Int).toNat).drop (0:Int).toNat).length≤1000000000) (gd (((t135.drop (y123:Int).toNat)++((t135.take (y123:Int).toNat).drop (0:Int).toNat)).length+((t140.take ((t140.length:Int):Int).toNat).drop (y123:Int).toNat).length≤1000000000) (gd ((((t135.drop (y123:Int).toNat)++((t135.take (y123:Int).toNat).drop (0:Int).toNat))++((t140.take ((t140.length:Int):Int).toNat).drop (y123:Int).toNat)).length+((t140.take (y123:Int).toNat).drop (0:Int).toNat).length≤1000000000) (Vh.l3 k a0 t135 t140 t3 x24_2 x6_2 y123 ([]:Li) 0)))))))))))))))))))) else (some (x6_2,0))
def Vh.l3:Nat→Li→Li→Li→Lp→Int→Lj→Int→Li→Int→Option (Lj×Int)
 | 0,_,_,_,_,_,_,_,_,_=>none
 | k+1,a0,t135,t140,t3,x24_2,x6_2,y123,x11_3,x60_3=>if (decide (x60_3<(t3.2.length:Int)))=true then (gd (0≤x60_3) (gd (x60_3<(t3.2.length:Int)) (gd (0≤(I64 ((rd t3.2 x60_3)-1))) (gd ((I64 ((rd t3.2 x60_3)-1))<(((((t135.drop (y123:Int).toNat)++((t135.take (y123:Int).toNat).drop (0:Int).toNat))++((t140.take ((t140.length:Int):Int).toNat).drop (y123:Int).toNat))++((t140.take (y123:Int).toNat).drop (0:Int).toNat)).length:Int)) ((some (rd ((((t135.drop (y123:Int).toNat)++((t135.take (y123:Int).toNat).drop (0:Int).toNat))++((t140.take ((t140.length:Int):Int).toNat).drop (y123:Int).toNat))++((t140.take (y123:Int).toNat).drop (0:Int).toNat)) (I64 ((rd t3.2 x60_3)-1)):Int)).bind fun y193=>(gd (x11_3.length+([y193]:Li).length≤1000000000) (Vh.l3 k a0 t135 t140 t3 x24_2 x6_2 y123 (x11_3++([y193]:Li)) (I64 (x60_3+1))))))))) else ((Qn.f k a0 x11_3).bind fun t203=>(gd (x6_2.length+([t203.1]:Lj).length≤1000000000) (Vh.l2 k a0 t3 ((((t135.drop (y123:Int).toNat)++((t135.take (y123:Int).toNat).drop (0:Int).toNat))++((t140.take ((t140.length:Int):Int).toNat).drop (y123:Int).toNat))++((t140.take (y123:Int).toNat).drop (0:Int).toNat)) (x6_2++([t203.1]:Lj)) (I64 (x24_2+1)))))
end
def Vh.f (k:Nat) (a0:Li):Option (Lj×Int):=if ((a0.length:Int) != 8)=true then (some (([]:Lj),4)) else ((Vk.f k).bind fun t3=>(gd (0≤16) (Vh.l0 k a0 t3 t3.1 ([]:Lj) 0)))
abbrev Vh.R (r:Lj×Int) (w:World):Value→World→Prop:=fun v w'=> ∃(v0':Value) (F0':List Ent),v= .tuple #[v0',.i r.2]∧(rRows (rNums .u8)) (Oks F0') v0' r.1∧Mem w w' (Gs [] [F0'])
theorem Vh.calls {a0:Li} {r:Lj×Int} (hr0:Rd w (.slice Ap0 np0 cp0) (nums .u8 a0)) (h:Vh.f k a0=some r):Calls prog 90 #[(.slice Ap0 np0 cp0)] w (Ret (Vh.R r w)):=by
 obtain rfl:=hr0.ln
 unfold Vh.f at h
 refine calls_S func90 ?_
 have M:=Mem.r0 w
 refine .gq 12 ?_
 rcases ift h with ⟨c1,h⟩ | ⟨c1,h⟩
 ·refine .kn 18 c1<| .gq 6 ?_
  obtain rfl:=sj h
  exact .ret func90 ⟨.slice none 0 0,([]:List Ent),rfl,⟨_,_,_,rfl,(fun _ _=>⟨rfl,Nat.le_refl _,fun i u hi=>by cases hi⟩),(Each2.nil _)⟩,(M.pm [] [[]])⟩
 refine .kn 18 c1<| .gq 4 ?_
 obtain ⟨t3,ht3,h⟩:=bs h
 refine .ca (Vk.calls ht3) ?_
 rintro _ W2 ⟨A4,c5,A6,c7,rfl,M_⟩
 replace M:=M.cg M_
 refine .gq 8 ?_
 obtain ⟨c12,h⟩:=ifd h
 refine .m0 22 (.slice none 0 0) 16 M fun g11 W10 M=> .gq 9 ?_
 have l0: ∀k_≤k,∀(A4_0:Option Addr) (c4_0:Nat) (x4_0:Li) (A6_0:Option Addr) (c6_0:Nat) (cs6_0:List Value) (x6_0:Lj) (F6_0:List Ent) (x24_0:Int) {W:World} (M:Mem w W (Gs [⟨.slice A4_0 x4_0.length c4_0,3,1,nums .i64 x4_0⟩,⟨.slice A6 t3.2.length c7,3,1,nums .i64 t3.2⟩,⟨.slice A6_0 x6_0.length c6_0,22,1,cs6_0⟩] [F6_0])) (hq6_0:Each2 ((rNums .u8) (Oks F6_0)) cs6_0 x6_0) (h:Vh.l0 k_ a0 t3 x4_0 x6_0 x24_0=some r),RL 90 f90 (Vh.R r w) [1,1,1,1,0,1,0,0] [(0,.slice Ap0 a0.length cp0),(4,.slice A4_0 x4_0.length c4_0),(5,.slice A6 t3.2.length c7),(6,.slice A6_0 x6_0.length c6_0),(24,.i x24_0)] W:=by
  refine loopI (by intros;rename_i h;simp [Vh.l0] at h) fun k hk ih0 A4_0 c4_0 x4_0 A6_0 c6_0 cs6_0 x6_0 F6_0 x24_0 W M hq6_0 h=> ?_
  simp only [Vh.l0] at h
  refine .gq 5 ?_
  rcases ift h with ⟨c16,h⟩ | ⟨c16,h⟩
  ·refine .kn 25 c16<| .gq 19 ?_
   suffices J_:RL 90 f90 (Vh.R r w) [1,1,1,1,0,1,0,0,1,1,0,0,1,1,0,1] [(0,.slice Ap0 a0.length cp0),(4,.slice A4_0 x4_0.length c4_0),(5,.slice A6 t3.2.length c7),(6,.slice A6_0 x6_0.length c6_0),(8,.i 2),(24,.i x24_0),(36,.bool (if (decide (x24_0<2))=true then true else (if (x24_0==8)=true then true else (x24_0==15))))] W by
    rcases two (decide (x24_0<2)) with c17 | c17
    ·refine .kn 29 c17<| .gq 8 ?_
     simp only [if_pos c17] at J_
     exact .at J_
    ·refine .kn 29 c17<| .gq 4 ?_
     rcases two ((x24_0==8)) with c18 | c18
     ·refine .kn 33 c18<| .gq 4 ?_
      simp only [if_neg (show ¬(decide (x24_0<2))=true by rw [c17];decide),if_pos c18] at J_
      exact .at J_
     ·refine .kn 33 c18<| .gq 4 ?_
      simp only [if_neg (show ¬(decide (x24_0<2))=true by rw [c17];decide),if_neg (show ¬(x24_0==8)=true by rw [c18];decide)] at J_
      exact .at J_
   let y19:Bool:=(if (decide (x24_0<2))=true then true else (if (x24_0==8)=true then true else (x24_0==15)))
   replace h:=bz (y:=y19) h rfl
   suffices J_:RL 90 f90 (Vh.R r w) [1,1,1,1,0,1,0,0,1,1,0,0,1,1,1] [(0,.slice Ap0 a0.length cp0),(4,.slice A4_0 x4_0.length c4_0),(5,.slice A6 t3.2.length c7),(6,.slice A6_0 x6_0.length c6_0),(8,.i (if y19=true then (1:Int) else (2:Int))),(24,.i x24_0)] W by
    rcases two (y19) with c20 | c20
    ·refine .kn 36 c20<| .gq 4 ?_
     simp only [if_pos c20] at J_
     exact .at J_
    ·refine .kn 36 c20<| .gq 2 ?_
     simp only [if_neg (show ¬y19=true by rw [c20];decide)] at J_
     exact .at J_
   refine .gq 1 ?_
   let y21:Int:=(if y19=true then (1:Int) else (2:Int))
   replace h:=bz (y:=y21) h rfl
   refine .at (show RL 90 f90 (Vh.R r w) [1,1,1,1,0,1,0,0,1,1,0,0,1,1,1,0] [(0,.slice Ap0 a0.length cp0),(4,.slice A4_0 x4_0.length c4_0),(5,.slice A6 t3.2.length c7),(6,.slice A6_0 x6_0.length c6_0),(8,.i y21),(24,.i x24_0)] _ from .dr [] M fun W22 M=> ?_)
   refine .pz tr [0] ?_
   obtain ⟨c23,h⟩:=ifd h
   obtain ⟨c24,h⟩:=ifd h
   refine .ct tr 1 0 28 (M.or 0) fun A25 c26 hs27=> .pz tr [3] ?_
   obtain ⟨c28,h⟩:=ifd h
   refine .ct tr 4 28 (x4_0.length:Int) (M.or 0) fun A29 c30 hs31=> ?_
   obtain ⟨t33,ht33,h⟩:=bs h
   refine .a1 tr 2<| .ca (Y1.calls (hs27 _ (M.or 0)) ht33) ?_
   rintro _ W32 ⟨A34,c35,rfl,M_⟩
   refine .ca M_ [] ?_
   replace M:=M.cg M_
   obtain ⟨t38,ht38,h⟩:=bs h
   refine .a1 tr 5<| .ca (Y1.calls (hs31 _ (M.or 1)) ht38) ?_
   rintro _ W37 ⟨A39,c40,rfl,M_⟩
   refine .ca M_ [] ?_
   replace M:=M.cg M_
   refine .pz tr [6,7]<| .dn tr<| .gq 1 ?_
   obtain ⟨c42,h⟩:=ifd h
   obtain ⟨g43,sp44,rfl,rfl,M⟩:=M.rw' 1 rfl c42
   refine .at (show RL 90 f90 (Vh.R r w) [1,1,1,1,0,1,0,0,1,1,0,0,1,1,1,1,0] [(0,.slice Ap0 a0.length cp0),(5,.slice A6 t3.2.length c7),(6,.slice A6_0 x6_0.length c6_0),(8,.i y21),(9,.slice (pa g43) t33.length (t33.length+List.length sp44)),(10,.slice A39 t38.length c40),(24,.i x24_0)] _ from .dr [1] M fun W46 M=> ?_)
   refine .pz tr [0,1] ?_
   obtain ⟨c47,h⟩:=ifd h
   obtain ⟨c48,h⟩:=ifd h
   refine .yt tr 2 (yl_cr (g:=g43) (m:=t33.length) (c:=(t33.length+List.length sp44)) (l:=y21) (by omega) (by omega) (by omega))<| .pz tr [3,4] ?_
   obtain ⟨c49,h⟩:=ifd h
   obtain ⟨c50,h⟩:=ifd h
   refine .ct tr 5 0 y21 (M.rawAt0 (m:=t33.length) (c:=(t33.length+List.length sp44)) (xs:=nums .i64 t33) 1 rfl (by simp only [nums_length]) (by omega)) fun A51 c52 hs53=> .pz tr [7,8] ?_
   obtain ⟨c54,h⟩:=ifd h
   obtain ⟨c55,h⟩:=ifd h
   refine .ct tr 9 y21 (t38.length:Int) (M.or 0) fun A56 c57 hs58=> .pz tr [11,12] ?_
   obtain ⟨c59,h⟩:=ifd h
   obtain ⟨c60,h⟩:=ifd h
   refine .ct tr 13 0 y21 (M.or 0) fun A61 c62 hs63=> ?_
   obtain ⟨c68,h⟩:=ifd h
   refine .a1 tr 6<| .rv (l:=(y21:Int).toNat) (by omega) M 1 rfl (hs53 _ (M.rawAt0 (m:=t33.length) (c:=(t33.length+List.length sp44)) (xs:=nums .i64 t33) 1 rfl (by simp only [nums_length]) (by omega))) fun g64 fr65 sp66 W67 M=> ?_
   obtain ⟨c74,h⟩:=ifd h
   refine .a1 tr 10<| .rn (by omega) M 1 rfl (hs58 _ (M.or 0)) fun g70 fr71 sp72 W73 M=> ?_
   obtain ⟨c80,h⟩:=ifd h
   refine .a1 tr 14<| .rn (by omega) M 1 rfl (hs63 _ (M.or 0)) fun g76 fr77 sp78 W79 M=> .pz tr [15]<| .dn tr<| .gq 13 ?_
   replace M:=M.n1 3
   have l1: ∀k_≤k,∀(A11_1:Option Addr) (c11_1:Nat) (x11_1:Li) (x60_1:Int) {W:World} (M:Mem w W (Gs [⟨.pt g76,3,0,fr77++nums .i64 ((((t33.drop (y21:Int).toNat)++((t33.take (y21:Int).toNat).drop (0:Int).toNat))++((t38.take ((t38.length:Int):Int).toNat).drop (y21:Int).toNat))++((t38.take (y21:Int).toNat).drop (0:Int).toNat))++sp78⟩,⟨.slice A6 t3.2.length c7,3,1,nums .i64 t3.2⟩,⟨.slice A6_0 x6_0.length c6_0,22,1,cs6_0⟩,⟨.slice A11_1 x11_1.length c11_1,3,1,nums .i64 x11_1⟩] [F6_0])) (h:Vh.l1 k_ a0 t3 t33 t38 x24_0 x6_0 y21 x11_1 x60_1=some r),RL 90 f90 (Vh.R r w) [1,1,1,1,0,1,0,0,1,1,0,0,1,1,1,1,1,1,0,1,0,0] [(0,.slice Ap0 a0.length cp0),(4,.slice (some ⟨g76,List.length fr77,none⟩) (((((t33.drop (y21:Int).toNat)++((t33.take (y21:Int).toNat).drop (0:Int).toNat))++((t38.take ((t38.length:Int):Int).toNat).drop (y21:Int).toNat))++((t38.take (y21:Int).toNat).drop (0:Int).toNat)).length) (((((t33.drop (y21:Int).toNat)++((t33.take (y21:Int).toNat).drop (0:Int).toNat))++((t38.take ((t38.length:Int):Int).toNat).drop (y21:Int).toNat))++((t38.take (y21:Int).toNat).drop (0:Int).toNat)).length+List.length sp78)),(5,.slice A6 t3.2.length c7),(6,.slice A6_0 x6_0.length c6_0),(11,.slice A11_1 x11_1.length c11_1),(24,.i x24_0),(58,.slice A6 t3.2.length c7),(59,.i (t3.2.length:Int)),(60,.i x60_1)] W:=by
    refine loopI (by intros;rename_i h;simp [Vh.l1] at h) fun k hk ih1 A11_1 c11_1 x11_1 x60_1 W M h=> ?_
    simp only [Vh.l1] at h
    refine .gq 5 ?_
    rcases ift h with ⟨c84,h⟩ | ⟨c84,h⟩
    ·refine .kn 61 c84<| .gq 6 ?_
     obtain ⟨c86,h⟩:=ifd h
     obtain ⟨c87,h⟩:=ifd h
     obtain ⟨pq85,Cq85⟩:=M.na 1 rfl c86 c87
     refine .ix Cq85<| .lc Cq85<| .gq 7 ?_
     obtain ⟨c89,h⟩:=ifd h
     obtain ⟨c90,h⟩:=ifd h
     obtain ⟨pq88,Cq88⟩:=(M.rawAt (m:=((((t33.drop (y21:Int).toNat)++((t33.take (y21:Int).toNat).drop (0:Int).toNat))++((t38.take ((t38.length:Int):Int).toNat).drop (y21:Int).toNat))++((t38.take (y21:Int).toNat).drop (0:Int).toNat)).length) (c:=(((((t33.drop (y21:Int).toNat)++((t33.take (y21:Int).toNat).drop (0:Int).toNat))++((t38.take ((t38.length:Int):Int).toNat).drop (y21:Int).toNat))++((t38.take (y21:Int).toNat).drop (0:Int).toNat)).length+List.length sp78)) (xs:=nums .i64 ((((t33.drop (y21:Int).toNat)++((t33.take (y21:Int).toNat).drop (0:Int).toNat))++((t38.take ((t38.length:Int):Int).toNat).drop (y21:Int).toNat))++((t38.take (y21:Int).toNat).drop (0:Int).toNat))) 0 rfl (by simp only [nums_length]) (by omega)).na c89 c90
     refine .ix Cq88<| .lc Cq88 ?_
     let y91:Int:=rd ((((t33.drop (y21:Int).toNat)++((t33.take (y21:Int).toNat).drop (0:Int).toNat))++((t38.take ((t38.length:Int):Int).toNat).drop (y21:Int).toNat))++((t38.take (y21:Int).toNat).drop (0:Int).toNat)) (I64 ((rd t3.2 x60_1)-1))
     replace h:=bz (y:=y91) h rfl
     refine .new 3 1 1 (nums .i64 [y91]) M fun g92 W93 M=> ?_
     obtain ⟨c98,h⟩:=ifd h
     exact .an M 4 rfl (M.or 0) c98 fun A95 c96 W97 M=> .gq 8<| .at (ih1 k (by omega) A95 c96 (x11_1++([y91]:Li)) (I64 (x60_1+1)) (M.pm [1,2,3,4] [[0]]) h)
    refine .kn 61 c84<| .gq 6 ?_
    obtain ⟨t101,ht101,h⟩:=bs h
    refine .ca (Qn.calls (hr0.mono M.below) (M.or 3) ht101) ?_
    rintro _ W100 ⟨A102,c103,rfl,M_⟩
    replace M:=M.cg M_
    refine .gq 9 ?_
    obtain ⟨Fq105,hfq105,M⟩:=M.fs 0
    have hqq106:Each2 ((rNums .u8) (Oks Fq105)) [.slice A102 t101.1.length c103] ([t101.1]:Lj):=(.cons (rno hfq105 (M.oks 0)) (Each2.nil _))
    refine .new 22 1 1 ([.slice A102 t101.1.length c103]) M (fun g107 W108 M=> ?_) rfl
    obtain ⟨c114,h⟩:=ifd h
    have hq113:Each2 ((rNums .u8) (andZ (Oks F6_0) (Oks Fq105))) (cs6_0++[.slice A102 t101.1.length c103]) (x6_0++([t101.1]:Lj)):=Each2.append (Each2.up (up_nums .u8) hq6_0 (fun _ z=>z.1)) (Each2.up (up_nums .u8) hqq106 (fun _ z=>z.2))
    refine .ar M 3 rfl (M.or 0) (one_rows hqq106) (by first | omega | (simp at c114 ⊢;omega)) fun A110 c111 W112 M=> ?_
    rw [hq113.1] at M ⊢
    refine .gq 8 ?_
    have l2: ∀k_≤k,∀(g4_2:Nat) (fr4_2:List Value) (sp4_2:List Value) (x4_2:Li) (A6_2:Option Addr) (c6_2:Nat) (cs6_2:List Value) (x6_2:Lj) (F6_2:List Ent) (x24_2:Int) {W:World} (M:Mem w W (Gs [⟨.pt g4_2,3,0,fr4_2++nums .i64 x4_2++sp4_2⟩,⟨.slice A6 t3.2.length c7,3,1,nums .i64 t3.2⟩,⟨.slice A6_2 x6_2.length c6_2,22,1,cs6_2⟩] [F6_2])) (hq6_2:Each2 ((rNums .u8) (Oks F6_2)) cs6_2 x6_2) (h:Vh.l2 k_ a0 t3 x4_2 x6_2 x24_2=some r),RL 90 f90 (Vh.R r w) [1,1,1,1,0,1,0,0] [(0,.slice Ap0 a0.length cp0),(4,.slice (some ⟨g4_2,List.length fr4_2,none⟩) x4_2.length (x4_2.length+List.length sp4_2)),(5,.slice A6 t3.2.length c7),(6,.slice A6_2 x6_2.length c6_2),(24,.i x24_2)] W:=by
     refine loopI (by intros;rename_i h;simp [Vh.l2] at h) fun k hk ih2 g4_2 fr4_2 sp4_2 x4_2 A6_2 c6_2 cs6_2 x6_2 F6_2 x24_2 W M hq6_2 h=> ?_
     simp only [Vh.l2] at h
     refine .gq 5 ?_
     rcases ift h with ⟨c118,h⟩ | ⟨c118,h⟩
     ·refine .kn 25 c118<| .gq 19 ?_
      suffices J_:RL 90 f90 (Vh.R r w) [1,1,1,1,0,1,0,0,1,1,0,0,1,1,0,1] [(0,.slice Ap0 a0.length cp0),(4,.slice (some ⟨g4_2,List.length fr4_2,none⟩) x4_2.length (x4_2.length+List.length sp4_2)),(5,.slice A6 t3.2.length c7),(6,.slice A6_2 x6_2.length c6_2),(8,.i 2),(24,.i x24_2),(36,.bool (if (decide (x24_2<2))=true then true else (if (x24_2==8)=true then true else (x24_2==15))))] W by
       rcases two (decide (x24_2<2)) with c119 | c119
       ·refine .kn 29 c119<| .gq 8 ?_
        simp only [if_pos c119] at J_
        exact .at J_
       ·refine .kn 29 c119<| .gq 4 ?_
        rcases two ((x24_2==8)) with c120 | c120
        ·refine .kn 33 c120<| .gq 4 ?_
         simp only [if_neg (show ¬(decide (x24_2<2))=true by rw [c119];decide),if_pos c120] at J_
         exact .at J_
        ·refine .kn 33 c120<| .gq 4 ?_
         simp only [if_neg (show ¬(decide (x24_2<2))=true by rw [c119];decide),if_neg (show ¬(x24_2==8)=true by rw [c120];decide)] at J_
         exact .at J_
      let y121:Bool:=(if (decide (x24_2<2))=true then true else (if (x24_2==8)=true then true else (x24_2==15)))
      replace h:=bz (y:=y121) h rfl
      suffices J_:RL 90 f90 (Vh.R r w) [1,1,1,1,0,1,0,0,1,1,0,0,1,1,1] [(0,.slice Ap0 a0.length cp0),(4,.slice (some ⟨g4_2,List.length fr4_2,none⟩) x4_2.length (x4_2.length+List.length sp4_2)),(5,.slice A6 t3.2.length c7),(6,.slice A6_2 x6_2.length c6_2),(8,.i (if y121=true then (1:Int) else (2:Int))),(24,.i x24_2)] W by
       rcases two (y121) with c122 | c122
       ·refine .kn 36 c122<| .gq 4 ?_
        simp only [if_pos c122] at J_
        exact .at J_
       ·refine .kn 36 c122<| .gq 2 ?_
        simp only [if_neg (show ¬y121=true by rw [c122];decide)] at J_
        exact .at J_
      refine .gq 1 ?_
      let y123:Int:=(if y121=true then (1:Int) else (2:Int))
      replace h:=bz (y:=y123) h rfl
      refine .at (show RL 90 f90 (Vh.R r w) [1,1,1,1,0,1,0,0,1,1,0,0,1,1,1,0] [(0,.slice Ap0 a0.length cp0),(4,.slice (some ⟨g4_2,List.length fr4_2,none⟩) x4_2.length (x4_2.length+List.length sp4_2)),(5,.slice A6 t3.2.length c7),(6,.slice A6_2 x6_2.length c6_2),(8,.i y123),(24,.i x24_2)] _ from .dr [] M fun W124 M=> ?_)
      refine .pz tr [0] ?_
      obtain ⟨c125,h⟩:=ifd h
      obtain ⟨c126,h⟩:=ifd h
      refine .ct tr 1 0 28 (M.rawAt (m:=x4_2.length) (c:=(x4_2.length+List.length sp4_2)) (xs:=nums .i64 x4_2) 0 rfl (by simp only [nums_length]) (by omega)) fun A127 c128 hs129=> .pz tr [3] ?_
      obtain ⟨c130,h⟩:=ifd h
      refine .ct tr 4 28 (x4_2.length:Int) (M.rawAt (m:=x4_2.length) (c:=(x4_2.length+List.length sp4_2)) (xs:=nums .i64 x4_2) 0 rfl (by simp only [nums_length]) (by omega)) fun A131 c132 hs133=> ?_
      obtain ⟨t135,ht135,h⟩:=bs h
      refine .a1 tr 2<| .ca (Y1.calls (hs129 _ (M.rawAt (m:=x4_2.length) (c:=(x4_2.length+List.length sp4_2)) (xs:=nums .i64 x4_2) 0 rfl (by simp only [nums_length]) (by omega))) ht135) ?_
      rintro _ W134 ⟨A136,c137,rfl,M_⟩
      refine .ca M_ [] ?_
      replace M:=M.cg M_
      obtain ⟨t140,ht140,h⟩:=bs h
      refine .a1 tr 5<| .ca (Y1.calls (hs133 _ (M.rawAt (m:=x4_2.length) (c:=(x4_2.length+List.length sp4_2)) (xs:=nums .i64 x4_2) 1 rfl (by simp only [nums_length]) (by omega))) ht140) ?_
      rintro _ W139 ⟨A141,c142,rfl,M_⟩
      refine .ca M_ [] ?_
      replace M:=M.cg M_
      refine .pz tr [6,7]<| .dn tr<| .gq 1 ?_
      obtain ⟨c144,h⟩:=ifd h
      obtain ⟨g145,sp146,rfl,rfl,M⟩:=M.rw' 1 rfl c144
      refine .at (show RL 90 f90 (Vh.R r w) [1,1,1,1,0,1,0,0,1,1,0,0,1,1,1,1,0] [(0,.slice Ap0 a0.length cp0),(5,.slice A6 t3.2.length c7),(6,.slice A6_2 x6_2.length c6_2),(8,.i y123),(9,.slice (pa g145) t135.length (t135.length+List.length sp146)),(10,.slice A141 t140.length c142),(24,.i x24_2)] _ from .dr [1] M fun W148 M=> ?_)
      refine .pz tr [0,1] ?_
      obtain ⟨c149,h⟩:=ifd h
      obtain ⟨c150,h⟩:=ifd h
      refine .yt tr 2 (yl_cr (g:=g145) (m:=t135.length) (c:=(t135.length+List.length sp146)) (l:=y123) (by omega) (by omega) (by omega))<| .pz tr [3,4] ?_
      obtain ⟨c151,h⟩:=ifd h
      obtain ⟨c152,h⟩:=ifd h
      refine .ct tr 5 0 y123 (M.rawAt0 (m:=t135.length) (c:=(t135.length+List.length sp146)) (xs:=nums .i64 t135) 1 rfl (by simp only [nums_length]) (by omega)) fun A153 c154 hs155=> .pz tr [7,8] ?_
      obtain ⟨c156,h⟩:=ifd h
      obtain ⟨c157,h⟩:=ifd h
      refine .ct tr 9 y123 (t140.length:Int) (M.or 0) fun A158 c159 hs160=> .pz tr [11,12] ?_
      obtain ⟨c161,h⟩:=ifd h
      obtain ⟨c162,h⟩:=ifd h
      refine .ct tr 13 0 y123 (M.or 0) fun A163 c164 hs165=> ?_
      obtain ⟨c170,h⟩:=ifd h
      refine .a1 tr 6<| .rv (l:=(y123:Int).toNat) (by omega) M 1 rfl (hs155 _ (M.rawAt0 (m:=t135.length) (c:=(t135.length+List.length sp146)) (xs:=nums .i64 t135) 1 rfl (by simp only [nums_length]) (by omega))) fun g166 fr167 sp168 W169 M=> ?_
      obtain ⟨c176,h⟩:=ifd h
      refine .a1 tr 10<| .rn (by omega) M 1 rfl (hs160 _ (M.or 0)) fun g172 fr173 sp174 W175 M=> ?_
      obtain ⟨c182,h⟩:=ifd h
      refine .a1 tr 14<| .rn (by omega) M 1 rfl (hs165 _ (M.or 0)) fun g178 fr179 sp180 W181 M=> .pz tr [15]<| .dn tr<| .gq 13 ?_
      replace M:=M.n1 3
      have l3: ∀k_≤k,∀(A11_3:Option Addr) (c11_3:Nat) (x11_3:Li) (x60_3:Int) {W:World} (M:Mem w W (Gs [⟨.pt g178,3,0,fr179++nums .i64 ((((t135.drop (y123:Int).toNat)++((t135.take (y123:Int).toNat).drop (0:Int).toNat))++((t140.take ((t140.length:Int):Int).toNat).drop (y123:Int).toNat))++((t140.take (y123:Int).toNat).drop (0:Int).toNat))++sp180⟩,⟨.slice A6 t3.2.length c7,3,1,nums .i64 t3.2⟩,⟨.slice A6_2 x6_2.length c6_2,22,1,cs6_2⟩,⟨.slice A11_3 x11_3.length c11_3,3,1,nums .i64 x11_3⟩] [F6_2])) (h:Vh.l3 k_ a0 t135 t140 t3 x24_2 x6_2 y123 x11_3 x60_3=some r),RL 90 f90 (Vh.R r w) [1,1,1,1,0,1,0,0,1,1,0,0,1,1,1,1,1,1,0,1,0,0] [(0,.slice Ap0 a0.length cp0),(4,.slice (some ⟨g178,List.length fr179,none⟩) (((((t135.drop (y123:Int).toNat)++((t135.take (y123:Int).toNat).drop (0:Int).toNat))++((t140.take ((t140.length:Int):Int).toNat).drop (y123:Int).toNat))++((t140.take (y123:Int).toNat).drop (0:Int).toNat)).length) (((((t135.drop (y123:Int).toNat)++((t135.take (y123:Int).toNat).drop (0:Int).toNat))++((t140.take ((t140.length:Int):Int).toNat).drop (y123:Int).toNat))++((t140.take (y123:Int).toNat).drop (0:Int).toNat)).length+List.length sp180)),(5,.slice A6 t3.2.length c7),(6,.slice A6_2 x6_2.length c6_2),(11,.slice A11_3 x11_3.length c11_3),(24,.i x24_2),(58,.slice A6 t3.2.length c7),(59,.i (t3.2.length:Int)),(60,.i x60_3)] W:=by
       refine loopI (by intros;rename_i h;simp [Vh.l3] at h) fun k hk ih3 A11_3 c11_3 x11_3 x60_3 W M h=> ?_
       simp only [Vh.l3] at h
       refine .gq 5 ?_
       rcases ift h with ⟨c186,h⟩ | ⟨c186,h⟩
       ·refine .kn 61 c186<| .gq 6 ?_
        obtain ⟨c188,h⟩:=ifd h
        obtain ⟨c189,h⟩:=ifd h
        obtain ⟨pq187,Cq187⟩:=M.na 1 rfl c188 c189
        refine .ix Cq187<| .lc Cq187<| .gq 7 ?_
        obtain ⟨c191,h⟩:=ifd h
        obtain ⟨c192,h⟩:=ifd h
        obtain ⟨pq190,Cq190⟩:=(M.rawAt (m:=((((t135.drop (y123:Int).toNat)++((t135.take (y123:Int).toNat).drop (0:Int).toNat))++((t140.take ((t140.length:Int):Int).toNat).drop (y123:Int).toNat))++((t140.take (y123:Int).toNat).drop (0:Int).toNat)).length) (c:=(((((t135.drop (y123:Int).toNat)++((t135.take (y123:Int).toNat).drop (0:Int).toNat))++((t140.take ((t140.length:Int):Int).toNat).drop (y123:Int).toNat))++((t140.take (y123:Int).toNat).drop (0:Int).toNat)).length+List.length sp180)) (xs:=nums .i64 ((((t135.drop (y123:Int).toNat)++((t135.take (y123:Int).toNat).drop (0:Int).toNat))++((t140.take ((t140.length:Int):Int).toNat).drop (y123:Int).toNat))++((t140.take (y123:Int).toNat).drop (0:Int).toNat))) 0 rfl (by simp only [nums_length]) (by omega)).na c191 c192
        refine .ix Cq190<| .lc Cq190 ?_
        let y193:Int:=rd ((((t135.drop (y123:Int).toNat)++((t135.take (y123:Int).toNat).drop (0:Int).toNat))++((t140.take ((t140.length:Int):Int).toNat).drop (y123:Int).toNat))++((t140.take (y123:Int).toNat).drop (0:Int).toNat)) (I64 ((rd t3.2 x60_3)-1))
        replace h:=bz (y:=y193) h rfl
        refine .new 3 1 1 (nums .i64 [y193]) M fun g194 W195 M=> ?_
        obtain ⟨c200,h⟩:=ifd h
        exact .an M 4 rfl (M.or 0) c200 fun A197 c198 W199 M=> .gq 8<| .at (ih3 k (by omega) A197 c198 (x11_3++([y193]:Li)) (I64 (x60_3+1)) (M.pm [1,2,3,4] [[0]]) h)
       refine .kn 61 c186<| .gq 6 ?_
       obtain ⟨t203,ht203,h⟩:=bs h
       refine .ca (Qn.calls (hr0.mono M.below) (M.or 3) ht203) ?_
       rintro _ W202 ⟨A204,c205,rfl,M_⟩
       replace M:=M.cg M_
       refine .gq 9 ?_
       obtain ⟨Fq207,hfq207,M⟩:=M.fs 0
       have hqq208:Each2 ((rNums .u8) (Oks Fq207)) [.slice A204 t203.1.length c205] ([t203.1]:Lj):=(.cons (rno hfq207 (M.oks 0)) (Each2.nil _))
       refine .new 22 1 1 ([.slice A204 t203.1.length c205]) M (fun g209 W210 M=> ?_) rfl
       obtain ⟨c216,h⟩:=ifd h
       have hq215:Each2 ((rNums .u8) (andZ (Oks F6_2) (Oks Fq207))) (cs6_2++[.slice A204 t203.1.length c205]) (x6_2++([t203.1]:Lj)):=Each2.append (Each2.up (up_nums .u8) hq6_2 (fun _ z=>z.1)) (Each2.up (up_nums .u8) hqq208 (fun _ z=>z.2))
       refine .ar M 3 rfl (M.or 0) (one_rows hqq208) (by first | omega | (simp at c216 ⊢;omega)) fun A212 c213 W214 M=> ?_
       rw [hq215.1] at M ⊢
       exact .gq 8<| .at (ih2 k (by omega) g178 fr179 sp180 ((((t135.drop (y123:Int).toNat)++((t135.take (y123:Int).toNat).drop (0:Int).toNat))++((t140.take ((t140.length:Int):Int).toNat).drop (y123:Int).toNat))++((t140.take (y123:Int).toNat).drop (0:Int).toNat)) A212 c213 (cs6_2++[.slice A204 t203.1.length c205]) (x6_2++([t203.1]:Lj)) (List.flatten [F6_2,Fq207]) (I64 (x24_2+1)) (M.pm [1,2,3] [[1,0]]) (Each2.up (up_nums .u8) hq215 (fun _ (z:Oks _ _)=>(ai (z.g 0 rfl) (z.g 1 rfl)))) h)
      exact .at (l3 k k.le_refl none 0 ([]:Li) 0 (M.pm [2,4,5,0] [[0]]) h)
     refine .kn 25 c118<| .gq 8 ?_
     obtain ⟨Fq218,hfq218,M⟩:=M.fs 2
     obtain rfl:=sj h
     exact .ret func90 ⟨.slice A6_2 x6_2.length c6_2,(List.flatten [Fq218,F6_2]),rfl,(up_rows (up_nums .u8)) _ _ _ _ (fun _ (z:Oks _ _)=>(ai (z.g 0 rfl) (z.g 1 rfl))) ⟨_,_,_,rfl,(hfq218.up (fun _ z=>z.1)),(Each2.up (up_nums .u8) hq6_2 (fun _ z=>z.2))⟩,(M.pm [] [[0,1]])⟩
    exact .at (l2 k k.le_refl g76 fr77 sp78 ((((t33.drop (y21:Int).toNat)++((t33.take (y21:Int).toNat).drop (0:Int).toNat))++((t38.take ((t38.length:Int):Int).toNat).drop (y21:Int).toNat))++((t38.take (y21:Int).toNat).drop (0:Int).toNat)) A110 c111 (cs6_0++[.slice A102 t101.1.length c103]) (x6_0++([t101.1]:Lj)) (List.flatten [F6_0,Fq105]) (I64 (x24_0+1)) (M.pm [1,2,3] [[1,0]]) (Each2.up (up_nums .u8) hq113 (fun _ (z:Oks _ _)=>(ai (z.g 0 rfl) (z.g 1 rfl)))) h)
   exact .at (l1 k k.le_refl none 0 ([]:Li) 0 (M.pm [2,4,5,0] [[0]]) h)
  refine .kn 25 c16<| .gq 8 ?_
  obtain ⟨Fq219,hfq219,M⟩:=M.fs 2
  obtain rfl:=sj h
  exact .ret func90 ⟨.slice A6_0 x6_0.length c6_0,(List.flatten [Fq219,F6_0]),rfl,(up_rows (up_nums .u8)) _ _ _ _ (fun _ (z:Oks _ _)=>(ai (z.g 0 rfl) (z.g 1 rfl))) ⟨_,_,_,rfl,(hfq219.up (fun _ z=>z.1)),(Each2.up (up_nums .u8) hq6_0 (fun _ z=>z.2))⟩,(M.pm [] [[0,1]])⟩
 exact .at (l0 k k.le_refl A4 c5 t3.1 (pa g11) 16 [] ([]:Lj) ([]:List Ent) 0 (M.pm [1,2,0] [[]]) (Each2.nil _) h)
def Vi.l0:Nat→Li→Lk→Int→Option (Option Lk×Int)
 | 0,_,_,_=>none
 | k+1,a0,x5_0_0,x27_0=>(some (decide (x27_0<(I64 (Int.tdiv (a0.length:Int) 8))):Bool)).bind fun y11=>(if y11=true then (gd (0≤(I64 (8*x27_0))) (gd ((I64 (8*x27_0))≤(I64 (8*(I64 (x27_0+1))))) (gd ((I64 (8*(I64 (x27_0+1))))≤(a0.length:Int)) ((Vh.f k ((a0.take (I64 (8*(I64 (x27_0+1))):Int).toNat).drop (I64 (8*x27_0):Int).toNat)).bind fun t20=>(gd (x5_0_0.length+([t20.1]:Lk).length≤1000000000) (Vi.l0 k a0 (x5_0_0++([t20.1]:Lk)) (I64 (x27_0+1)))))))) else (if ((I64 (Int.tdiv (a0.length:Int) 8))==2)=true then (gd (0<(x5_0_0.length:Int)) (gd (x5_0_0.length+([(rdr ([]:Lj) x5_0_0 0)]:Lk).length≤1000000000) (some ((some ((x5_0_0++([(rdr ([]:Lj) x5_0_0 0)]:Lk)))),0)))) else (some ((some (x5_0_0)),0))))
def Vi.f (k:Nat) (a0:Li):Option (Option Lk×Int):=if (decide ((Int.tmod (a0.length:Int) 8)>0))=true then (some (none,4)) else ((some (decide ((I64 (Int.tdiv (a0.length:Int) 8))<1):Bool)).bind fun y2=>(if y2=true then (some (none,4)) else ((some (decide ((I64 (Int.tdiv (a0.length:Int) 8))>3):Bool)).bind fun y4=>(if y4=true then (some (none,4)) else (Vi.l0 k a0 ([]:Lk) 0)))))
abbrev Vi.R (r:Option Lk×Int) (w:World):Value→World→Prop:=fun v w'=> ∃(v0':Value) (F0':List Ent),v= .tuple #[v0',.i r.2]∧(rOpt (rPtr Rs_des_Des)) (Oks F0') v0' r.1∧Mem w w' (Gs [] [F0'])
theorem Vi.calls {a0:Li} {r:Option Lk×Int} (hr0:Rd w (.slice Ap0 np0 cp0) (nums .u8 a0)) (h:Vi.f k a0=some r):Calls prog 58 #[(.slice Ap0 np0 cp0)] w (Ret (Vi.R r w)):=by
 obtain rfl:=hr0.ln
 unfold Vi.f at h
 refine calls_S func58 ?_
 have M:=Mem.r0 w
 refine .gq 20 ?_
 rcases ift h with ⟨c1,h⟩ | ⟨c1,h⟩
 ·refine .kn 16 c1<| .gq 14 ?_
  obtain rfl:=sj h
  exact .ret func58 ⟨.pointer none,([]:List Ent),rfl,(.inl ⟨rfl,rfl⟩),(M.pm [] [[]])⟩
 refine .kn 16 c1<| .gq 4 ?_
 let y2:Bool:=decide ((I64 (Int.tdiv (a0.length:Int) 8))<1)
 replace h:=bz (y:=y2) h rfl
 rcases ift h with ⟨c3,h⟩ | ⟨c3,h⟩
 ·refine .kn 20 c3<| .gq 10 ?_
  obtain rfl:=sj h
  exact .ret func58 ⟨.pointer none,([]:List Ent),rfl,(.inl ⟨rfl,rfl⟩),(M.pm [] [[]])⟩
 refine .kn 20 c3<| .gq 4 ?_
 let y4:Bool:=decide ((I64 (Int.tdiv (a0.length:Int) 8))>3)
 replace h:=bz (y:=y4) h rfl
 rcases ift h with ⟨c5,h⟩ | ⟨c5,h⟩
 ·refine .kn 23 c5<| .gq 6 ?_
  obtain rfl:=sj h
  exact .ret func58 ⟨.pointer none,([]:List Ent),rfl,(.inl ⟨rfl,rfl⟩),(M.pm [] [[]])⟩
 refine .kn 23 c5<| .gq 5<| .nw 131 ([.slice none 0 0]) M fun g6 W7 M=> .gq 10 ?_
 replace M:=M.n1 40
 have l0: ∀k_≤k,∀(A5_0_0:Option Addr) (c5_0_0:Nat) (cs5_0_0:List Value) (x5_0_0:Lk) (F5_0_0:List Ent) (x27_0:Int) {W:World} (M:Mem w W (Gs [⟨.slice A5_0_0 x5_0_0.length c5_0_0,40,1,cs5_0_0⟩,⟨.pt g6,131,0,[.slice A5_0_0 x5_0_0.length c5_0_0]⟩] [F5_0_0])) (hq5_0_0:Each2 ((rRows (rNums .u8)) (Oks F5_0_0)) cs5_0_0 x5_0_0) (h:Vi.l0 k_ a0 x5_0_0 x27_0=some r),RL 58 f58 (Vi.R r w) [1,1,1,1,0,1,0,0] [(0,.slice Ap0 a0.length cp0),(4,.i (I64 (Int.tdiv (a0.length:Int) 8))),(5,.pt g6),(26,.i (I64 (Int.tdiv (a0.length:Int) 8))),(27,.i x27_0)] W:=by
  refine loopI (by intros;rename_i h;simp [Vi.l0] at h) fun k hk ih0 A5_0_0 c5_0_0 cs5_0_0 x5_0_0 F5_0_0 x27_0 W M hq5_0_0 h=> ?_
  simp only [Vi.l0] at h
  refine .gq 5 ?_
  let y11:Bool:=decide (x27_0<(I64 (Int.tdiv (a0.length:Int) 8)))
  replace h:=bz (y:=y11) h rfl
  rcases ift h with ⟨c12,h⟩ | ⟨c12,h⟩
  ·refine .kn 28 c12<| .gq 17 ?_
   obtain ⟨c13,h⟩:=ifd h
   obtain ⟨c14,h⟩:=ifd h
   obtain ⟨c15,h⟩:=ifd h
   refine .ct (I64 (8*x27_0)) (I64 (8*(I64 (x27_0+1)))) (hr0.mono M.below) fun A16 c17 hs18=> ?_
   obtain ⟨t20,ht20,h⟩:=bs h
   refine .ca (Vh.calls (hs18 _ (hr0.mono M.below)) ht20) ?_
   rintro _ W19 ⟨vt20_0,Ft20_0,rfl,hRt20_0,M_⟩
   obtain ⟨At20_0,ct20_0,cst20_0,rfl,hrt20_0,hqt20_0⟩:=hRt20_0
   replace M:=M.cg M_
   refine .gq 11<| .lv M 1 rfl 0 rfl<| .gq 1 ?_
   have hqq21:Each2 ((rRows (rNums .u8)) (Oks Ft20_0)) [.slice At20_0 t20.1.length ct20_0] ([t20.1]:Lk):=(Each2.cons ⟨_,_,_,rfl,hrt20_0,hqt20_0⟩ (Each2.nil _))
   refine .new 40 1 1 ([.slice At20_0 t20.1.length ct20_0]) M (fun g22 W23 M=> ?_) rfl
   obtain ⟨c29,h⟩:=ifd h
   have hq28:Each2 ((rRows (rNums .u8)) (andZ (Oks F5_0_0) (Oks Ft20_0))) (cs5_0_0++[.slice At20_0 t20.1.length ct20_0]) (x5_0_0++([t20.1]:Lk)):=Each2.append (Each2.up (up_rows (up_nums .u8)) hq5_0_0 (fun _ z=>z.1)) (Each2.up (up_rows (up_nums .u8)) hqq21 (fun _ z=>z.2))
   refine .ar M 1 rfl (M.or 0) (each_one rrows_head hqq21) (by first | omega | (simp at c29 ⊢;omega)) fun A25 c26 W27 M=> ?_
   rw [hq28.1] at M ⊢
   exact .gq 2<| .vf 0 (.slice A25 ((x5_0_0++([t20.1]:Lk)).length) c26) M 2 rfl fun W31 M=> .gq 7<| .at (ih0 k (by omega) A25 c26 (cs5_0_0++[.slice At20_0 t20.1.length ct20_0]) (x5_0_0++([t20.1]:Lk)) (List.flatten [F5_0_0,Ft20_0]) (I64 (x27_0+1)) (M.pm [1,2] [[1,0]]) (Each2.up (up_rows (up_nums .u8)) hq28 (fun _ (z:Oks _ _)=>(ai (z.g 0 rfl) (z.g 1 rfl)))) h)
  refine .kn 28 c12<| .gq 8 ?_
  rcases ift h with ⟨c32,h⟩ | ⟨c32,h⟩
  ·refine .kn 53 c32<| .gq 1 ?_
   obtain ⟨c33,h⟩:=ifd h
   obtain ⟨uq34,huq34,hvq34⟩:=Each2.at hq5_0_0 ([]:Lj) (i:=0) (by decide) c33
   obtain ⟨Aq34,cq34,csq34,rfl,hrq34,hqq34⟩:=hvq34
   obtain ⟨pq34,Cq34⟩:=M.cel 0 rfl (by decide) c33 huq34
   refine .at (show RL 58 f58 (Vi.R r w) [1,1,1,1,1,0,1,0] [(5,.pt g6)] _ from .dr [0,1] M fun W35 M=> ?_)
   refine .pz tr [0,1,2,3,5,6,7] ?_
   have J44: ∀(g41:Nat) (hqq40:Each2 ((rRows (rNums .u8)) (Oks F5_0_0)) [.slice Aq34 ((rdr ([]:Lj) x5_0_0 0).length) cq34] ([(rdr ([]:Lj) x5_0_0 0)]:Lk)),RJ 58 f58 (Vi.R r w) [1,1,1,1,1,0,1,0] w [⟨.slice (pa g41) 1 1,40,1,[.slice Aq34 ((rdr ([]:Lj) x5_0_0 0).length) cq34]⟩,⟨.slice A5_0_0 x5_0_0.length c5_0_0,40,1,cs5_0_0⟩,⟨.pt g6,131,0,[.slice A5_0_0 x5_0_0.length c5_0_0]⟩] [F5_0_0] [1,2] ([0,1,2,3,5,6,7,4,8,9,10,11],[(5,.pt g6),(54,.pt g6),(58,.slice A5_0_0 x5_0_0.length c5_0_0),(65,.slice (pa g41) 1 1)]):=by
    intro g41 hqq40 W45 M
    obtain ⟨c50,h⟩:=ifd h
    have hq49:Each2 ((rRows (rNums .u8)) (Oks F5_0_0)) (cs5_0_0++[.slice Aq34 ((rdr ([]:Lj) x5_0_0 0).length) cq34]) (x5_0_0++([(rdr ([]:Lj) x5_0_0 0)]:Lk)):=Each2.append hq5_0_0 hqq40
    refine .a1 tr 12<| .ar M 1 rfl (M.or 0) (each_one rrows_head hqq40) (by first | omega | (simp at c50 ⊢;omega)) [1,2] fun A46 c47 W48 M=> ?_
    rw [hq49.1] at M ⊢
    refine .pz tr [13,14]<| .a1 tr 15<| .vf 0 (.slice A46 ((x5_0_0++([(rdr ([]:Lj) x5_0_0 0)]:Lk)).length) c47) M 2 rfl fun W52 M=> .dn tr<| .gq 6 ?_
    obtain ⟨Fq53,hfq53,M⟩:=M.fs 1
    obtain ⟨Fq54,hfq54,M⟩:=M.fp 1
    have hs55:rPtr Rs_des_Des (andZ (Oks Fq54) (andZ (Oks Fq53) (Oks F5_0_0))) (.pt g6) ((x5_0_0++([(rdr ([]:Lj) x5_0_0 0)]:Lk))):=⟨g6,_,rfl,hfq54.up (fun _ z=>z.1),_,rfl,((up_rows (up_rows (up_nums .u8))) _ _ _ _ (fun _ z=>(ai z.2.1 z.2.2)) ⟨_,_,_,rfl,(hfq53.up (fun _ z=>z.1)),(Each2.up (up_rows (up_nums .u8)) hq49 (fun _ z=>z.2))⟩)⟩
    obtain rfl:=sj h
    exact .ret func58 ⟨.pt g6,(List.flatten [Fq54,Fq53,F5_0_0]),rfl,(up_opt (up_ptr up_Rs_des_Des)) _ _ _ _ (fun _ (z:Oks _ _)=>(ai (z.g 0 rfl) (ai (z.g 1 rfl) (z.g 2 rfl)))) (.inr ⟨((x5_0_0++([(rdr ([]:Lj) x5_0_0 0)]:Lk))),rfl,hs55⟩),(M.pm [] [[0,1,2]])⟩
   have J56: ∀(g37:Nat) (hqq36:Each2 ((rRows (rNums .u8)) (Oks F5_0_0)) [.slice Aq34 ((rdr ([]:Lj) x5_0_0 0).length) cq34] ([(rdr ([]:Lj) x5_0_0 0)]:Lk)),RJ 58 f58 (Vi.R r w) [1,1,1,1,1,0,1,0] w [⟨.slice (pa g37) 1 1,40,1,[.slice Aq34 ((rdr ([]:Lj) x5_0_0 0).length) cq34]⟩,⟨.slice A5_0_0 x5_0_0.length c5_0_0,40,1,cs5_0_0⟩,⟨.pt g6,131,0,[.slice A5_0_0 x5_0_0.length c5_0_0]⟩] [F5_0_0] [1,2] ([0,1,2,3,5,6,7,8,9,10,11],[(5,.pt g6),(54,.pt g6),(57,.pt g6),(65,.slice (pa g37) 1 1)]):=by
    intro g37 hqq36 W57 M
    exact .a1 tr 4<| .lv M 2 rfl 0 rfl<| .jn M [0,1,2] [[0]] (J44 g37 hqq36) rfl rfl
   have J58:RJ 58 f58 (Vi.R r w) [1,1,1,1,1,0,1,0] w [⟨.slice A5_0_0 x5_0_0.length c5_0_0,40,1,cs5_0_0⟩,⟨.pt g6,131,0,[.slice A5_0_0 x5_0_0.length c5_0_0]⟩] [F5_0_0] [0,1] ([0,1,2,3,5,6,7,4,8,9,10],[(5,.pt g6),(54,.pt g6),(58,.slice A5_0_0 x5_0_0.length c5_0_0),(64,.slice Aq34 ((rdr ([]:Lj) x5_0_0 0).length) cq34)]):=by
    intro W59 M
    have hqq60:Each2 ((rRows (rNums .u8)) (Oks F5_0_0)) [.slice Aq34 ((rdr ([]:Lj) x5_0_0 0).length) cq34] ([(rdr ([]:Lj) x5_0_0 0)]:Lk):=(Each2.cons ⟨_,_,_,rfl,hrq34,hqq34⟩ (Each2.nil _))
    refine .a1 tr 11<| .new 40 1 1 ([.slice Aq34 ((rdr ([]:Lj) x5_0_0 0).length) cq34]) M [1,2] (fun g61 W62 M=> ?_) rfl
    exact .jn M [0,1,2] [[0]] (J44 g61 hqq60) rfl rfl
   have J64:RJ 58 f58 (Vi.R r w) [1,1,1,1,1,0,1,0] w [⟨.slice A5_0_0 x5_0_0.length c5_0_0,40,1,cs5_0_0⟩,⟨.pt g6,131,0,[.slice A5_0_0 x5_0_0.length c5_0_0]⟩] [F5_0_0] [0,1] ([0,1,2,3,5,6,7,8,9,10],[(5,.pt g6),(54,.pt g6),(57,.pt g6),(64,.slice Aq34 ((rdr ([]:Lj) x5_0_0 0).length) cq34)]):=by
    intro W65 M
    refine .a2 tr 4 11 ?_ ?_
    ·exact .lv M 1 rfl 0 rfl<| .jn M [0,1] [[0]] (J58) rfl rfl
    ·have hqq66:Each2 ((rRows (rNums .u8)) (Oks F5_0_0)) [.slice Aq34 ((rdr ([]:Lj) x5_0_0 0).length) cq34] ([(rdr ([]:Lj) x5_0_0 0)]:Lk):=(Each2.cons ⟨_,_,_,rfl,hrq34,hqq34⟩ (Each2.nil _))
     refine .new 40 1 1 ([.slice Aq34 ((rdr ([]:Lj) x5_0_0 0).length) cq34]) M [1,2] (fun g67 W68 M=> ?_) rfl
     exact .jn M [0,1,2] [[0]] (J56 g67 hqq66) rfl rfl
   have J70:RJ 58 f58 (Vi.R r w) [1,1,1,1,1,0,1,0] w [⟨.slice A5_0_0 x5_0_0.length c5_0_0,40,1,cs5_0_0⟩,⟨.pt g6,131,0,[.slice A5_0_0 x5_0_0.length c5_0_0]⟩] [F5_0_0] [0,1] ([0,1,2,3,5,6,7,4,8,9],[(5,.pt g6),(54,.pt g6),(58,.slice A5_0_0 x5_0_0.length c5_0_0),(63,.pointer (some pq34))]):=by
    intro W71 M
    exact .a1 tr 10<| .lu Cq34 huq34 (M.or 0)<| .jn M [0,1] [[0]] (J58) rfl rfl
   have J72:RJ 58 f58 (Vi.R r w) [1,1,1,1,1,0,1,0] w [⟨.slice A5_0_0 x5_0_0.length c5_0_0,40,1,cs5_0_0⟩,⟨.pt g6,131,0,[.slice A5_0_0 x5_0_0.length c5_0_0]⟩] [F5_0_0] [0,1] ([0,1,2,3,5,6,7,8,9],[(5,.pt g6),(54,.pt g6),(57,.pt g6),(63,.pointer (some pq34))]):=by
    intro W73 M
    refine .a2 tr 4 10 ?_ ?_
    ·exact .lv M 1 rfl 0 rfl<| .jn M [0,1] [[0]] (J70) rfl rfl
    ·exact .lu Cq34 huq34 (M.or 0)<| .jn M [0,1] [[0]] (J64) rfl rfl
   have J74:RJ 58 f58 (Vi.R r w) [1,1,1,1,1,0,1,0] w [⟨.slice A5_0_0 x5_0_0.length c5_0_0,40,1,cs5_0_0⟩,⟨.pt g6,131,0,[.slice A5_0_0 x5_0_0.length c5_0_0]⟩] [F5_0_0] [0,1] ([0,1,2,3,5,6,7,4],[(5,.pt g6),(54,.pt g6),(58,.slice A5_0_0 x5_0_0.length c5_0_0),(61,.pt g6)]):=by
    intro W75 M
    exact .a1 tr 8<| .lv M 1 rfl 0 rfl<| .ix tr 9 Cq34<| .jn M [0,1] [[0]] (J70) rfl rfl
   refine .a2 tr 4 8 ?_ ?_
   ·exact .lv M 1 rfl 0 rfl<| .jn M [0,1] [[0]] (J74) rfl rfl
   ·exact .lv M 1 rfl 0 rfl<| .ix tr 9 Cq34<| .jn M [0,1] [[0]] (J72) rfl rfl
  refine .kn 53 c32<| .gq 8 ?_
  obtain ⟨Fq76,hfq76,M⟩:=M.fs 0
  obtain ⟨Fq77,hfq77,M⟩:=M.fp 0
  have hs78:rPtr Rs_des_Des (andZ (Oks Fq77) (andZ (Oks Fq76) (Oks F5_0_0))) (.pt g6) (x5_0_0):=⟨g6,_,rfl,hfq77.up (fun _ z=>z.1),_,rfl,((up_rows (up_rows (up_nums .u8))) _ _ _ _ (fun _ z=>(ai z.2.1 z.2.2)) ⟨_,_,_,rfl,(hfq76.up (fun _ z=>z.1)),(Each2.up (up_rows (up_nums .u8)) hq5_0_0 (fun _ z=>z.2))⟩)⟩
  obtain rfl:=sj h
  exact .ret func58 ⟨.pt g6,(List.flatten [Fq77,Fq76,F5_0_0]),rfl,(up_opt (up_ptr up_Rs_des_Des)) _ _ _ _ (fun _ (z:Oks _ _)=>(ai (z.g 0 rfl) (ai (z.g 1 rfl) (z.g 2 rfl)))) (.inr ⟨(x5_0_0),rfl,hs78⟩),(M.pm [] [[0,1,2]])⟩
 exact .at (l0 k k.le_refl none 0 [] ([]:Lk) ([]:List Ent) 0 (M.pm [0,1] [[]]) (Each2.nil _) h)
def Vz.l0:Nat→Li→Li→Int→Option Li
 | 0,_,_,_=>none
 | k+1,a0,x3_0,x4_0=>(some (decide ((I64 (x4_0+1))<(a0.length:Int)):Bool)).bind fun y3=>(if y3=true then (gd (0≤x4_0) (gd (x4_0<(a0.length:Int)) (gd (0≤(I64 (x4_0+1))) (gd ((I64 (x4_0+1))<(a0.length:Int)) (gd (x3_0.length+([bor .i64 (shl .i64 (I64 (rd a0 x4_0)) 8) (I64 (rd a0 (I64 (x4_0+1))))]:Li).length≤1000000000) (Vz.l0 k a0 (x3_0++([bor .i64 (shl .i64 (I64 (rd a0 x4_0)) 8) (I64 (rd a0 (I64 (x4_0+1))))]:Li)) (I64 (x4_0+2)))))))) else (some x3_0))
def Vz.f (k:Nat) (a0:Li):Option Li:=Vz.l0 k a0 ([]:Li) 0
abbrev Vz.R (r:Li) (w:World):Value→World→Prop:=fun v w'=> ∃A0' c0',v= .slice A0' r.length c0'∧Mem w w' (Gs [⟨.slice A0' r.length c0',3,1,nums .i64 r⟩] [])
theorem Vz.calls {a0:Li} {r:Li} (hr0:Rd w (.slice Ap0 np0 cp0) (nums .u8 a0)) (h:Vz.f k a0=some r):Calls prog 97 #[(.slice Ap0 np0 cp0)] w (Ret (Vz.R r w)):=by
 obtain rfl:=hr0.ln
 unfold Vz.f at h
 refine calls_S func97 ?_
 have M:=Mem.r0 w
 refine .gq 15 ?_
 replace M:=M.n1 3
 have l0: ∀k_≤k,∀(A3_0:Option Addr) (c3_0:Nat) (x3_0:Li) (x4_0:Int) {W:World} (M:Mem w W (Gs [⟨.slice A3_0 x3_0.length c3_0,3,1,nums .i64 x3_0⟩] [])) (h:Vz.l0 k_ a0 x3_0 x4_0=some r),RL 97 f97 (Vz.R r w) [1,1,0,1,0,0] [(0,.slice Ap0 a0.length cp0),(3,.slice A3_0 x3_0.length c3_0),(4,.i x4_0)] W:=by
  refine loopI (by intros;rename_i h;simp [Vz.l0] at h) fun k hk ih0 A3_0 c3_0 x3_0 x4_0 W M h=> ?_
  simp only [Vz.l0] at h
  refine .gq 9 ?_
  let y3:Bool:=decide ((I64 (x4_0+1))<(a0.length:Int))
  replace h:=bz (y:=y3) h rfl
  rcases ift h with ⟨c4,h⟩ | ⟨c4,h⟩
  ·refine .kn 9 c4<| .gq 4<| .at (show RL 97 f97 (Vz.R r w) [1,1,0,1,0,0,1,0,0] [(0,.slice Ap0 a0.length cp0),(3,.slice A3_0 x3_0.length c3_0),(4,.i x4_0)] _ from .dr [0] M fun W5 M=> ?_)
   refine .pz tr [0,1,2] ?_
   obtain ⟨c7,h⟩:=ifd h
   obtain ⟨c8,h⟩:=ifd h
   obtain ⟨pq6,Cq6⟩:=(hr0.mono M.below).na c7 c8
   refine .ix tr 3 Cq6<| .ln tr 4 Cq6 (fun _ hs=>(Rd.kept hr0 (M.ks hs)))<| .pz tr [5,6,7,8,9] ?_
   obtain ⟨c10,h⟩:=ifd h
   obtain ⟨c11,h⟩:=ifd h
   obtain ⟨pq9,Cq9⟩:=(hr0.mono M.below).na c10 c11
   refine .ix tr 10 Cq9<| .ln tr 11 Cq9 (fun _ hs=>(Rd.kept hr0 (M.ks hs)))<| .pz tr [12,13]<| .a1 tr 14<| .new 3 1 1 (nums .i64 [bor .i64 (shl .i64 (I64 (rd a0 x4_0)) 8) (I64 (rd a0 (I64 (x4_0+1))))]) M [1] fun g12 W13 M=> ?_
   obtain ⟨c18,h⟩:=ifd h
   exact .a1 tr 15<| .an M 1 rfl (M.or 0) c18 [1] fun A15 c16 W17 M=> .pz tr [16]<| .dn tr<| .gq 7<| .at (ih0 k (by omega) A15 c16 (x3_0++([bor .i64 (shl .i64 (I64 (rd a0 x4_0)) 8) (I64 (rd a0 (I64 (x4_0+1))))]:Li)) (I64 (x4_0+2)) (M.pm [1] []) h)
  refine .kn 9 c4<| .gq 7 ?_
  obtain rfl:=sj h
  exact .ret func97 ⟨A3_0,c3_0,rfl,(M.pm [0] [])⟩
 exact .at (l0 k k.le_refl none 0 ([]:Li) 0 (M.pm [0] []) h)
def Jf.f (k:Nat) (a0:Int) (a1:Int):Option (Int):=if (decide (a1=0))=true then (none) else (if (decide (a1=0))=true then (none) else (some (Int.tmod (I64 ((Int.tmod a0 a1)+a1)) a1)))
theorem Jf.calls {a0:Int} {a1:Int} {r:Int} (h:Jf.f k a0 a1=some r):Calls prog 152 #[.i a0,.i a1] w (Ret fun v w'=>v= .i r∧Mem w w' (Gs [] [])):=by
 unfold Jf.f at h
 refine calls_S func152 ?_
 have M:=Mem.r0 w
 refine .gq 8 ?_
 obtain ⟨c1,h⟩:=ifn h
 refine .yt (yl_rem (kd:= .i64) a0 c1)<| .gq 3 ?_
 obtain ⟨c2,h⟩:=ifn h
 refine .yt (yl_rem (kd:= .i64) (I64 ((Int.tmod a0 a1)+a1)) c2)<| .gq 2 ?_
 obtain rfl:=sj h
 exact .ret func152 ⟨rfl,(M.pm [] [])⟩
def Jc.l0:Nat→Li→Int→Li→Int→Option Li
 | 0,_,_,_,_=>none
 | k+1,a0,t4,x5_0,x23_0=>(some (decide (x23_0<(((a0.length:Int)).toNat:Int)):Bool)).bind fun y10=>(if y10=true then (if (decide ((a0.length:Int)=0))=true then (none) else (gd (0≤(Int.tmod (I64 (x23_0+(I64 (Int.tdiv t4 8)))) (a0.length:Int))) (gd ((Int.tmod (I64 (x23_0+(I64 (Int.tdiv t4 8)))) (a0.length:Int))<(a0.length:Int)) (if (decide ((a0.length:Int)=0))=true then (none) else (gd (0≤(Int.tmod (I64 ((I64 (x23_0+(I64 (Int.tdiv t4 8))))+1)) (a0.length:Int))) (gd ((Int.tmod (I64 ((I64 (x23_0+(I64 (Int.tdiv t4 8))))+1)) (a0.length:Int))<(a0.length:Int)) ((some (bor .u64 (shl .u64 (U64 (rd a0 (Int.tmod (I64 (x23_0+(I64 (Int.tdiv t4 8)))) (a0.length:Int)))) 8) (U64 (rd a0 (Int.tmod (I64 ((I64 (x23_0+(I64 (Int.tdiv t4 8))))+1)) (a0.length:Int)))):Int)).bind fun y21=>(gd (0≤(U64 (8-(U64 (Int.tmod t4 8))))) ((some (U8 (shrv .u64 y21 (U64 (8-(U64 (Int.tmod t4 8))))):Int)).bind fun y23=>(gd (0≤x23_0) (gd (x23_0<(((a0.length:Int)).toNat:Int)) (Jc.l0 k a0 t4 (x5_0.set (x23_0:Int).toNat y23) (I64 (x23_0+1)))))))))))))) else (some x5_0))
def Jc.f (k:Nat) (a0:Li) (a1:Int):Option Li:=if ((a0.length:Int)==0)=true then (some ([]:Li)) else ((Jf.f k a1 (I64 (8*(a0.length:Int)))).bind fun t4=>(gd (0≤(a0.length:Int)) (gd ((a0.length:Int)≤1000000000) (Jc.l0 k a0 t4 (List.replicate (((a0.length:Int)).toNat) (0:Int)) 0))))
abbrev Jc.R (r:Li) (w:World):Value→World→Prop:=fun v w'=> ∃A0' c0',v= .slice A0' r.length c0'∧Mem w w' (Gs [⟨.slice A0' r.length c0',5,1,nums .u8 r⟩] [])
theorem Jc.calls {a0:Li} {a1:Int} {r:Li} (hr0:Rd w (.slice Ap0 np0 cp0) (nums .u8 a0)) (h:Jc.f k a0 a1=some r):Calls prog 141 #[(.slice Ap0 np0 cp0),.i a1] w (Ret (Jc.R r w)):=by
 obtain rfl:=hr0.ln
 unfold Jc.f at h
 refine calls_S func141 ?_
 have M:=Mem.r0 w
 refine .gq 11 ?_
 rcases ift h with ⟨c1,h⟩ | ⟨c1,h⟩
 ·refine .kn 12 c1<| .gq 5 ?_
  replace M:=M.n1 5
  obtain rfl:=sj h
  exact .ret func141 ⟨none,0,rfl,(M.pm [0] [])⟩
 refine .kn 12 c1<| .gq 8 ?_
 obtain ⟨t4,ht4,h⟩:=bs h
 refine .ca (Jf.calls ht4) ?_
 rintro _ W3 ⟨rfl,M_⟩
 replace M:=M.cg M_
 refine .gq 6 ?_
 obtain ⟨c7,h⟩:=ifd h
 obtain ⟨c8,h⟩:=ifd h
 refine .mn 5 .u8 (a0.length:Int) (a0.length:Int) M fun g6 W5 M=> .gq 11 ?_
 have l0: ∀k_≤k,∀(x5_0:Li) (x23_0:Int) {W:World} (M:Mem w W (Gs [⟨.slice (pa g6) (((a0.length:Int)).toNat) (((a0.length:Int):Int).toNat),5,1,nums .u8 x5_0⟩] [])) (h:Jc.l0 k_ a0 t4 x5_0 x23_0=some r),RL 141 f141 (Jc.R r w) [1,1,1,1,0,1,0,0] [(0,.slice Ap0 a0.length cp0),(1,.i t4),(5,.slice (pa g6) (((a0.length:Int)).toNat) (((a0.length:Int):Int).toNat)),(22,.i (((a0.length:Int)).toNat:Int)),(23,.i x23_0)] W:=by
  refine loopI (by intros;rename_i h;simp [Jc.l0] at h) fun k hk ih0 x5_0 x23_0 W M h=> ?_
  simp only [Jc.l0] at h
  refine .gq 5 ?_
  let y10:Bool:=decide (x23_0<(((a0.length:Int)).toNat:Int))
  replace h:=bz (y:=y10) h rfl
  rcases ift h with ⟨c11,h⟩ | ⟨c11,h⟩
  ·refine .kn 24 c11<| .gq 18<| .at (show RL 141 f141 (Jc.R r w) [1,1,1,1,0,1,0,0,1,1,0,0,1,1,0] [(0,.slice Ap0 a0.length cp0),(1,.i t4),(5,.slice (pa g6) (((a0.length:Int)).toNat) (((a0.length:Int):Int).toNat)),(6,.i x23_0),(7,.i (I64 (x23_0+(I64 (Int.tdiv t4 8))))),(22,.i (((a0.length:Int)).toNat:Int)),(23,.i x23_0)] _ from .dr [] M fun W12 M=> ?_)
   refine .pz tr [0,1,2,3] ?_
   obtain ⟨c13,h⟩:=ifn h
   refine .yt tr 4 (yl_rem (kd:= .i64) (I64 (x23_0+(I64 (Int.tdiv t4 8)))) c13) ?_
   obtain ⟨c15,h⟩:=ifd h
   obtain ⟨c16,h⟩:=ifd h
   obtain ⟨pq14,Cq14⟩:=(hr0.mono M.below).na c15 c16
   refine .ix tr 5 Cq14<| .ln tr 6 Cq14 (fun _ hs=>(Rd.kept hr0 (M.ks hs)))<| .pz tr [7,8,9,10,11] ?_
   obtain ⟨c17,h⟩:=ifn h
   refine .yt tr 12 (yl_rem (kd:= .i64) (I64 ((I64 (x23_0+(I64 (Int.tdiv t4 8))))+1)) c17) ?_
   obtain ⟨c19,h⟩:=ifd h
   obtain ⟨c20,h⟩:=ifd h
   obtain ⟨pq18,Cq18⟩:=(hr0.mono M.below).na c19 c20
   refine .ix tr 13 Cq18<| .ln tr 14 Cq18 (fun _ hs=>(Rd.kept hr0 (M.ks hs)))<| .pz tr [15,16]<| .dn tr<| .gq 13 ?_
   let y21:Int:=bor .u64 (shl .u64 (U64 (rd a0 (Int.tmod (I64 (x23_0+(I64 (Int.tdiv t4 8)))) (a0.length:Int)))) 8) (U64 (rd a0 (Int.tmod (I64 ((I64 (x23_0+(I64 (Int.tdiv t4 8))))+1)) (a0.length:Int))))
   replace h:=bz (y:=y21) h rfl
   obtain ⟨c22,h⟩:=ifd h
   refine .yt (yl_shr (kd:= .u64) y21 c22)<| .gq 1 ?_
   let y23:Int:=U8 (shrv .u64 y21 (U64 (8-(U64 (Int.tmod t4 8)))))
   replace h:=bz (y:=y23) h rfl
   obtain ⟨c25,h⟩:=ifd h
   obtain ⟨c26,h⟩:=ifd h
   obtain ⟨pq24,Cq24⟩:=M.na 0 rfl c25 c26
   exact .ix Cq24<| .sn y23 Cq24 M 0 rfl fun W27 M=> .gq 7<| .at (ih0 k (by omega) (x5_0.set (x23_0:Int).toNat y23) (I64 (x23_0+1)) (M.pm [0] []) h)
  refine .kn 24 c11<| .gq 7 ?_
  obtain rfl:=sj h
  have hn0_:=(M.or 0).ln
  exact .ret (v:= .slice (pa g6) (((a0.length:Int)).toNat) (((a0.length:Int):Int).toNat)) func141 ⟨(pa g6),((a0.length:Int):Int).toNat,(by rw [hn0_]),by rw [hn0_];exact (M.pm [0] [])⟩
 exact .at (l0 k k.le_refl (List.replicate (((a0.length:Int)).toNat) (0:Int)) 0 (M.pm [0] []) h)
def Vv.l0:Nat→Li→Li→Int→Option (Li×Int)
 | 0,_,_,_=>none
 | k+1,a0,x4_0,x5_0=>if (decide ((x4_0.length:Int)<52))=true then ((Jc.f k a0 x5_0).bind fun t7=>((Vz.f k t7).bind fun t12=>(gd (x4_0.length+t12.length≤1000000000) (Vv.l0 k a0 (x4_0++t12) (I64 (x5_0+25)))))) else (gd (0≤52) (gd (52≤(x4_0.length:Int)) ((Y1.f k ((x4_0.take (52:Int).toNat).drop (0:Int).toNat)).bind fun t27=>(some (t27,0)))))
def Vv.f (k:Nat) (a0:Li):Option (Li×Int):=if ((a0.length:Int) != 16)=true then (some (([]:Li),4)) else (Vv.l0 k a0 ([]:Li) 0)
abbrev Vv.R (r:Li×Int) (w:World):Value→World→Prop:=fun v w'=> ∃A0' c0',v= .tuple #[.slice A0' r.1.length c0',.i r.2]∧Mem w w' (Gs [⟨.slice A0' r.1.length c0',3,1,nums .i64 r.1⟩] [])
theorem Vv.calls {a0:Li} {r:Li×Int} (hr0:Rd w (.slice Ap0 np0 cp0) (nums .u8 a0)) (h:Vv.f k a0=some r):Calls prog 94 #[(.slice Ap0 np0 cp0)] w (Ret (Vv.R r w)):=by
 obtain rfl:=hr0.ln
 unfold Vv.f at h
 refine calls_S func94 ?_
 have M:=Mem.r0 w
 refine .gq 12 ?_
 rcases ift h with ⟨c1,h⟩ | ⟨c1,h⟩
 ·refine .kn 8 c1<| .gq 6 ?_
  replace M:=M.n1 3
  obtain rfl:=sj h
  exact .ret func94 ⟨none,0,rfl,(M.pm [0] [])⟩
 refine .kn 8 c1<| .gq 13 ?_
 replace M:=M.n1 3
 have l0: ∀k_≤k,∀(A4_0:Option Addr) (c4_0:Nat) (x4_0:Li) (x5_0:Int) {W:World} (M:Mem w W (Gs [⟨.slice A4_0 x4_0.length c4_0,3,1,nums .i64 x4_0⟩] [])) (h:Vv.l0 k_ a0 x4_0 x5_0=some r),RL 94 f94 (Vv.R r w) [1,1,1,0,1,0,0] [(0,.slice Ap0 a0.length cp0),(4,.slice A4_0 x4_0.length c4_0),(5,.i x5_0)] W:=by
  refine loopI (by intros;rename_i h;simp [Vv.l0] at h) fun k hk ih0 A4_0 c4_0 x4_0 x5_0 W M h=> ?_
  simp only [Vv.l0] at h
  refine .gq 7 ?_
  rcases ift h with ⟨c5,h⟩ | ⟨c5,h⟩
  ·refine .kn 11 c5<| .gq 8 ?_
   obtain ⟨t7,ht7,h⟩:=bs h
   refine .ca (Jc.calls (hr0.mono M.below) ht7) ?_
   rintro _ W6 ⟨A8,c9,rfl,M_⟩
   replace M:=M.cg M_
   obtain ⟨t12,ht12,h⟩:=bs h
   refine .ca (Vz.calls (M.or 0) ht12) ?_
   rintro _ W11 ⟨A13,c14,rfl,M_⟩
   replace M:=M.cg M_
   obtain ⟨c19,h⟩:=ifd h
   exact .an M 2 rfl (M.or 0) c19 fun A16 c17 W18 M=> .gq 9<| .at (ih0 k (by omega) A16 c17 (x4_0++t12) (I64 (x5_0+25)) (M.pm [2] []) h)
  refine .kn 11 c5<| .gq 5 ?_
  obtain ⟨c21,h⟩:=ifd h
  obtain ⟨c22,h⟩:=ifd h
  refine .ct 0 52 (M.or 0) fun A23 c24 hs25=> ?_
  obtain ⟨t27,ht27,h⟩:=bs h
  refine .ca (Y1.calls (hs25 _ (M.or 0)) ht27) ?_
  rintro _ W26 ⟨A28,c29,rfl,M_⟩
  replace M:=M.cg M_
  refine .gq 3 ?_
  obtain rfl:=sj h
  exact .ret func94 ⟨A28,c29,rfl,(M.pm [0] [])⟩
 exact .at (l0 k k.le_refl none 0 ([]:Li) 0 (M.pm [0] []) h)
def V0.f (k:Nat) (a0:Int):Option (Int):=some (Int.tmod (I64 (65536-a0)) 65536)
theorem V0.calls {a0:Int} {r:Int} (h:V0.f k a0=some r):Calls prog 142 #[.i a0] w (Ret fun v w'=>v= .i r∧Mem w w' (Gs [] [])):=by
 unfold V0.f at h
 refine calls_S func142 ?_
 have M:=Mem.r0 w
 refine .gq 11 ?_
 obtain rfl:=sj h
 exact .ret func142 ⟨rfl,(M.pm [] [])⟩
def Vw.f (k:Nat) (a0:Int) (a1:Int):Option (Int):=if (a0==0)=true then (if (a1==0)=true then (some (Int.tmod (Int.tmod (I64 (65536*65536)) 65537) 65536)) else (some (Int.tmod (Int.tmod (I64 (65536*a1)) 65537) 65536))) else (if (a1==0)=true then (some (Int.tmod (Int.tmod (I64 (a0*65536)) 65537) 65536)) else (some (Int.tmod (Int.tmod (I64 (a0*a1)) 65537) 65536)))
theorem Vw.calls {a0:Int} {a1:Int} {r:Int} (h:Vw.f k a0 a1=some r):Calls prog 144 #[.i a0,.i a1] w (Ret fun v w'=>v= .i r∧Mem w w' (Gs [] [])):=by
 unfold Vw.f at h
 refine calls_S func144 ?_
 have M:=Mem.r0 w
 refine .gq 10 ?_
 rcases ift h with ⟨c1,h⟩ | ⟨c1,h⟩
 ·refine .kn 6 c1<| .gq 10 ?_
  rcases ift h with ⟨c2,h⟩ | ⟨c2,h⟩
  ·refine .kn 8 c2<| .gq 13 ?_
   obtain rfl:=sj h
   exact .ret func144 ⟨rfl,(M.pm [] [])⟩
  refine .kn 8 c2<| .gq 11 ?_
  obtain rfl:=sj h
  exact .ret func144 ⟨rfl,(M.pm [] [])⟩
 refine .kn 6 c1<| .gq 8 ?_
 rcases ift h with ⟨c3,h⟩ | ⟨c3,h⟩
 ·refine .kn 8 c3<| .gq 13 ?_
  obtain rfl:=sj h
  exact .ret func144 ⟨rfl,(M.pm [] [])⟩
 refine .kn 8 c3<| .gq 11 ?_
 obtain rfl:=sj h
 exact .ret func144 ⟨rfl,(M.pm [] [])⟩
def Vu.l0:Nat→Int→Int→Int→Option (Int)
 | 0,_,_,_=>none
 | k+1,x0_0,x3_0,x4_0=>if (decide (x4_0>0))=true then (if (decide ((Int.tmod x4_0 2)>0))=true then ((Vw.f k x3_0 x0_0).bind fun t4=>((Vw.f k x0_0 x0_0).bind fun t6=>(Vu.l0 k t6 t4 (I64 (Int.tdiv x4_0 2))))) else ((Vw.f k x0_0 x0_0).bind fun t8=>(Vu.l0 k t8 x3_0 (I64 (Int.tdiv x4_0 2))))) else (some x3_0)
def Vu.f (k:Nat) (a0:Int):Option (Int):=Vu.l0 k a0 1 65535
abbrev Vu.R (r:Int) (w:World):Value→World→Prop:=fun v w'=>v= .i r∧Mem w w' (Gs [] [])
theorem Vu.calls {a0:Int} {r:Int} (h:Vu.f k a0=some r):Calls prog 143 #[.i a0] w (Ret (Vu.R r w)):=by
 unfold Vu.f at h
 refine calls_S func143 ?_
 have M:=Mem.r0 w
 refine .gq 12 ?_
 have l0: ∀k_≤k,∀(x0_0:Int) (x3_0:Int) (x4_0:Int) {W:World} (M:Mem w W (Gs [] [])) (h:Vu.l0 k_ x0_0 x3_0 x4_0=some r),RL 143 f143 (Vu.R r w) [1,0,1,1] [(0,.i x0_0),(3,.i x3_0),(4,.i x4_0)] W:=by
  refine loopI (by intros;rename_i h;simp [Vu.l0] at h) fun k hk ih0 x0_0 x3_0 x4_0 W M h=> ?_
  simp only [Vu.l0] at h
  refine .gq 6 ?_
  rcases ift h with ⟨c1,h⟩ | ⟨c1,h⟩
  ·refine .kn 6 c1<| .gq 8 ?_
   rcases ift h with ⟨c2,h⟩ | ⟨c2,h⟩
   ·refine .kn 9 c2<| .gq 4 ?_
    obtain ⟨t4,ht4,h⟩:=bs h
    refine .ca (Vw.calls ht4) ?_
    rintro _ W3 ⟨rfl,M_⟩
    replace M:=M.cg M_
    refine .gq 6 ?_
    obtain ⟨t6,ht6,h⟩:=bs h
    refine .ca (Vw.calls ht6) ?_
    rintro _ W5 ⟨rfl,M_⟩
    replace M:=M.cg M_
    exact .gq 8<| .at (ih0 k (by omega) t6 t4 (I64 (Int.tdiv x4_0 2)) (M.pm [] []) h)
   refine .kn 9 c2<| .gq 6 ?_
   obtain ⟨t8,ht8,h⟩:=bs h
   refine .ca (Vw.calls ht8) ?_
   rintro _ W7 ⟨rfl,M_⟩
   replace M:=M.cg M_
   exact .gq 8<| .at (ih0 k (by omega) t8 x3_0 (I64 (Int.tdiv x4_0 2)) (M.pm [] []) h)
  refine .kn 6 c1<| .gq 7 ?_
  obtain rfl:=sj h
  exact .ret func143 ⟨rfl,(M.pm [] [])⟩
 exact .at (l0 k k.le_refl a0 1 65535 (M.pm [] []) h)
def V2.l0:Nat→Li→Li→Int→Option Li
 | 0,_,_,_=>none
 | k+1,a0,x3_0,x4_0=>if (decide (x4_0≥0))=true then (gd (0≤(I64 (6*x4_0))) (gd ((I64 (6*x4_0))≤(I64 ((I64 (6*x4_0))+4))) (gd ((I64 ((I64 (6*x4_0))+4))≤(a0.length:Int)) (gd (1<(((a0.take (I64 ((I64 (6*x4_0))+4):Int).toNat).drop (I64 (6*x4_0):Int).toNat).length:Int)) (gd (2<(((a0.take (I64 ((I64 (6*x4_0))+4):Int).toNat).drop (I64 (6*x4_0):Int).toNat).length:Int)) ((V0.f k (rd ((a0.take (I64 ((I64 (6*x4_0))+4):Int).toNat).drop (I64 (6*x4_0):Int).toNat) 1)).bind fun t16=>((V0.f k (rd ((a0.take (I64 ((I64 (6*x4_0))+4):Int).toNat).drop (I64 (6*x4_0):Int).toNat) 2)).bind fun t18=>(if (decide (x4_0>0))=true then (if (decide (x4_0<8))=true then (gd (0<(((a0.take (I64 ((I64 (6*x4_0))+4):Int).toNat).drop (I64 (6*x4_0):Int).toNat).length:Int)) (gd (3<(((a0.take (I64 ((I64 (6*x4_0))+4):Int).toNat).drop (I64 (6*x4_0):Int).toNat).length:Int)) ((Vu.f k (rd ((a0.take (I64 ((I64 (6*x4_0))+4):Int).toNat).drop (I64 (6*x4_0):Int).toNat) 0)).bind fun t27=>((Vu.f k (rd ((a0.take (I64 ((I64 (6*x4_0))+4):Int).toNat).drop (I64 (6*x4_0):Int).toNat) 3)).bind fun t29=>(gd (x3_0.length+([t27,t18,t16,t29]:Li).length≤1000000000) (if (decide (x4_0>0))=true then (gd (0≤(I64 ((I64 (6*x4_0))-2))) (gd ((I64 ((I64 (6*x4_0))-2))≤(I64 (6*x4_0))) (gd ((I64 (6*x4_0))≤(a0.length:Int)) (gd ((x3_0++([t27,t18,t16,t29]:Li)).length+((a0.take (I64 (6*x4_0):Int).toNat).drop (I64 ((I64 (6*x4_0))-2):Int).toNat).length≤1000000000) (V2.l0 k a0 ((x3_0++([t27,t18,t16,t29]:Li))++((a0.take (I64 (6*x4_0):Int).toNat).drop (I64 ((I64 (6*x4_0))-2):Int).toNat)) (I64 (x4_0-1))))))) else (V2.l0 k a0 (x3_0++([t27,t18,t16,t29]:Li)) (I64 (x4_0-1))))))))) else (gd (0<(((a0.take (I64 ((I64 (6*x4_0))+4):Int).toNat).drop (I64 (6*x4_0):Int).toNat).length:Int)) (gd (3<(((a0.take (I64 ((I64 (6*x4_0))+4):Int).toNat).drop (I64 (6*x4_0):Int).toNat).length:Int)) ((Vu.f k (rd ((a0.take (I64 ((I64 (6*x4_0))+4):Int).toNat).drop (I64 (6*x4_0):Int).toNat) 0)).bind fun t56=>((Vu.f k (rd ((a0.take (I64 ((I64 (6*x4_0))+4):Int).toNat).drop (I64 (6*x4_0):Int).toNat) 3)).bind fun t58=>(gd (x3_0.length+([t56,t16,t18,t58]:Li).length≤1000000000) (if (decide (x4_0>0))=true then (gd (0≤(I64 ((I64 (6*x4_0))-2))) (gd ((I64 ((I64 (6*x4_0))-2))≤(I64 (6*x4_0))) (gd ((I64 (6*x4_0))≤(a0.length:Int)) (gd ((x3_0++([t56,t16,t18,t58]:Li)).length+((a0.take (I64 (6*x4_0):Int).toNat).drop (I64 ((I64 (6*x4_0))-2):Int).toNat).length≤1000000000) (V2.l0 k a0 ((x3_0++([t56,t16,t18,t58]:Li))++((a0.take (I64 (6*x4_0):Int).toNat).drop (I64 ((I64 (6*x4_0))-2):Int).toNat)) (I64 (x4_0-1))))))) else (V2.l0 k a0 (x3_0++([t56,t16,t18,t58]:Li)) (I64 (x4_0-1)))))))))) else (gd (0<(((a0.take (I64 ((I64 (6*x4_0))+4):Int).toNat).drop (I64 (6*x4_0):Int).toNat).length:Int)) (gd (3<(((a0.take (I64 ((I64 (6*x4_0))+4):Int).toNat).drop (I64 (6*x4_0):Int).toNat).length:Int)) ((Vu.f k (rd ((a0.take (I64 ((I64 (6*x4_0))+4):Int).toNat).drop (I64 (6*x4_0):Int).toNat) 0)).bind fun t85=>((Vu.f k (rd ((a0.take (I64 ((I64 (6*x4_0))+4):Int).toNat).drop (I64 (6*x4_0):Int).toNat) 3)).bind fun t87=>(gd (x3_0.length+([t85,t16,t18,t87]:Li).length≤1000000000) (if (decide (x4_0>0))=true then (gd (0≤(I64 ((I64 (6*x4_0))-2))) (gd ((I64 ((I64 (6*x4_0))-2))≤(I64 (6*x4_0))) (gd ((I64 (6*x4_0))≤(a0.length:Int)) (gd ((x3_0++([t85,t16,t18,t87]:Li)).length+((a0.take (I64 (6*x4_0):Int).toNat).drop (I64 ((I64 (6*x4_0))-2):Int).toNat).length≤1000000000) (V2.l0 k a0 ((x3_0++([t85,t16,t18,t87]:Li))++((a0.take (I64 (6*x4_0):Int).toNat).drop (I64 ((I64 (6*x4_0))-2):Int).toNat)) (I64 (x4_0-1))))))) else (V2.l0 k a0 (x3_0++([t85,t16,t18,t87]:Li)) (I64 (x4_0-1))))))))))))))))) else (some x3_0)
def V2.f (k:Nat) (a0:Li):Option Li:=V2.l0 k a0 ([]:Li) 8
abbrev V2.R (r:Li) (w:World):Value→World→Prop:=fun v w'=> ∃A0' c0',v= .slice A0' r.length c0'∧Mem w w' (Gs [⟨.slice A0' r.length c0',3,1,nums .i64 r⟩] [])
theorem V2.calls {a0:Li} {r:Li} (hr0:Rd w (.slice Ap0 np0 cp0) (nums .i64 a0)) (h:V2.f k a0=some r):Calls prog 95 #[(.slice Ap0 np0 cp0)] w (Ret (V2.R r w)):=by
 obtain rfl:=hr0.ln
 unfold V2.f at h
 refine calls_S func95 ?_
 have M:=Mem.r0 w
 refine .gq 15 ?_
 replace M:=M.n1 3
 have l0: ∀k_≤k,∀(A3_0:Option Addr) (c3_0:Nat) (x3_0:Li) (x4_0:Int) {W:World} (M:Mem w W (Gs [⟨.slice A3_0 x3_0.length c3_0,3,1,nums .i64 x3_0⟩] [])) (h:V2.l0 k_ a0 x3_0 x4_0=some r),RL 95 f95 (V2.R r w) [1,1,0,1,0,0] [(0,.slice Ap0 a0.length cp0),(3,.slice A3_0 x3_0.length c3_0),(4,.i x4_0)] W:=by
  refine loopI (by intros;rename_i h;simp [V2.l0] at h) fun k hk ih0 A3_0 c3_0 x3_0 x4_0 W M h=> ?_
  simp only [V2.l0] at h
  refine .gq 6 ?_
  rcases ift h with ⟨c3,h⟩ | ⟨c3,h⟩
  ·refine .kn 9 c3<| .gq 12 ?_
   obtain ⟨c4,h⟩:=ifd h
   obtain ⟨c5,h⟩:=ifd h
   obtain ⟨c6,h⟩:=ifd h
   refine .ct (I64 (6*x4_0)) (I64 ((I64 (6*x4_0))+4)) (hr0.mono M.below) fun A7 c8 hs9=> .gq 3<| .at (show RL 95 f95 (V2.R r w) [1,1,0,1,0,0,1,0,0,1,0] [(0,.slice Ap0 a0.length cp0),(3,.slice A3_0 x3_0.length c3_0),(4,.i x4_0),(5,.slice A7 (((a0.take (I64 ((I64 (6*x4_0))+4):Int).toNat).drop (I64 (6*x4_0):Int).toNat).length) c8)] _ from .dr [] M fun W10 M=> ?_)
   refine .pz tr [0] ?_
   obtain ⟨c12,h⟩:=ifd h
   obtain ⟨pq11,Cq11⟩:=(hs9 _ (hr0.mono M.below)).na (i:=1) (by omega) c12
   refine .ix tr 1 Cq11<| .ln tr 2 Cq11 (fun _ hs=>(hs9 _ (Rd.kept hr0 (M.ks hs))))<| .pz tr [4] ?_
   obtain ⟨c14,h⟩:=ifd h
   obtain ⟨pq13,Cq13⟩:=(hs9 _ (hr0.mono M.below)).na (i:=2) (by omega) c14
   refine .ix tr 5 Cq13<| .ln tr 6 Cq13 (fun _ hs=>(hs9 _ (Rd.kept hr0 (M.ks hs)))) ?_
   obtain ⟨t16,ht16,h⟩:=bs h
   refine .a1 tr 3<| .ca (V0.calls ht16) ?_
   rintro _ W15 ⟨rfl,M_⟩
   refine .ca M_ [] ?_
   replace M:=M.cg M_
   obtain ⟨t18,ht18,h⟩:=bs h
   refine .a1 tr 7<| .ca (V0.calls ht18) ?_
   rintro _ W17 ⟨rfl,M_⟩
   refine .ca M_ [] ?_
   replace M:=M.cg M_
   refine .pz tr [8,9]<| .dn tr<| .gq 6 ?_
   rcases ift h with ⟨c19,h⟩ | ⟨c19,h⟩
   ·refine .kn 29 c19<| .gq 4 ?_
    rcases ift h with ⟨c20,h⟩ | ⟨c20,h⟩
    ·refine .kn 32 c20<| .gq 8<| .at (show RL 95 f95 (V2.R r w) [1,1,0,1,0,0,1,0,0,1,1,1,0] [(0,.slice Ap0 a0.length cp0),(3,.slice A3_0 x3_0.length c3_0),(4,.i x4_0),(5,.slice A7 (((a0.take (I64 ((I64 (6*x4_0))+4):Int).toNat).drop (I64 (6*x4_0):Int).toNat).length) c8),(6,.i t18),(7,.i t16)] _ from .dr [0] M fun W21 M=> ?_)
     refine .pz tr [0,1] ?_
     obtain ⟨c23,h⟩:=ifd h
     obtain ⟨pq22,Cq22⟩:=(hs9 _ (hr0.mono M.below)).na (i:=0) (by omega) c23
     refine .ix tr 2 Cq22<| .ln tr 3 Cq22 (fun _ hs=>(hs9 _ (Rd.kept hr0 (M.ks hs))))<| .pz tr [5,6,7] ?_
     obtain ⟨c25,h⟩:=ifd h
     obtain ⟨pq24,Cq24⟩:=(hs9 _ (hr0.mono M.below)).na (i:=3) (by omega) c25
     refine .ix tr 8 Cq24<| .ln tr 9 Cq24 (fun _ hs=>(hs9 _ (Rd.kept hr0 (M.ks hs)))) ?_
     obtain ⟨t27,ht27,h⟩:=bs h
     refine .a1 tr 4<| .ca (Vu.calls ht27) ?_
     rintro _ W26 ⟨rfl,M_⟩
     refine .ca M_ [0] ?_
     replace M:=M.cg M_
     obtain ⟨t29,ht29,h⟩:=bs h
     refine .a1 tr 10<| .ca (Vu.calls ht29) ?_
     rintro _ W28 ⟨rfl,M_⟩
     refine .ca M_ [0] ?_
     replace M:=M.cg M_
     refine .a1 tr 11<| .new 3 1 4 (nums .i64 [t27,t18,t16,t29]) M [1] fun g30 W31 M=> ?_
     obtain ⟨c36,h⟩:=ifd h
     refine .a1 tr 12<| .an M 1 rfl (M.or 0) c36 [1] fun A33 c34 W35 M=> .pz tr [13]<| .dn tr<| .gq 5 ?_
     rcases ift h with ⟨c38,h⟩ | ⟨c38,h⟩
     ·refine .kn 49 c38<| .gq 9 ?_
      obtain ⟨c39,h⟩:=ifd h
      obtain ⟨c40,h⟩:=ifd h
      obtain ⟨c41,h⟩:=ifd h
      refine .ct (I64 ((I64 (6*x4_0))-2)) (I64 (6*x4_0)) (hr0.mono M.below) fun A42 c43 hs44=> ?_
      obtain ⟨c48,h⟩:=ifd h
      exact .an M 1 rfl (hs44 _ (hr0.mono M.below)) c48 fun A45 c46 W47 M=> .gq 9<| .at (ih0 k (by omega) A45 c46 ((x3_0++([t27,t18,t16,t29]:Li))++((a0.take (I64 (6*x4_0):Int).toNat).drop (I64 ((I64 (6*x4_0))-2):Int).toNat)) (I64 (x4_0-1)) (M.pm [1] []) h)
     exact .kn 49 c38<| .gq 9<| .at (ih0 k (by omega) A33 c34 (x3_0++([t27,t18,t16,t29]:Li)) (I64 (x4_0-1)) (M.pm [1] []) h)
    refine .kn 32 c20<| .gq 3<| .at (show RL 95 f95 (V2.R r w) [1,1,0,1,0,0,1,0,0,1,1,1,0] [(0,.slice Ap0 a0.length cp0),(3,.slice A3_0 x3_0.length c3_0),(4,.i x4_0),(5,.slice A7 (((a0.take (I64 ((I64 (6*x4_0))+4):Int).toNat).drop (I64 (6*x4_0):Int).toNat).length) c8),(6,.i t16),(7,.i t18)] _ from .dr [0] M fun W50 M=> ?_)
    refine .pz tr [0,1] ?_
    obtain ⟨c52,h⟩:=ifd h
    obtain ⟨pq51,Cq51⟩:=(hs9 _ (hr0.mono M.below)).na (i:=0) (by omega) c52
    refine .ix tr 2 Cq51<| .ln tr 3 Cq51 (fun _ hs=>(hs9 _ (Rd.kept hr0 (M.ks hs))))<| .pz tr [5,6,7] ?_
    obtain ⟨c54,h⟩:=ifd h
    obtain ⟨pq53,Cq53⟩:=(hs9 _ (hr0.mono M.below)).na (i:=3) (by omega) c54
    refine .ix tr 8 Cq53<| .ln tr 9 Cq53 (fun _ hs=>(hs9 _ (Rd.kept hr0 (M.ks hs)))) ?_
    obtain ⟨t56,ht56,h⟩:=bs h
    refine .a1 tr 4<| .ca (Vu.calls ht56) ?_
    rintro _ W55 ⟨rfl,M_⟩
    refine .ca M_ [0] ?_
    replace M:=M.cg M_
    obtain ⟨t58,ht58,h⟩:=bs h
    refine .a1 tr 10<| .ca (Vu.calls ht58) ?_
    rintro _ W57 ⟨rfl,M_⟩
    refine .ca M_ [0] ?_
    replace M:=M.cg M_
    refine .a1 tr 11<| .new 3 1 4 (nums .i64 [t56,t16,t18,t58]) M [1] fun g59 W60 M=> ?_
    obtain ⟨c65,h⟩:=ifd h
    refine .a1 tr 12<| .an M 1 rfl (M.or 0) c65 [1] fun A62 c63 W64 M=> .pz tr [13]<| .dn tr<| .gq 5 ?_
    rcases ift h with ⟨c67,h⟩ | ⟨c67,h⟩
    ·refine .kn 49 c67<| .gq 9 ?_
     obtain ⟨c68,h⟩:=ifd h
     obtain ⟨c69,h⟩:=ifd h
     obtain ⟨c70,h⟩:=ifd h
     refine .ct (I64 ((I64 (6*x4_0))-2)) (I64 (6*x4_0)) (hr0.mono M.below) fun A71 c72 hs73=> ?_
     obtain ⟨c77,h⟩:=ifd h
     exact .an M 1 rfl (hs73 _ (hr0.mono M.below)) c77 fun A74 c75 W76 M=> .gq 9<| .at (ih0 k (by omega) A74 c75 ((x3_0++([t56,t16,t18,t58]:Li))++((a0.take (I64 (6*x4_0):Int).toNat).drop (I64 ((I64 (6*x4_0))-2):Int).toNat)) (I64 (x4_0-1)) (M.pm [1] []) h)
    exact .kn 49 c67<| .gq 9<| .at (ih0 k (by omega) A62 c63 (x3_0++([t56,t16,t18,t58]:Li)) (I64 (x4_0-1)) (M.pm [1] []) h)
   refine .kn 29 c19<| .gq 7<| .at (show RL 95 f95 (V2.R r w) [1,1,0,1,0,0,1,0,0,1,1,1,0] [(0,.slice Ap0 a0.length cp0),(3,.slice A3_0 x3_0.length c3_0),(4,.i x4_0),(5,.slice A7 (((a0.take (I64 ((I64 (6*x4_0))+4):Int).toNat).drop (I64 (6*x4_0):Int).toNat).length) c8),(6,.i t16),(7,.i t18)] _ from .dr [0] M fun W79 M=> ?_)
   refine .pz tr [0,1] ?_
   obtain ⟨c81,h⟩:=ifd h
   obtain ⟨pq80,Cq80⟩:=(hs9 _ (hr0.mono M.below)).na (i:=0) (by omega) c81
   refine .ix tr 2 Cq80<| .ln tr 3 Cq80 (fun _ hs=>(hs9 _ (Rd.kept hr0 (M.ks hs))))<| .pz tr [5,6,7] ?_
   obtain ⟨c83,h⟩:=ifd h
   obtain ⟨pq82,Cq82⟩:=(hs9 _ (hr0.mono M.below)).na (i:=3) (by omega) c83
   refine .ix tr 8 Cq82<| .ln tr 9 Cq82 (fun _ hs=>(hs9 _ (Rd.kept hr0 (M.ks hs)))) ?_
   obtain ⟨t85,ht85,h⟩:=bs h
   refine .a1 tr 4<| .ca (Vu.calls ht85) ?_
   rintro _ W84 ⟨rfl,M_⟩
   refine .ca M_ [0] ?_
   replace M:=M.cg M_
   obtain ⟨t87,ht87,h⟩:=bs h
   refine .a1 tr 10<| .ca (Vu.calls ht87) ?_
   rintro _ W86 ⟨rfl,M_⟩
   refine .ca M_ [0] ?_
   replace M:=M.cg M_
   refine .a1 tr 11<| .new 3 1 4 (nums .i64 [t85,t16,t18,t87]) M [1] fun g88 W89 M=> ?_
   obtain ⟨c94,h⟩:=ifd h
   refine .a1 tr 12<| .an M 1 rfl (M.or 0) c94 [1] fun A91 c92 W93 M=> .pz tr [13]<| .dn tr<| .gq 5 ?_
   rcases ift h with ⟨c96,h⟩ | ⟨c96,h⟩
   ·refine .kn 49 c96<| .gq 9 ?_
    obtain ⟨c97,h⟩:=ifd h
    obtain ⟨c98,h⟩:=ifd h
    obtain ⟨c99,h⟩:=ifd h
    refine .ct (I64 ((I64 (6*x4_0))-2)) (I64 (6*x4_0)) (hr0.mono M.below) fun A100 c101 hs102=> ?_
    obtain ⟨c106,h⟩:=ifd h
    exact .an M 1 rfl (hs102 _ (hr0.mono M.below)) c106 fun A103 c104 W105 M=> .gq 9<| .at (ih0 k (by omega) A103 c104 ((x3_0++([t85,t16,t18,t87]:Li))++((a0.take (I64 (6*x4_0):Int).toNat).drop (I64 ((I64 (6*x4_0))-2):Int).toNat)) (I64 (x4_0-1)) (M.pm [1] []) h)
   exact .kn 49 c96<| .gq 9<| .at (ih0 k (by omega) A91 c92 (x3_0++([t85,t16,t18,t87]:Li)) (I64 (x4_0-1)) (M.pm [1] []) h)
  refine .kn 9 c3<| .gq 7 ?_
  obtain rfl:=sj h
  exact .ret func95 ⟨A3_0,c3_0,rfl,(M.pm [0] [])⟩
 exact .at (l0 k k.le_refl none 0 ([]:Li) 8 (M.pm [0] []) h)
def Vx.f (k:Nat) (a0:Li):Option (Option Lp×Int):=(Vv.f k a0).bind fun t2=>(if (t2.2 != 0)=true then (some (none,t2.2)) else ((V2.f k t2.1).bind fun t8=>(some ((some (t2.1,t8)),0))))
theorem Vx.calls {a0:Li} {r:Option Lp×Int} (hr0:Rd w (.slice Ap0 np0 cp0) (nums .u8 a0)) (h:Vx.f k a0=some r):Calls prog 60 #[(.slice Ap0 np0 cp0)] w (Ret fun v w'=> ∃(v0':Value) (F0':List Ent),v= .tuple #[v0',.i r.2]∧(rOpt (rPtr Rs_idea_Idea)) (Oks F0') v0' r.1∧Mem w w' (Gs [] [F0'])):=by
 obtain rfl:=hr0.ln
 unfold Vx.f at h
 refine calls_S func60 ?_
 have M:=Mem.r0 w
 refine .gq 8 ?_
 obtain ⟨t2,ht2,h⟩:=bs h
 refine .ca (Vv.calls (hr0.mono M.below) ht2) ?_
 rintro _ W1 ⟨A3,c4,rfl,M_⟩
 replace M:=M.cg M_
 refine .gq 12 ?_
 rcases ift h with ⟨c6,h⟩ | ⟨c6,h⟩
 ·refine .kn 12 c6<| .gq 7 ?_
  obtain rfl:=sj h
  exact .ret func60 ⟨.pointer none,([]:List Ent),rfl,(.inl ⟨rfl,rfl⟩),(M.pm [] [[]])⟩
 refine .kn 12 c6<| .gq 6 ?_
 obtain ⟨t8,ht8,h⟩:=bs h
 refine .ca (V2.calls (M.or 0) ht8) ?_
 rintro _ W7 ⟨A9,c10,rfl,M_⟩
 replace M:=M.cg M_
 obtain ⟨Fq12,hfq12,M⟩:=M.fs 1
 obtain ⟨Fq13,hfq13,M⟩:=M.fs 0
 refine .gq 1<| .nw 141 ([.slice A3 t2.1.length c4,.slice A9 t8.length c10]) M fun g14 W15 M=> ?_
 obtain ⟨Fq17,hfq17,M⟩:=M.fp 0
 have hs18:rPtr Rs_idea_Idea (andZ (Oks Fq17) (andZ (Oks Fq12) (Oks Fq13))) (.pt g14) (t2.1,t8):=⟨g14,_,rfl,hfq17.up (fun _ z=>z.1),_,_,rfl,(upn (fun _ z=>z.2.1) (rno hfq12 (M.oks 2))),(upn (fun _ z=>z.2.2) (rno hfq13 (M.oks 1)))⟩
 refine .gq 3 ?_
 obtain rfl:=sj h
 exact .ret func60 ⟨.pt g14,(List.flatten [Fq17,Fq12,Fq13]),rfl,(up_opt (up_ptr up_Rs_idea_Idea)) _ _ _ _ (fun _ (z:Oks _ _)=>(ai (z.g 0 rfl) (ai (z.g 1 rfl) (z.g 2 rfl)))) (.inr ⟨(t2.1,t8),rfl,hs18⟩),(M.pm [] [[0,2,1]])⟩
def Je.l0:Nat→Li→Int→Int→Option (Int)
 | 0,_,_,_=>none
 | k+1,a0,x3_0,x4_0=>if (decide (x4_0<(a0.length:Int)))=true then (gd (0≤x4_0) (gd (x4_0<(a0.length:Int)) ((some (bor .u64 (shl .u64 x3_0 8) (U64 (rd a0 x4_0)):Int)).bind fun y5=>(Je.l0 k a0 y5 (I64 (x4_0+1)))))) else (some x3_0)
def Je.f (k:Nat) (a0:Li):Option (Int):=Je.l0 k a0 0 0
abbrev Je.R (r:Int) (w:World):Value→World→Prop:=fun v w'=>v= .int .u64 r∧Mem w w' (Gs [] [])
theorem Je.calls {a0:Li} {r:Int} (hr0:Rd w (.slice Ap0 np0 cp0) (nums .u8 a0)) (h:Je.f k a0=some r):Calls prog 189 #[(.slice Ap0 np0 cp0)] w (Ret (Je.R r w)):=by
 obtain rfl:=hr0.ln
 unfold Je.f at h
 refine calls_S func189 ?_
 have M:=Mem.r0 w
 refine .gq 12 ?_
 have l0: ∀k_≤k,∀(x3_0:Int) (x4_0:Int) {W:World} (M:Mem w W (Gs [] [])) (h:Je.l0 k_ a0 x3_0 x4_0=some r),RL 189 f189 (Je.R r w) [1,0,1,1] [(0,.slice Ap0 a0.length cp0),(3,.int .u64 x3_0),(4,.i x4_0)] W:=by
  refine loopI (by intros;rename_i h;simp [Je.l0] at h) fun k hk ih0 x3_0 x4_0 W M h=> ?_
  simp only [Je.l0] at h
  refine .gq 8 ?_
  rcases ift h with ⟨c1,h⟩ | ⟨c1,h⟩
  ·refine .kn 8 c1<| .gq 7 ?_
   obtain ⟨c3,h⟩:=ifd h
   obtain ⟨c4,h⟩:=ifd h
   obtain ⟨pq2,Cq2⟩:=(hr0.mono M.below).na c3 c4
   refine .ix Cq2<| .lc Cq2<| .gq 13 ?_
   let y5:Int:=bor .u64 (shl .u64 x3_0 8) (U64 (rd a0 x4_0))
   replace h:=bz (y:=y5) h rfl
   exact .at (ih0 k (by omega) y5 (I64 (x4_0+1)) (M.pm [] []) h)
  refine .kn 8 c1<| .gq 7 ?_
  obtain rfl:=sj h
  exact .ret func189 ⟨rfl,(M.pm [] [])⟩
 exact .at (l0 k k.le_refl 0 0 (M.pm [] []) h)
def K5.f (k:Nat) (a0:Li):Option (Int×Bool):=if ((a0.length:Int) != 4)=true then (some (0,false)) else ((Je.f k a0).bind fun t3=>(some (U32 (t3),true)))
theorem K5.calls {a0:Li} {r:Int×Bool} (hr0:Rd w (.slice Ap0 np0 cp0) (nums .u8 a0)) (h:K5.f k a0=some r):Calls prog 150 #[(.slice Ap0 np0 cp0)] w (Ret fun v w'=>v= .tuple #[.u r.1,.bool r.2]∧Mem w w' (Gs [] [])):=by
 obtain rfl:=hr0.ln
 unfold K5.f at h
 refine calls_S func150 ?_
 have M:=Mem.r0 w
 refine .gq 12 ?_
 rcases ift h with ⟨c1,h⟩ | ⟨c1,h⟩
 ·refine .kn 6 c1<| .gq 6 ?_
  obtain rfl:=sj h
  exact .ret func150 ⟨rfl,(M.pm [] [])⟩
 refine .kn 6 c1<| .gq 5 ?_
 obtain ⟨t3,ht3,h⟩:=bs h
 refine .ca (Je.calls (hr0.mono M.below) ht3) ?_
 rintro _ W2 ⟨rfl,M_⟩
 replace M:=M.cg M_
 refine .gq 4 ?_
 obtain rfl:=sj h
 exact .ret func150 ⟨rfl,(M.pm [] [])⟩
def Jh.l0:Nat→Li→Li→Int→Option Li
 | 0,_,_,_=>none
 | k+1,a0,x3_0,x4_0=>if (decide (x4_0≥0))=true then (gd (0≤x4_0) (gd (x4_0<(a0.length:Int)) (gd (x3_0.length+([rd a0 x4_0]:Li).length≤1000000000) (Jh.l0 k a0 (x3_0++([rd a0 x4_0]:Li)) (I64 (x4_0-1)))))) else (some x3_0)
def Jh.f (k:Nat) (a0:Li):Option Li:=gd (0≤(a0.length:Int)) (gd ((a0.length:Int)≤1000000000) (Jh.l0 k a0 (List.replicate 0 (0:Int)) (I64 ((a0.length:Int)-1))))
abbrev Jh.R (r:Li) (w:World):Value→World→Prop:=fun v w'=> ∃A0' c0',v= .slice A0' r.length c0'∧Mem w w' (Gs [⟨.slice A0' r.length c0',5,1,nums .u8 r⟩] [])
theorem Jh.calls {a0:Li} {r:Li} (hr0:Rd w (.slice Ap0 np0 cp0) (nums .u8 a0)) (h:Jh.f k a0=some r):Calls prog 151 #[(.slice Ap0 np0 cp0)] w (Ret (Jh.R r w)):=by
 obtain rfl:=hr0.ln
 unfold Jh.f at h
 refine calls_S func151 ?_
 have M:=Mem.r0 w
 refine .gq 8 ?_
 obtain ⟨c3,h⟩:=ifd h
 obtain ⟨c4,h⟩:=ifd h
 refine .mn 5 .u8 0 (a0.length:Int) M fun g2 W1 M=> .gq 12 ?_
 have l0: ∀k_≤k,∀(A3_0:Option Addr) (c3_0:Nat) (x3_0:Li) (x4_0:Int) {W:World} (M:Mem w W (Gs [⟨.slice A3_0 x3_0.length c3_0,5,1,nums .u8 x3_0⟩] [])) (h:Jh.l0 k_ a0 x3_0 x4_0=some r),RL 151 f151 (Jh.R r w) [1,1,0,1,0,0] [(0,.slice Ap0 a0.length cp0),(3,.slice A3_0 x3_0.length c3_0),(4,.i x4_0)] W:=by
  refine loopI (by intros;rename_i h;simp [Jh.l0] at h) fun k hk ih0 A3_0 c3_0 x3_0 x4_0 W M h=> ?_
  simp only [Jh.l0] at h
  refine .gq 6 ?_
  rcases ift h with ⟨c7,h⟩ | ⟨c7,h⟩
  ·refine .kn 12 c7<| .gq 8 ?_
   obtain ⟨c9,h⟩:=ifd h
   obtain ⟨c10,h⟩:=ifd h
   obtain ⟨pq8,Cq8⟩:=(hr0.mono M.below).na c9 c10
   refine .ix Cq8<| .lc Cq8<| .new 5 1 1 (nums .u8 [rd a0 x4_0]) M fun g11 W12 M=> ?_
   obtain ⟨c17,h⟩:=ifd h
   exact .an M 1 rfl (M.or 0) c17 fun A14 c15 W16 M=> .gq 9<| .at (ih0 k (by omega) A14 c15 (x3_0++([rd a0 x4_0]:Li)) (I64 (x4_0-1)) (M.pm [1] []) h)
  refine .kn 12 c7<| .gq 7 ?_
  obtain rfl:=sj h
  exact .ret func151 ⟨A3_0,c3_0,rfl,(M.pm [0] [])⟩
 exact .at (l0 k k.le_refl (pa g2) (((a0.length:Int):Int).toNat) (List.replicate 0 (0:Int)) (I64 ((a0.length:Int)-1)) (M.pm [0] []) h)
def K7.f (k:Nat) (a0:Li):Option (Int×Bool):=(Jh.f k a0).bind fun t2=>((K5.f k t2).bind fun t7=>(some (t7.1,t7.2)))
theorem K7.calls {a0:Li} {r:Int×Bool} (hr0:Rd w (.slice Ap0 np0 cp0) (nums .u8 a0)) (h:K7.f k a0=some r):Calls prog 99 #[(.slice Ap0 np0 cp0)] w (Ret fun v w'=>v= .tuple #[.u r.1,.bool r.2]∧Mem w w' (Gs [] [])):=by
 obtain rfl:=hr0.ln
 unfold K7.f at h
 refine calls_S func99 ?_
 have M:=Mem.r0 w
 refine .gq 8 ?_
 obtain ⟨t2,ht2,h⟩:=bs h
 refine .ca (Jh.calls (hr0.mono M.below) ht2) ?_
 rintro _ W1 ⟨A3,c4,rfl,M_⟩
 replace M:=M.cg M_
 obtain ⟨t7,ht7,h⟩:=bs h
 refine .ca (K5.calls (M.or 0) ht7) ?_
 rintro _ W6 ⟨rfl,M_⟩
 replace M:=M.cg M_
 refine .gq 5 ?_
 obtain rfl:=sj h
 exact .ret func99 ⟨rfl,(M.pm [] [])⟩
def Jb.f (k:Nat) (a0:Int) (a1:Int):Option (Int):=(Jf.f k a1 32).bind fun t2=>(gd (0≤(U64 (t2))) (gd (0≤(U64 (32-(U64 (t2))))) (some (bor .u32 (shlv .u32 a0 (U64 (t2))) (shrv .u32 a0 (U64 (32-(U64 (t2)))))))))
theorem Jb.calls {a0:Int} {a1:Int} {r:Int} (h:Jb.f k a0 a1=some r):Calls prog 102 #[.u a0,.i a1] w (Ret fun v w'=>v= .u r∧Mem w w' (Gs [] [])):=by
 unfold Jb.f at h
 refine calls_S func102 ?_
 have M:=Mem.r0 w
 refine .gq 7 ?_
 obtain ⟨t2,ht2,h⟩:=bs h
 refine .ca (Jf.calls ht2) ?_
 rintro _ W1 ⟨rfl,M_⟩
 replace M:=M.cg M_
 refine .gq 7 ?_
 obtain ⟨c3,h⟩:=ifd h
 refine .yt (yl_shl (kd:= .u32) a0 c3)<| .gq 3 ?_
 obtain ⟨c4,h⟩:=ifd h
 refine .yt (yl_shr (kd:= .u32) a0 c4)<| .gq 3 ?_
 obtain rfl:=sj h
 exact .ret func102 ⟨rfl,(M.pm [] [])⟩
def Vr.l0:Nat→Int→Int→Int→Int→Option (Int)
 | 0,_,_,_,_=>none
 | k+1,a2,x7_0,x8_0,x9_0=>if (x9_0==0)=true then (some (U8 (x7_0))) else (if (decide ((band .i64 x9_0 1)>0))=true then (if (decide ((shl .i64 x8_0 1)≥256))=true then ((some (band .i64 (bxor .i64 (shl .i64 x8_0 1) a2) 255:Int)).bind fun y4=>(Vr.l0 k a2 (bxor .i64 x7_0 x8_0) y4 (shr x9_0 1))) else (Vr.l0 k a2 (bxor .i64 x7_0 x8_0) (band .i64 (shl .i64 x8_0 1) 255) (shr x9_0 1))) else (if (decide ((shl .i64 x8_0 1)≥256))=true then ((some (band .i64 (bxor .i64 (shl .i64 x8_0 1) a2) 255:Int)).bind fun y6=>(Vr.l0 k a2 x7_0 y6 (shr x9_0 1))) else (Vr.l0 k a2 x7_0 (band .i64 (shl .i64 x8_0 1) 255) (shr x9_0 1))))
def Vr.f (k:Nat) (a0:Int) (a1:Int) (a2:Int):Option (Int):=Vr.l0 k a2 0 (I64 (a0)) (I64 (a1))
abbrev Vr.R (r:Int) (w:World):Value→World→Prop:=fun v w'=>v= .y r∧Mem w w' (Gs [] [])
theorem Vr.calls {a0:Int} {a1:Int} {a2:Int} {r:Int} (h:Vr.f k a0 a1 a2=some r):Calls prog 185 #[.y a0,.y a1,.i a2] w (Ret (Vr.R r w)):=by
 unfold Vr.f at h
 refine calls_S func185 ?_
 have M:=Mem.r0 w
 refine .gq 17 ?_
 have l0: ∀k_≤k,∀(x7_0:Int) (x8_0:Int) (x9_0:Int) {W:World} (M:Mem w W (Gs [] [])) (h:Vr.l0 k_ a2 x7_0 x8_0 x9_0=some r),RL 185 f185 (Vr.R r w) [1,0,1,1] [(2,.i a2),(7,.i x7_0),(8,.i x8_0),(9,.i x9_0)] W:=by
  refine loopI (by intros;rename_i h;simp [Vr.l0] at h) fun k hk ih0 x7_0 x8_0 x9_0 W M h=> ?_
  simp only [Vr.l0] at h
  refine .gq 6 ?_
  rcases ift h with ⟨c1,h⟩ | ⟨c1,h⟩
  ·refine .kn 15 c1<| .gq 7 ?_
   obtain rfl:=sj h
   exact .ret func185 ⟨rfl,(M.pm [] [])⟩
  refine .kn 15 c1<| .gq 9 ?_
  rcases ift h with ⟨c2,h⟩ | ⟨c2,h⟩
  ·refine .kn 20 c2<| .gq 22 ?_
   rcases ift h with ⟨c3,h⟩ | ⟨c3,h⟩
   ·refine .kn 29 c3<| .gq 16 ?_
    let y4:Int:=band .i64 (bxor .i64 (shl .i64 x8_0 1) a2) 255
    replace h:=bz (y:=y4) h rfl
    exact .at (ih0 k (by omega) (bxor .i64 x7_0 x8_0) y4 (shr x9_0 1) (M.pm [] []) h)
   exact .kn 29 c3<| .gq 11<| .at (ih0 k (by omega) (bxor .i64 x7_0 x8_0) (band .i64 (shl .i64 x8_0 1) 255) (shr x9_0 1) (M.pm [] []) h)
  refine .kn 20 c2<| .gq 17 ?_
  rcases ift h with ⟨c5,h⟩ | ⟨c5,h⟩
  ·refine .kn 29 c5<| .gq 16 ?_
   let y6:Int:=band .i64 (bxor .i64 (shl .i64 x8_0 1) a2) 255
   replace h:=bz (y:=y6) h rfl
   exact .at (ih0 k (by omega) x7_0 y6 (shr x9_0 1) (M.pm [] []) h)
  exact .kn 29 c5<| .gq 11<| .at (ih0 k (by omega) x7_0 (band .i64 (shl .i64 x8_0 1) 255) (shr x9_0 1) (M.pm [] []) h)
 exact .at (l0 k k.le_refl 0 (I64 (a0)) (I64 (a1)) (M.pm [] []) h)
mutual
def K0.l0:Nat→Li→Li→Int→Option (Int)
 | 0,_,_,_=>none
 | k+1,a0,x3_0,x16_0=>if (decide (x16_0<4))=true then (gd (0≤x16_0) (gd (x16_0<(4:Int)) ((some (((rdr ([]:Li) ([([1,164,85,135,90,88,219,158]:Li),([164,86,130,243,30,198,104,229]:Li),([2,161,252,193,71,174,61,25]:Li),([164,85,135,90,88,219,158,3]:Li)]:Lj) x16_0).length:Int):Int)).bind fun y25=>(K0.l1 k a0 x16_0 y25 x3_0 0)))) else ((K7.f k x3_0).bind fun t54=>(some t54.1))
def K0.l1:Nat→Li→Int→Int→Li→Int→Option (Int)
 | 0,_,_,_,_,_=>none
 | k+1,a0,x16_0,y25,x3_1,x22_1=>if (decide (x22_1<y25))=true then (gd (0≤x22_1) (gd (x22_1<((rdr ([]:Li) ([([1,164,85,135,90,88,219,158]:Li),([164,86,130,243,30,198,104,229]:Li),([2,161,252,193,71,174,61,25]:Li),([164,85,135,90,88,219,158,3]:Li)]:Lj) x16_0).length:Int)) ((some (rd (rdr ([]:Li) ([([1,164,85,135,90,88,219,158]:Li),([164,86,130,243,30,198,104,229]:Li),([2,161,252,193,71,174,61,25]:Li),([164,85,135,90,88,219,158,3]:Li)]:Lj) x16_0) x22_1:Int)).bind fun y30=>(gd (0≤x16_0) (gd (x16_0<(4:Int)) (gd (0≤x22_1) (gd (x22_1<(a0.length:Int)) ((Vr.f k y30 (rd a0 x22_1) 333).bind fun t38=>(gd (0≤x16_0) (gd (x16_0<(4:Int)) (K0.l1 k a0 x16_0 y25 (x3_1.set (x16_0:Int).toNat (bxor .u8 (rd x3_1 x16_0) t38)) (I64 (x22_1+1))))))))))))) else (K0.l0 k a0 x3_1 (I64 (x16_0+1)))
end
def K0.f (k:Nat) (a0:Li):Option (Int):=K0.l0 k a0 (List.replicate 4 (0:Int)) 0
abbrev K0.R (r:Int) (w:World):Value→World→Prop:=fun v w'=>v= .u r∧Mem w w' (Gs [] [])
theorem K0.calls {a0:Li} {r:Int} (hr0:Rd w (.slice Ap0 np0 cp0) (nums .u8 a0)) (h:K0.f k a0=some r):Calls prog 146 #[(.slice Ap0 np0 cp0)] w (Ret (K0.R r w)):=by
 obtain rfl:=hr0.ln
 unfold K0.f at h
 refine calls_S func146 ?_
 have M:=Mem.r0 w
 refine .gq 6<| .mn 5 .u8 4 4 M fun g2 W1 M=> .gq 5<| .new 5 1 8 (nums .u8 [1,164,85,135,90,88,219,158]) M fun g4 W5 M=> .new 5 1 8 (nums .u8 [164,86,130,243,30,198,104,229]) M fun g7 W8 M=> .new 5 1 8 (nums .u8 [2,161,252,193,71,174,61,25]) M fun g10 W11 M=> .new 5 1 8 (nums .u8 [164,85,135,90,88,219,158,3]) M fun g13 W14 M=> .gq 5 ?_
 obtain ⟨Fq16,hfq16,M⟩:=M.fs 3
 obtain ⟨Fq17,hfq17,M⟩:=M.fs 2
 obtain ⟨Fq18,hfq18,M⟩:=M.fs 1
 obtain ⟨Fq19,hfq19,M⟩:=M.fs 0
 have hqq20:Each2 ((rNums .u8) (andZ (Oks Fq16) (andZ (Oks Fq17) (andZ (Oks Fq18) (Oks Fq19))))) [.slice (pa g4) 8 8,.slice (pa g7) 8 8,.slice (pa g10) 8 8,.slice (pa g13) 8 8] ([([1,164,85,135,90,88,219,158]:Li),([164,86,130,243,30,198,104,229]:Li),([2,161,252,193,71,174,61,25]:Li),([164,85,135,90,88,219,158,3]:Li)]:Lj):=(.cons (rno (RdF.up hfq16 (fun _ z=>z.1)) (ai (M.oks 3) (ai (M.oks 2) (ai (M.oks 1) (M.oks 0))))) (.cons (rno (RdF.up hfq17 (fun _ z=>z.2.1)) (ai (M.oks 3) (ai (M.oks 2) (ai (M.oks 1) (M.oks 0))))) (.cons (rno (RdF.up hfq18 (fun _ z=>z.2.2.1)) (ai (M.oks 3) (ai (M.oks 2) (ai (M.oks 1) (M.oks 0))))) (.cons (rno (RdF.up hfq19 (fun _ z=>z.2.2.2)) (ai (M.oks 3) (ai (M.oks 2) (ai (M.oks 1) (M.oks 0))))) (Each2.nil _)))))
 have l0: ∀k_≤k,∀(x3_0:Li) (x16_0:Int) {W:World} (M:Mem w W (Gs [⟨.slice (pa g2) 4 4,5,1,nums .u8 x3_0⟩] [Fq19,Fq18,Fq17,Fq16])) (h:K0.l0 k_ a0 x3_0 x16_0=some r),RL 146 f146 (K0.R r w) [1,1,0,1,0,0] [(0,.slice Ap0 a0.length cp0),(3,.slice (pa g2) 4 4),(15,.agg ([.slice (pa g4) 8 8,.slice (pa g7) 8 8,.slice (pa g10) 8 8,.slice (pa g13) 8 8]).toArray),(16,.i x16_0)] W:=by
  refine loopI (by intros;rename_i h;simp [K0.l0] at h) fun k hk ih0 x3_0 x16_0 W M h=> ?_
  simp only [K0.l0] at h
  refine .gq 5 ?_
  rcases ift h with ⟨c21,h⟩ | ⟨c21,h⟩
  ·refine .kn 17 c21<| .gq 7 ?_
   obtain ⟨c23,h⟩:=ifd h
   obtain ⟨c24,h⟩:=ifd h
   obtain ⟨uq22,huq22,hvq22⟩:=Each2.at hqq20 ([]:Li) (i:=x16_0) c23 (by rw [show ([([1,164,85,135,90,88,219,158]:Li),([164,86,130,243,30,198,104,229]:Li),([2,161,252,193,71,174,61,25]:Li),([164,85,135,90,88,219,158,3]:Li)]:Lj).length=4 from (rfl:([([1,164,85,135,90,88,219,158]:Li),([164,86,130,243,30,198,104,229]:Li),([2,161,252,193,71,174,61,25]:Li),([164,85,135,90,88,219,158,3]:Li)]:Lj).length=4)];exact c24)
   obtain ⟨Aq22,cq22,rfl,hq22⟩:=hvq22
   refine .yt (yl_ixg (N:=4) (i:=x16_0) huq22 c23 c24)<| .gq 11 ?_
   let y25:Int:=((rdr ([]:Li) ([([1,164,85,135,90,88,219,158]:Li),([164,86,130,243,30,198,104,229]:Li),([2,161,252,193,71,174,61,25]:Li),([164,85,135,90,88,219,158,3]:Li)]:Lj) x16_0).length:Int)
   replace h:=bz (y:=y25) h rfl
   have l1: ∀k_≤k,∀(x3_1:Li) (x22_1:Int) {W:World} (M:Mem w W (Gs [⟨.slice (pa g2) 4 4,5,1,nums .u8 x3_1⟩] [Fq19,Fq18,Fq17,Fq16])) (h:K0.l1 k_ a0 x16_0 y25 x3_1 x22_1=some r),RL 146 f146 (K0.R r w) [1,1,0,1,0,0,1,1,0,0,1,1,0,0] [(0,.slice Ap0 a0.length cp0),(3,.slice (pa g2) 4 4),(4,.i x16_0),(15,.agg ([.slice (pa g4) 8 8,.slice (pa g7) 8 8,.slice (pa g10) 8 8,.slice (pa g13) 8 8]).toArray),(16,.i x16_0),(20,.slice Aq22 ((rdr ([]:Li) ([([1,164,85,135,90,88,219,158]:Li),([164,86,130,243,30,198,104,229]:Li),([2,161,252,193,71,174,61,25]:Li),([164,85,135,90,88,219,158,3]:Li)]:Lj) x16_0).length) cq22),(21,.i y25),(22,.i x22_1)] W:=by
    refine loopI (by intros;rename_i h;simp [K0.l1] at h) fun k hk ih1 x3_1 x22_1 W M h=> ?_
    simp only [K0.l1] at h
    refine .gq 5 ?_
    rcases ift h with ⟨c26,h⟩ | ⟨c26,h⟩
    ·refine .kn 23 c26<| .gq 7 ?_
     obtain ⟨c28,h⟩:=ifd h
     obtain ⟨c29,h⟩:=ifd h
     obtain ⟨pq27,Cq27⟩:=(hq22 _ (ai (M.oks 3) (ai (M.oks 2) (ai (M.oks 1) (M.oks 0))))).na c28 c29
     refine .ix Cq27<| .lc Cq27<| .gq 3 ?_
     let y30:Int:=rd (rdr ([]:Li) ([([1,164,85,135,90,88,219,158]:Li),([164,86,130,243,30,198,104,229]:Li),([2,161,252,193,71,174,61,25]:Li),([164,85,135,90,88,219,158,3]:Li)]:Lj) x16_0) x22_1
     replace h:=bz (y:=y30) h rfl
     refine .at (show RL 146 f146 (K0.R r w) [1,1,0,1,0,0,1,1,0,0,1,1,0,0,1,1,0,0,1] [(0,.slice Ap0 a0.length cp0),(3,.slice (pa g2) 4 4),(4,.i x16_0),(6,.i x22_1),(7,.y y30),(15,.agg ([.slice (pa g4) 8 8,.slice (pa g7) 8 8,.slice (pa g10) 8 8,.slice (pa g13) 8 8]).toArray),(16,.i x16_0),(20,.slice Aq22 ((rdr ([]:Li) ([([1,164,85,135,90,88,219,158]:Li),([164,86,130,243,30,198,104,229]:Li),([2,161,252,193,71,174,61,25]:Li),([164,85,135,90,88,219,158,3]:Li)]:Lj) x16_0).length) cq22),(21,.i y25),(22,.i x22_1)] _ from .dr [0] M fun W31 M=> ?_)
     refine .pz tr [0,1] ?_
     obtain ⟨c33,h⟩:=ifd h
     obtain ⟨c34,h⟩:=ifd h
     obtain ⟨pq32,Cq32⟩:=M.na 0 rfl c33 c34
     refine .ix tr 2 Cq32<| .pz tr [4,5,6] ?_
     obtain ⟨c36,h⟩:=ifd h
     obtain ⟨c37,h⟩:=ifd h
     obtain ⟨pq35,Cq35⟩:=(hr0.mono M.below).na c36 c37
     refine .ix tr 7 Cq35<| .ln tr 8 Cq35 (fun _ hs=>(Rd.kept hr0 (M.ks hs))) ?_
     obtain ⟨t38,ht38,h⟩:=bs h
     have J41:RJ 146 f146 (K0.R r w) [1,1,0,1,0,0,1,1,0,0,1,1,0,0,1,1,0,0,1] w [⟨.slice (pa g2) 4 4,5,1,nums .u8 x3_1⟩] [Fq19,Fq18,Fq17,Fq16] [0] ([0,1,2,4,5,6,7,8,3,9,10],[(0,.slice Ap0 a0.length cp0),(3,.slice (pa g2) 4 4),(4,.i x16_0),(6,.i x22_1),(7,.y y30),(15,.agg ([.slice (pa g4) 8 8,.slice (pa g7) 8 8,.slice (pa g10) 8 8,.slice (pa g13) 8 8]).toArray),(16,.i x16_0),(20,.slice Aq22 ((rdr ([]:Li) ([([1,164,85,135,90,88,219,158]:Li),([164,86,130,243,30,198,104,229]:Li),([2,161,252,193,71,174,61,25]:Li),([164,85,135,90,88,219,158,3]:Li)]:Lj) x16_0).length) cq22),(21,.i y25),(22,.i x22_1),(27,.slice (pa g2) 4 4),(28,.i x16_0),(29,.pointer (some pq32)),(30,.y (rd x3_1 x16_0)),(31,.y y30),(32,.slice Ap0 a0.length cp0),(33,.i x22_1),(34,.pointer (some pq35)),(35,.y (rd a0 x22_1)),(36,.y t38),(37,.y (bxor .u8 (rd x3_1 x16_0) t38))]):=by
      intro W42 M
      obtain ⟨c44,h⟩:=ifd h
      obtain ⟨c45,h⟩:=ifd h
      obtain ⟨pq43,Cq43⟩:=M.na 0 rfl c44 c45
      exact .ix tr 11 Cq43<| .a1 tr 12<| .sn (bxor .u8 (rd x3_1 x16_0) t38) Cq43 M 0 rfl fun W46 M=> .dn tr<| .gq 6<| .at (ih1 k (by omega) (x3_1.set (x16_0:Int).toNat (bxor .u8 (rd x3_1 x16_0) t38)) (I64 (x22_1+1)) (M.pm [0] [[0],[1],[2],[3]]) h)
     have J47:RJ 146 f146 (K0.R r w) [1,1,0,1,0,0,1,1,0,0,1,1,0,0,1,1,0,0,1] w [⟨.slice (pa g2) 4 4,5,1,nums .u8 x3_1⟩] [Fq19,Fq18,Fq17,Fq16] [0] ([0,1,2,4,5,6,7,8,9],[(0,.slice Ap0 a0.length cp0),(3,.slice (pa g2) 4 4),(4,.i x16_0),(6,.i x22_1),(7,.y y30),(15,.agg ([.slice (pa g4) 8 8,.slice (pa g7) 8 8,.slice (pa g10) 8 8,.slice (pa g13) 8 8]).toArray),(16,.i x16_0),(20,.slice Aq22 ((rdr ([]:Li) ([([1,164,85,135,90,88,219,158]:Li),([164,86,130,243,30,198,104,229]:Li),([2,161,252,193,71,174,61,25]:Li),([164,85,135,90,88,219,158,3]:Li)]:Lj) x16_0).length) cq22),(21,.i y25),(22,.i x22_1),(27,.slice (pa g2) 4 4),(28,.i x16_0),(29,.pointer (some pq32)),(31,.y y30),(32,.slice Ap0 a0.length cp0),(33,.i x22_1),(34,.pointer (some pq35)),(35,.y (rd a0 x22_1)),(36,.y t38)]):=by
      intro W48 M
      exact .a1 tr 3<| .ln Cq32 (M.or 0)<| .pz tr [10]<| .jn M [0] [[0],[1],[2],[3]] (J41) rfl rfl
     have J49:RJ 146 f146 (K0.R r w) [1,1,0,1,0,0,1,1,0,0,1,1,0,0,1,1,0,0,1] w [⟨.slice (pa g2) 4 4,5,1,nums .u8 x3_1⟩] [Fq19,Fq18,Fq17,Fq16] [0] ([0,1,2,4,5,6,7,8,3],[(0,.slice Ap0 a0.length cp0),(3,.slice (pa g2) 4 4),(4,.i x16_0),(6,.i x22_1),(7,.y y30),(15,.agg ([.slice (pa g4) 8 8,.slice (pa g7) 8 8,.slice (pa g10) 8 8,.slice (pa g13) 8 8]).toArray),(16,.i x16_0),(20,.slice Aq22 ((rdr ([]:Li) ([([1,164,85,135,90,88,219,158]:Li),([164,86,130,243,30,198,104,229]:Li),([2,161,252,193,71,174,61,25]:Li),([164,85,135,90,88,219,158,3]:Li)]:Lj) x16_0).length) cq22),(21,.i y25),(22,.i x22_1),(27,.slice (pa g2) 4 4),(28,.i x16_0),(29,.pointer (some pq32)),(30,.y (rd x3_1 x16_0)),(31,.y y30),(32,.slice Ap0 a0.length cp0),(33,.i x22_1),(34,.pointer (some pq35)),(35,.y (rd a0 x22_1))]):=by
      intro W50 M
      refine .a1 tr 9<| .ca (Vr.calls ht38) ?_
      rintro _ W51 ⟨rfl,M_⟩
      refine .ca M_ [0] ?_
      replace M:=M.cg M_
      exact .pz tr [10]<| .jn M [0] [[0],[1],[2],[3]] (J41) rfl rfl
     refine .a2 tr 3 9 ?_ ?_
     ·exact .ln Cq32 (M.or 0)<| .jn M [0] [[0],[1],[2],[3]] (J49) rfl rfl
     ·refine .ca (Vr.calls ht38) ?_
      rintro _ W52 ⟨rfl,M_⟩
      refine .ca M_ [0] ?_
      replace M:=M.cg M_
      exact .jn M [0] [[0],[1],[2],[3]] (J47) rfl rfl
    exact .kn 23 c26<| .gq 8<| .at (ih0 k (by omega) x3_1 (I64 (x16_0+1)) (M.pm [0] [[0],[1],[2],[3]]) h)
   exact .at (l1 k k.le_refl x3_0 0 (M.pm [0] [[0],[1],[2],[3]]) h)
  refine .kn 17 c21<| .gq 5 ?_
  obtain ⟨t54,ht54,h⟩:=bs h
  refine .ca (K7.calls (M.or 0) ht54) ?_
  rintro _ W53 ⟨rfl,M_⟩
  replace M:=M.cg M_
  refine .gq 11 ?_
  obtain rfl:=sj h
  exact .ret func146 ⟨rfl,(M.pm [] [])⟩
 exact .at (l0 k k.le_refl (List.replicate 4 (0:Int)) 0 (M.pm [0] [[0],[1],[2],[3]]) h)
def Ka.l0:Nat→Li→Li→Int→Int→Option Li
 | 0,_,_,_,_=>none
 | k+1,a0,x0_0,x2_0,x3_0=>if (decide (x2_0<x3_0))=true then (gd (0≤x3_0) (gd (x3_0<(a0.length:Int)) (gd (0≤x2_0) (gd (x2_0<(a0.length:Int)) (gd (0≤x2_0) (gd (x2_0<(a0.length:Int)) (gd (0≤x3_0) (gd (x3_0<(a0.length:Int)) (Ka.l0 k a0 ((x0_0.set (x2_0:Int).toNat (rd x0_0 x3_0)).set (x3_0:Int).toNat (rd x0_0 x2_0)) (I64 (x2_0+1)) (I64 (x3_0-1))))))))))) else (some x0_0)
def Ka.f (k:Nat) (a0:Li):Option Li:=Ka.l0 k a0 a0 0 (I64 ((a0.length:Int)-1))
abbrev Ka.R (Ap0:Option Addr) (cp0:Nat) (a0:Li) (r:Li) (w0:World) (FT:List Ent):Value→World→Prop:=fun v w'=>v= .tuple #[]∧Mem w0 w' (Gs [⟨.slice Ap0 a0.length cp0,150,1,nums .u32 r⟩] [FT])
theorem Ka.calls {a0:Li} {r:Li} (M0:Mem w0 w (Gs [⟨.slice Ap0 np0 cp0,150,1,nums .u32 a0⟩] [FT])) (h:Ka.f k a0=some r):Calls prog 147 #[(.slice Ap0 np0 cp0)] w (Ret (Ka.R Ap0 cp0 a0 r w0 FT)):=by
 obtain rfl:=(M0.or 0).ln
 unfold Ka.f at h
 refine calls_S func147 ?_
 have M:=M0
 refine .gq 10 ?_
 have l0: ∀k_≤k,∀(x0_0:Li) (x2_0:Int) (x3_0:Int) {W:World} (M:Mem w0 W (Gs [⟨.slice Ap0 a0.length cp0,150,1,nums .u32 x0_0⟩] [FT])) (h:Ka.l0 k_ a0 x0_0 x2_0 x3_0=some r),RL 147 f147 (Ka.R Ap0 cp0 a0 r w0 FT) [1,0,0] [(0,.slice Ap0 a0.length cp0),(2,.i x2_0),(3,.i x3_0)] W:=by
  refine loopI (by intros;rename_i h;simp [Ka.l0] at h) fun k hk ih0 x0_0 x2_0 x3_0 W M h=> ?_
  simp only [Ka.l0] at h
  refine .gq 7 ?_
  rcases ift h with ⟨c2,h⟩ | ⟨c2,h⟩
  ·refine .kn 9 c2<| .gq 4<| .at (show RL 147 f147 (Ka.R Ap0 cp0 a0 r w0 FT) [1,0,0,1,0,0] [(0,.slice Ap0 a0.length cp0),(2,.i x2_0),(3,.i x3_0)] _ from .dr [0] M fun W3 M=> ?_)
   refine .pz tr [0,1,2,3,4,5] ?_
   obtain ⟨c5,h⟩:=ifd h
   obtain ⟨c6,h⟩:=ifd h
   obtain ⟨pq4,Cq4⟩:=M.na 0 rfl c5 c6
   refine .ix tr 6 Cq4<| .pz tr [8,9] ?_
   obtain ⟨c8,h⟩:=ifd h
   obtain ⟨c9,h⟩:=ifd h
   obtain ⟨pq7,Cq7⟩:=M.na 0 rfl c8 c9
   refine .ix tr 10 Cq7 ?_
   have J10:RJ 147 f147 (Ka.R Ap0 cp0 a0 r w0 FT) [1,0,0,1,0,0] w0 [⟨.slice Ap0 a0.length cp0,150,1,nums .u32 x0_0⟩] [FT] [0] ([0,1,2,3,4,5,6,8,9,10,7,11],[(0,.slice Ap0 a0.length cp0),(2,.i x2_0),(3,.i x3_0),(14,.slice Ap0 a0.length cp0),(15,.i x2_0),(16,.slice Ap0 a0.length cp0),(17,.i x3_0),(18,.slice Ap0 a0.length cp0),(19,.i x3_0),(20,.pointer (some pq4)),(21,.u (rd x0_0 x3_0)),(22,.slice Ap0 a0.length cp0),(23,.i x2_0),(24,.pointer (some pq7)),(25,.u (rd x0_0 x2_0))]):=by
    intro W11 M
    obtain ⟨c13,h⟩:=ifd h
    obtain ⟨c14,h⟩:=ifd h
    obtain ⟨pq12,Cq12⟩:=M.na 0 rfl c13 c14
    refine .ix tr 12 Cq12<| .a1 tr 13<| .sn (rd x0_0 x3_0) Cq12 M 0 rfl fun W15 M=> ?_
    obtain ⟨c17,h⟩:=ifd h
    obtain ⟨c18,h⟩:=ifd h
    obtain ⟨pq16,Cq16⟩:=M.na 0 rfl c17 c18
    exact .ix tr 14 Cq16<| .a1 tr 15<| .sn (rd x0_0 x2_0) Cq16 M 0 rfl fun W19 M=> .dn tr<| .gq 10<| .at (ih0 k (by omega) ((x0_0.set (x2_0:Int).toNat (rd x0_0 x3_0)).set (x3_0:Int).toNat (rd x0_0 x2_0)) (I64 (x2_0+1)) (I64 (x3_0-1)) (M.pm [0] [[0]]) h)
   have J20:RJ 147 f147 (Ka.R Ap0 cp0 a0 r w0 FT) [1,0,0,1,0,0] w0 [⟨.slice Ap0 a0.length cp0,150,1,nums .u32 x0_0⟩] [FT] [0] ([0,1,2,3,4,5,6,8,9,10,11],[(0,.slice Ap0 a0.length cp0),(2,.i x2_0),(3,.i x3_0),(14,.slice Ap0 a0.length cp0),(15,.i x2_0),(16,.slice Ap0 a0.length cp0),(17,.i x3_0),(18,.slice Ap0 a0.length cp0),(19,.i x3_0),(20,.pointer (some pq4)),(22,.slice Ap0 a0.length cp0),(23,.i x2_0),(24,.pointer (some pq7)),(25,.u (rd x0_0 x2_0))]):=by
    intro W21 M
    exact .a1 tr 7<| .ln Cq4 (M.or 0)<| .jn M [0] [[0]] (J10) rfl rfl
   have J22:RJ 147 f147 (Ka.R Ap0 cp0 a0 r w0 FT) [1,0,0,1,0,0] w0 [⟨.slice Ap0 a0.length cp0,150,1,nums .u32 x0_0⟩] [FT] [0] ([0,1,2,3,4,5,6,8,9,10,7],[(0,.slice Ap0 a0.length cp0),(2,.i x2_0),(3,.i x3_0),(14,.slice Ap0 a0.length cp0),(15,.i x2_0),(16,.slice Ap0 a0.length cp0),(17,.i x3_0),(18,.slice Ap0 a0.length cp0),(19,.i x3_0),(20,.pointer (some pq4)),(21,.u (rd x0_0 x3_0)),(22,.slice Ap0 a0.length cp0),(23,.i x2_0),(24,.pointer (some pq7))]):=by
    intro W23 M
    exact .a1 tr 11<| .ln Cq7 (M.or 0)<| .jn M [0] [[0]] (J10) rfl rfl
   refine .a2 tr 7 11 ?_ ?_
   ·exact .ln Cq4 (M.or 0)<| .jn M [0] [[0]] (J22) rfl rfl
   ·exact .ln Cq7 (M.or 0)<| .jn M [0] [[0]] (J20) rfl rfl
  refine .kn 9 c2<| .gq 2 ?_
  obtain rfl:=sj h
  exact .ret func147 ⟨rfl,(M.pm [0] [[0]])⟩
 exact .at (l0 k k.le_refl a0 0 (I64 ((a0.length:Int)-1)) (M.pm [0] [[0]]) h)
def Jg.l0:Nat→Int→Int→Li→Int→Option Li
 | 0,_,_,_,_=>none
 | k+1,a1,x0_0,x5_0,x6_0=>if (decide (x6_0>0))=true then (gd (0≤(I64 (x6_0-1))) (gd ((I64 (x6_0-1))<((a1:Int).toNat:Int)) (Jg.l0 k a1 (shr x0_0 8) (x5_0.set (I64 (x6_0-1):Int).toNat (U8 (x0_0))) (I64 (x6_0-1))))) else (some x5_0)
def Jg.f (k:Nat) (a0:Int) (a1:Int):Option Li:=gd (0≤a1) (gd (a1≤1000000000) (Jg.l0 k a1 a0 (List.replicate ((a1:Int).toNat) (0:Int)) a1))
abbrev Jg.R (r:Li) (w:World):Value→World→Prop:=fun v w'=> ∃A0' c0',v= .slice A0' r.length c0'∧Mem w w' (Gs [⟨.slice A0' r.length c0',5,1,nums .u8 r⟩] [])
theorem Jg.calls {a0:Int} {a1:Int} {r:Li} (h:Jg.f k a0 a1=some r):Calls prog 190 #[.int .u64 a0,.i a1] w (Ret (Jg.R r w)):=by
 unfold Jg.f at h
 refine calls_S func190 ?_
 have M:=Mem.r0 w
 refine .gq 8 ?_
 obtain ⟨c3,h⟩:=ifd h
 obtain ⟨c4,h⟩:=ifd h
 refine .mn 5 .u8 a1 a1 M fun g2 W1 M=> .gq 9 ?_
 have l0: ∀k_≤k,∀(x0_0:Int) (x5_0:Li) (x6_0:Int) {W:World} (M:Mem w W (Gs [⟨.slice (pa g2) ((a1:Int).toNat) ((a1:Int).toNat),5,1,nums .u8 x5_0⟩] [])) (h:Jg.l0 k_ a1 x0_0 x5_0 x6_0=some r),RL 190 f190 (Jg.R r w) [1,0,1,1,1] [(0,.int .u64 x0_0),(5,.slice (pa g2) ((a1:Int).toNat) ((a1:Int).toNat)),(6,.i x6_0)] W:=by
  refine loopI (by intros;rename_i h;simp [Jg.l0] at h) fun k hk ih0 x0_0 x5_0 x6_0 W M h=> ?_
  simp only [Jg.l0] at h
  refine .gq 6 ?_
  rcases ift h with ⟨c6,h⟩ | ⟨c6,h⟩
  ·refine .kn 11 c6<| .gq 13 ?_
   obtain ⟨c8,h⟩:=ifd h
   obtain ⟨c9,h⟩:=ifd h
   obtain ⟨pq7,Cq7⟩:=M.na 0 rfl c8 c9
   exact .ix Cq7<| .sn (U8 (x0_0)) Cq7 M 0 rfl fun W10 M=> .gq 10<| .at (ih0 k (by omega) (shr x0_0 8) (x5_0.set (I64 (x6_0-1):Int).toNat (U8 (x0_0))) (I64 (x6_0-1)) (M.pm [0] []) h)
  refine .kn 11 c6<| .gq 7 ?_
  obtain rfl:=sj h
  have hn0_:=(M.or 0).ln
  exact .ret (v:= .slice (pa g2) ((a1:Int).toNat) ((a1:Int).toNat)) func190 ⟨(pa g2),(a1:Int).toNat,(by rw [hn0_]),by rw [hn0_];exact (M.pm [0] [])⟩
 exact .at (l0 k k.le_refl a0 (List.replicate ((a1:Int).toNat) (0:Int)) a1 (M.pm [0] []) h)
def K8.f (k:Nat) (a0:Int):Option Li:=(Jg.f k (U64 (a0)) 4).bind fun t2=>(some t2)
theorem K8.calls {a0:Int} {r:Li} (h:K8.f k a0=some r):Calls prog 153 #[.u a0] w (Ret fun v w'=> ∃A0' c0',v= .slice A0' r.length c0'∧Mem w w' (Gs [⟨.slice A0' r.length c0',5,1,nums .u8 r⟩] [])):=by
 unfold K8.f at h
 refine calls_S func153 ?_
 have M:=Mem.r0 w
 refine .gq 8 ?_
 obtain ⟨t2,ht2,h⟩:=bs h
 refine .ca (Jg.calls ht2) ?_
 rintro _ W1 ⟨A3,c4,rfl,M_⟩
 replace M:=M.cg M_
 refine .gq 2 ?_
 obtain rfl:=sj h
 exact .ret func153 ⟨A3,c4,rfl,(M.pm [0] [])⟩
def Ja.f (k:Nat) (a0:Int):Option Li:=(K8.f k a0).bind fun t2=>((Jh.f k t2).bind fun t7=>(some t7))
theorem Ja.calls {a0:Int} {r:Li} (h:Ja.f k a0=some r):Calls prog 103 #[.u a0] w (Ret fun v w'=> ∃A0' c0',v= .slice A0' r.length c0'∧Mem w w' (Gs [⟨.slice A0' r.length c0',5,1,nums .u8 r⟩] [])):=by
 unfold Ja.f at h
 refine calls_S func103 ?_
 have M:=Mem.r0 w
 refine .gq 7 ?_
 obtain ⟨t2,ht2,h⟩:=bs h
 refine .ca (K8.calls ht2) ?_
 rintro _ W1 ⟨A3,c4,rfl,M_⟩
 replace M:=M.cg M_
 obtain ⟨t7,ht7,h⟩:=bs h
 refine .ca (Jh.calls (M.or 0) ht7) ?_
 rintro _ W6 ⟨A8,c9,rfl,M_⟩
 replace M:=M.cg M_
 refine .gq 2 ?_
 obtain rfl:=sj h
 exact .ret func103 ⟨A8,c9,rfl,(M.pm [0] [])⟩
def Jd.l0:Nat→Li→Li→Li→Int→Option (Li×Bool)
 | 0,_,_,_,_=>none
 | k+1,a0,a1,x6_0,x18_0=>if (decide (x18_0<(a0.length:Int)))=true then (gd (0≤x18_0) (gd (x18_0<(a0.length:Int)) (gd (0≤x18_0) (gd (x18_0<(a1.length:Int)) (gd (0≤x18_0) (gd (x18_0<(((a0.length:Int)).toNat:Int)) (Jd.l0 k a0 a1 (x6_0.set (x18_0:Int).toNat (bxor .u8 (rd a0 x18_0) (rd a1 x18_0))) (I64 (x18_0+1))))))))) else (some (x6_0,true))
def Jd.f (k:Nat) (a0:Li) (a1:Li):Option (Li×Bool):=if ((a0.length:Int) != (a1.length:Int))=true then (some (([]:Li),false)) else (gd (0≤(a0.length:Int)) (gd ((a0.length:Int)≤1000000000) (Jd.l0 k a0 a1 (List.replicate (((a0.length:Int)).toNat) (0:Int)) 0)))
abbrev Jd.R (r:Li×Bool) (w:World):Value→World→Prop:=fun v w'=> ∃A0' c0',v= .tuple #[.slice A0' r.1.length c0',.bool r.2]∧Mem w w' (Gs [⟨.slice A0' r.1.length c0',5,1,nums .u8 r.1⟩] [])
theorem Jd.calls {a0:Li} {a1:Li} {r:Li×Bool} (hr0:Rd w (.slice Ap0 np0 cp0) (nums .u8 a0)) (hr1:Rd w (.slice Ap1 np1 cp1) (nums .u8 a1)) (h:Jd.f k a0 a1=some r):Calls prog 108 #[(.slice Ap0 np0 cp0),(.slice Ap1 np1 cp1)] w (Ret (Jd.R r w)):=by
 obtain rfl:=hr0.ln
 obtain rfl:=hr1.ln
 unfold Jd.f at h
 refine calls_S func108 ?_
 have M:=Mem.r0 w
 refine .gq 14 ?_
 rcases ift h with ⟨c1,h⟩ | ⟨c1,h⟩
 ·refine .kn 12 c1<| .gq 6 ?_
  replace M:=M.n1 5
  obtain rfl:=sj h
  exact .ret func108 ⟨none,0,rfl,(M.pm [0] [])⟩
 refine .kn 12 c1<| .gq 6 ?_
 obtain ⟨c5,h⟩:=ifd h
 obtain ⟨c6,h⟩:=ifd h
 refine .mn 5 .u8 (a0.length:Int) (a0.length:Int) M fun g4 W3 M=> .gq 11 ?_
 have l0: ∀k_≤k,∀(x6_0:Li) (x18_0:Int) {W:World} (M:Mem w W (Gs [⟨.slice (pa g4) (((a0.length:Int)).toNat) (((a0.length:Int):Int).toNat),5,1,nums .u8 x6_0⟩] [])) (h:Jd.l0 k_ a0 a1 x6_0 x18_0=some r),RL 108 f108 (Jd.R r w) [1,1,1,0,1,0,0] [(0,.slice Ap0 a0.length cp0),(1,.slice Ap1 a1.length cp1),(6,.slice (pa g4) (((a0.length:Int)).toNat) (((a0.length:Int):Int).toNat)),(17,.i (a0.length:Int)),(18,.i x18_0)] W:=by
  refine loopI (by intros;rename_i h;simp [Jd.l0] at h) fun k hk ih0 x6_0 x18_0 W M h=> ?_
  simp only [Jd.l0] at h
  refine .gq 5 ?_
  rcases ift h with ⟨c8,h⟩ | ⟨c8,h⟩
  ·refine .kn 19 c8<| .gq 9<| .at (show RL 108 f108 (Jd.R r w) [1,1,1,0,1,0,0,1,1,0,0,1] [(0,.slice Ap0 a0.length cp0),(1,.slice Ap1 a1.length cp1),(6,.slice (pa g4) (((a0.length:Int)).toNat) (((a0.length:Int):Int).toNat)),(7,.i x18_0),(17,.i (a0.length:Int)),(18,.i x18_0)] _ from .dr [0] M fun W9 M=> ?_)
   refine .pz tr [0,1,2,3] ?_
   obtain ⟨c11,h⟩:=ifd h
   obtain ⟨c12,h⟩:=ifd h
   obtain ⟨pq10,Cq10⟩:=(hr0.mono M.below).na c11 c12
   refine .ix tr 4 Cq10<| .ln tr 5 Cq10 (fun _ hs=>(Rd.kept hr0 (M.ks hs)))<| .pz tr [6,7] ?_
   obtain ⟨c14,h⟩:=ifd h
   obtain ⟨c15,h⟩:=ifd h
   obtain ⟨pq13,Cq13⟩:=(hr1.mono M.below).na c14 c15
   refine .ix tr 8 Cq13<| .ln tr 9 Cq13 (fun _ hs=>(Rd.kept hr1 (M.ks hs)))<| .pz tr [10] ?_
   obtain ⟨c17,h⟩:=ifd h
   obtain ⟨c18,h⟩:=ifd h
   obtain ⟨pq16,Cq16⟩:=M.na 0 rfl c17 c18
   exact .ix tr 11 Cq16<| .a1 tr 12<| .sn (bxor .u8 (rd a0 x18_0) (rd a1 x18_0)) Cq16 M 0 rfl fun W19 M=> .dn tr<| .gq 6<| .at (ih0 k (by omega) (x6_0.set (x18_0:Int).toNat (bxor .u8 (rd a0 x18_0) (rd a1 x18_0))) (I64 (x18_0+1)) (M.pm [0] []) h)
  refine .kn 19 c8<| .gq 8 ?_
  obtain rfl:=sj h
  have hn0_:=(M.or 0).ln
  exact .ret (v:= .tuple #[.slice (pa g4) (((a0.length:Int)).toNat) (((a0.length:Int):Int).toNat),.bool true]) func108 ⟨(pa g4),((a0.length:Int):Int).toNat,(by rw [hn0_]),by rw [hn0_];exact (M.pm [0] [])⟩
 exact .at (l0 k k.le_refl (List.replicate (((a0.length:Int)).toNat) (0:Int)) 0 (M.pm [0] []) h)
def K2.f (k:Nat) (a0:Int):Option Li:=if (a0==4)=true then (some ([1,0,0,1]:Li)) else (if (a0==3)=true then (some ([1,1,0,0]:Li)) else (if (a0==2)=true then (some ([0,1,0,1]:Li)) else (if (a0==1)=true then (some ([0,0,1,1]:Li)) else (some ([1,0,1,0]:Li)))))
theorem K2.calls {a0:Int} {r:Li} (h:K2.f k a0=some r):Calls prog 186 #[.i a0] w (Ret fun v w'=>v= .agg (nums .i64 r).toArray∧r.length=4∧Mem w w' (Gs [] [])):=by
 unfold K2.f at h
 refine calls_S func186 ?_
 have M:=Mem.r0 w
 refine .gq 2<| .nw 231 (nums .i64 (List.replicate 4 (0:Int))) M fun g1 W2 M=> .gq 12 ?_
 rcases ift h with ⟨c4,h⟩ | ⟨c4,h⟩
 ·refine .kn 4 c4<| .gq 4<| .sw (new:=nums .i64 ([1,0,0,1]:Li)) M 0 rfl (all_nums' List.length_replicate) (all_nums' rfl) (all_nums _ _) fun W5 M=> .gq 1 ?_
  obtain rfl:=sj h
  exact .rc 2 231 4 func186 M 0 rfl (all_nums' rfl) ⟨rfl,rfl,(M.pm [] [])⟩
 refine .kn 4 c4<| .gq 6 ?_
 rcases ift h with ⟨c6,h⟩ | ⟨c6,h⟩
 ·refine .kn 7 c6<| .gq 4<| .sw (new:=nums .i64 ([1,1,0,0]:Li)) M 0 rfl (all_nums' List.length_replicate) (all_nums' rfl) (all_nums _ _) fun W7 M=> .gq 1 ?_
  obtain rfl:=sj h
  exact .rc 2 231 4 func186 M 0 rfl (all_nums' rfl) ⟨rfl,rfl,(M.pm [] [])⟩
 refine .kn 7 c6<| .gq 6 ?_
 rcases ift h with ⟨c8,h⟩ | ⟨c8,h⟩
 ·refine .kn 10 c8<| .gq 4<| .sw (new:=nums .i64 ([0,1,0,1]:Li)) M 0 rfl (all_nums' List.length_replicate) (all_nums' rfl) (all_nums _ _) fun W9 M=> .gq 1 ?_
  obtain rfl:=sj h
  exact .rc 2 231 4 func186 M 0 rfl (all_nums' rfl) ⟨rfl,rfl,(M.pm [] [])⟩
 refine .kn 10 c8<| .gq 6 ?_
 rcases ift h with ⟨c10,h⟩ | ⟨c10,h⟩
 ·refine .kn 13 c10<| .gq 4<| .sw (new:=nums .i64 ([0,0,1,1]:Li)) M 0 rfl (all_nums' List.length_replicate) (all_nums' rfl) (all_nums _ _) fun W11 M=> .gq 1 ?_
  obtain rfl:=sj h
  exact .rc 2 231 4 func186 M 0 rfl (all_nums' rfl) ⟨rfl,rfl,(M.pm [] [])⟩
 refine .kn 13 c10<| .gq 6<| .sw (new:=nums .i64 ([1,0,1,0]:Li)) M 0 rfl (all_nums' List.length_replicate) (all_nums' rfl) (all_nums _ _) fun W12 M=> .gq 1 ?_
 obtain rfl:=sj h
 exact .rc 2 231 4 func186 M 0 rfl (all_nums' rfl) ⟨rfl,rfl,(M.pm [] [])⟩
def K3.f (k:Nat) (a0:Int):Option (List ByteArray):=if (a0==0)=true then (some ([(⟨#[56,49,55,68,54,70,51,50,48,66,53,57,69,67,65,52]⟩:ByteArray),(⟨#[69,67,66,56,49,50,51,53,70,52,65,54,55,48,57,68]⟩:ByteArray),(⟨#[66,65,53,69,54,68,57,48,67,56,70,51,50,52,55,49]⟩:ByteArray),(⟨#[68,55,70,52,49,50,54,69,57,66,51,48,56,53,67,65]⟩:ByteArray)]:List ByteArray)) else (some ([(⟨#[50,56,66,68,70,55,54,69,51,49,57,52,48,65,67,53]⟩:ByteArray),(⟨#[49,69,50,66,52,67,51,55,54,68,65,53,70,57,48,56]⟩:ByteArray),(⟨#[52,67,55,53,49,54,57,65,48,69,68,56,50,66,51,70]⟩:ByteArray),(⟨#[66,57,53,49,67,51,68,69,54,52,55,70,50,48,56,65]⟩:ByteArray)]:List ByteArray))
theorem K3.calls {a0:Int} {r:List ByteArray} (h:K3.f k a0=some r):Calls prog 214 #[.i a0] w (Ret fun v w'=>v= .agg (strs r).toArray∧r.length=4∧Mem w w' (Gs [] [])):=by
 unfold K3.f at h
 refine calls_S func214 ?_
 have M:=Mem.r0 w
 refine .gq 2<| .nw 254 (strs (List.replicate 4 ByteArray.empty)) M fun g1 W2 M=> .gq 7 ?_
 rcases ift h with ⟨c4,h⟩ | ⟨c4,h⟩
 ·refine .kn 4 c4<| .gq 4<| .sw (new:=strs ([(⟨#[56,49,55,68,54,70,51,50,48,66,53,57,69,67,65,52]⟩:ByteArray),(⟨#[69,67,66,56,49,50,51,53,70,52,65,54,55,48,57,68]⟩:ByteArray),(⟨#[66,65,53,69,54,68,57,48,67,56,70,51,50,52,55,49]⟩:ByteArray),(⟨#[68,55,70,52,49,50,54,69,57,66,51,48,56,53,67,65]⟩:ByteArray)]:List ByteArray)) M 0 rfl (all_strs' List.length_replicate) (all_strs' rfl) (all_strs _) fun W5 M=> .gq 1 ?_
  obtain rfl:=sj h
  exact .rc 2 254 4 func214 M 0 rfl (all_strs' rfl) ⟨rfl,rfl,(M.pm [] [])⟩
 refine .kn 4 c4<| .gq 5<| .sw (new:=strs ([(⟨#[50,56,66,68,70,55,54,69,51,49,57,52,48,65,67,53]⟩:ByteArray),(⟨#[49,69,50,66,52,67,51,55,54,68,65,53,70,57,48,56]⟩:ByteArray),(⟨#[52,67,55,53,49,54,57,65,48,69,68,56,50,66,51,70]⟩:ByteArray),(⟨#[66,57,53,49,67,51,68,69,54,52,55,70,50,48,56,65]⟩:ByteArray)]:List ByteArray)) M 0 rfl (all_strs' List.length_replicate) (all_strs' rfl) (all_strs _) fun W6 M=> .gq 1 ?_
 obtain rfl:=sj h
 exact .rc 2 254 4 func214 M 0 rfl (all_strs' rfl) ⟨rfl,rfl,(M.pm [] [])⟩
def K4.f (k:Nat) (a0:Int):Option (Int):=if (decide (a0≥65))=true then (some (U8 ((U8 (a0-65))+10))) else (some (U8 (a0-48)))
theorem K4.calls {a0:Int} {r:Int} (h:K4.f k a0=some r):Calls prog 215 #[.y a0] w (Ret fun v w'=>v= .y r∧Mem w w' (Gs [] [])):=by
 unfold K4.f at h
 refine calls_S func215 ?_
 have M:=Mem.r0 w
 refine .gq 10 ?_
 rcases ift h with ⟨c1,h⟩ | ⟨c1,h⟩
 ·refine .kn 4 c1<| .gq 8 ?_
  obtain rfl:=sj h
  exact .ret func215 ⟨rfl,(M.pm [] [])⟩
 refine .kn 4 c1<| .gq 8 ?_
 obtain rfl:=sj h
 exact .ret func215 ⟨rfl,(M.pm [] [])⟩
def Kw.l0:Nat→(List ByteArray)→Int→Int→Int→Option (Int)
 | 0,_,_,_,_=>none
 | k+1,t2,x6_0,x7_0,x8_0=>if (decide (x8_0<4))=true then ((some (bxor .u8 (bxor .u8 x6_0 (bor .u8 (shr x7_0 1) (band .u8 (shl .u8 x7_0 3) 15))) (band .u8 (shl .u8 x6_0 3) 15):Int)).bind fun y8=>(gd (0≤x8_0) (gd (x8_0<(4:Int)) (gd (0≤(bxor .u8 x6_0 x7_0)) (gd ((bxor .u8 x6_0 x7_0)<((rds t2 x8_0).size:Int)) (gd (0≤(I64 (x8_0+1))) (gd ((I64 (x8_0+1))<(4:Int)) (gd (0≤y8) (gd (y8<((rds t2 (I64 (x8_0+1))).size:Int)) ((K4.f k (sb (rds t2 x8_0) (bxor .u8 x6_0 x7_0))).bind fun t21=>((K4.f k (sb (rds t2 (I64 (x8_0+1))) y8)).bind fun t23=>(Kw.l0 k t2 t21 t23 (I64 (x8_0+2)))))))))))))) else (some (bor .u8 (shl .u8 x7_0 4) x6_0))
def Kw.f (k:Nat) (a0:Int) (a1:Int):Option (Int):=(K3.f k a0).bind fun t2=>(Kw.l0 k t2 (shr a1 4) (band .u8 a1 15) 0)
abbrev Kw.R (r:Int) (w:World):Value→World→Prop:=fun v w'=>v= .y r∧Mem w w' (Gs [] [])
theorem Kw.calls {a0:Int} {a1:Int} {r:Int} (h:Kw.f k a0 a1=some r):Calls prog 187 #[.i a0,.y a1] w (Ret (Kw.R r w)):=by
 unfold Kw.f at h
 refine calls_S func187 ?_
 have M:=Mem.r0 w
 refine .gq 7 ?_
 obtain ⟨t2,ht2,h⟩:=bs h
 refine .ca (K3.calls ht2) ?_
 rintro _ W1 ⟨rfl,hNt2_0,M_⟩
 replace M:=M.cg M_
 refine .nw 254 (strs (List.replicate 4 ByteArray.empty)) M fun g3 W4 M=> .sw (new:=strs t2) M 0 rfl (all_strs' List.length_replicate) (all_strs' hNt2_0) (all_strs _) fun W6 M=> .gq 17 ?_
 have l0: ∀k_≤k,∀(x6_0:Int) (x7_0:Int) (x8_0:Int) {W:World} (M:Mem w W (Gs [⟨.pt g3,254,0,strs t2⟩] [])) (h:Kw.l0 k_ t2 x6_0 x7_0 x8_0=some r),RL 187 f187 (Kw.R r w) [1,1,1,0,1,0,0] [(5,.pt g3),(6,.y x6_0),(7,.y x7_0),(8,.i x8_0)] W:=by
  refine loopI (by intros;rename_i h;simp [Kw.l0] at h) fun k hk ih0 x6_0 x7_0 x8_0 W M h=> ?_
  simp only [Kw.l0] at h
  refine .gq 6 ?_
  rcases ift h with ⟨c7,h⟩ | ⟨c7,h⟩
  ·refine .kn 18 c7<| .gq 24 ?_
   let y8:Int:=bxor .u8 (bxor .u8 x6_0 (bor .u8 (shr x7_0 1) (band .u8 (shl .u8 x7_0 3) 15))) (band .u8 (shl .u8 x6_0 3) 15)
   replace h:=bz (y:=y8) h rfl
   refine .at (show RL 187 f187 (Kw.R r w) [1,1,1,0,1,0,0,1,0,0,1] [(5,.pt g3),(8,.i x8_0),(9,.y (bxor .u8 x6_0 x7_0)),(10,.y y8)] _ from .dr [] M fun W9 M=> ?_)
   refine .pz tr [0] ?_
   obtain ⟨c11,h⟩:=ifd h
   obtain ⟨c12,h⟩:=ifd h
   obtain ⟨pq10,Cq10⟩:=M.sv' 0 rfl (N:=4) hNt2_0 c11 c12
   refine .ia tr 1 Cq10<| .vs tr 2 Cq10 M 0 rfl hNt2_0<| .pz tr [3] ?_
   obtain ⟨c13,h⟩:=ifd h
   obtain ⟨c14,h⟩:=ifd h
   refine .yt tr 4 (yl_ixs (rds t2 x8_0) c13 c14)<| .pz tr [6,7] ?_
   obtain ⟨c16,h⟩:=ifd h
   obtain ⟨c17,h⟩:=ifd h
   obtain ⟨pq15,Cq15⟩:=M.sv' 0 rfl (N:=4) hNt2_0 c16 c17
   refine .ia tr 8 Cq15<| .vs tr 9 Cq15 M 0 rfl hNt2_0<| .pz tr [10] ?_
   obtain ⟨c18,h⟩:=ifd h
   obtain ⟨c19,h⟩:=ifd h
   refine .yt tr 11 (yl_ixs (rds t2 (I64 (x8_0+1))) c18 c19) ?_
   obtain ⟨t21,ht21,h⟩:=bs h
   refine .a1 tr 5<| .ca (K4.calls ht21) ?_
   rintro _ W20 ⟨rfl,M_⟩
   refine .ca M_ [] ?_
   replace M:=M.cg M_
   obtain ⟨t23,ht23,h⟩:=bs h
   refine .a1 tr 12<| .ca (K4.calls ht23) ?_
   rintro _ W22 ⟨rfl,M_⟩
   refine .ca M_ [] ?_
   replace M:=M.cg M_
   exact .pz tr [13,14]<| .dn tr<| .gq 7<| .at (ih0 k (by omega) t21 t23 (I64 (x8_0+2)) (M.pm [0] []) h)
  refine .kn 18 c7<| .gq 10 ?_
  obtain rfl:=sj h
  exact .ret func187 ⟨rfl,(M.pm [] [])⟩
 exact .at (l0 k k.le_refl (shr a1 4) (band .u8 a1 15) 0 (M.pm [0] []) h)
def K1.f (k:Nat):Option Li:=some ([1,239,91,91,91,239,239,1,239,91,1,239,239,1,239,91]:Li)
theorem K1.calls {r:Li} (h:K1.f k=some r):Calls prog 188 #[] w (Ret fun v w'=>v= .agg (nums .u8 r).toArray∧r.length=16∧Mem w w' (Gs [] [])):=by
 unfold K1.f at h
 refine calls_S func188 ?_
 have M:=Mem.r0 w
 refine .gq 2<| .nw 236 (nums .u8 (List.replicate 16 (0:Int))) M fun g1 W2 M=> .gq 8<| .sw (new:=nums .u8 ([1,239,91,91,91,239,239,1,239,91,1,239,239,1,239,91]:Li)) M 0 rfl (all_nums' List.length_replicate) (all_nums' rfl) (all_nums _ _) fun W4 M=> .gq 1 ?_
 obtain rfl:=sj h
 exact .rc 0 236 16 func188 M 0 rfl (all_nums' rfl) ⟨rfl,rfl,(M.pm [] [])⟩
mutual
def Kt.l0:Nat→Li→Li→Int→Option (Int)
 | 0,_,_,_=>none
 | k+1,a1,x5_0,x6_0=>(K2.f k x6_0).bind fun t8=>(Kt.l1 k a1 t8 x5_0 x6_0 x5_0 0)
def Kt.l1:Nat→Li→Li→Li→Int→Li→Int→Option (Int)
 | 0,_,_,_,_,_,_=>none
 | k+1,a1,t8,x5_0,x6_0,x5_1,x23_1=>if (decide (x23_1<4))=true then (gd (0≤x23_1) (gd (x23_1<(4:Int)) (gd (0≤x23_1) (gd (x23_1<(x5_0.length:Int)) ((Kw.f k (rd t8 x23_1) (rd x5_1 x23_1)).bind fun t16=>(gd (0≤x23_1) (gd (x23_1<(x5_0.length:Int)) (Kt.l1 k a1 t8 x5_0 x6_0 (x5_1.set (x23_1:Int).toNat t16) (I64 (x23_1+1)))))))))) else (if (decide (x6_0>0))=true then (gd (0≤(I64 (x6_0-1))) (gd ((I64 (x6_0-1))<(a1.length:Int)) ((Ja.f k (rd a1 (I64 (x6_0-1)))).bind fun t26=>((Jd.f k x5_1 t26).bind fun t31=>(Kt.l0 k a1 t31.1 (I64 (x6_0-1))))))) else ((K1.f k).bind fun t39=>(Kt.l2 k t39 x5_0 x5_1 (List.replicate 4 (0:Int)) 0)))
def Kt.l2:Nat→Li→Li→Li→Li→Int→Option (Int)
 | 0,_,_,_,_,_=>none
 | k+1,t39,x5_0,x5_1,x9_2,x53_2=>if (decide (x53_2<4))=true then (gd (0≤x53_2) (gd (x53_2<(4:Int)) (Kt.l3 k t39 x53_2 x5_0 x5_1 x9_2 0))) else ((K7.f k x9_2).bind fun t73=>(some t73.1))
def Kt.l3:Nat→Li→Int→Li→Li→Li→Int→Option (Int)
 | 0,_,_,_,_,_,_=>none
 | k+1,t39,x53_2,x5_0,x5_1,x9_3,x58_3=>if (decide (x58_3<4))=true then (gd (0≤x58_3) (gd (x58_3<(4:Int)) (gd (0≤x53_2) (gd (x53_2<(4:Int)) (gd (0≤x58_3) (gd (x58_3<(x5_0.length:Int)) ((Vr.f k (rd (sub t39 x53_2 4) x58_3) (rd x5_1 x58_3) 361).bind fun t57=>(gd (0≤x53_2) (gd (x53_2<(4:Int)) (Kt.l3 k t39 x53_2 x5_0 x5_1 (x9_3.set (x53_2:Int).toNat (bxor .u8 (rd x9_3 x53_2) t57)) (I64 (x58_3+1)))))))))))) else (Kt.l2 k t39 x5_0 x5_1 x9_3 (I64 (x53_2+1)))
end
def Kt.f (k:Nat) (a0:Int) (a1:Li):Option (Int):=(Ja.f k a0).bind fun t2=>(Kt.l0 k a1 t2 (mn (a1.length:Int) 4))
abbrev Kt.R (r:Int) (w:World):Value→World→Prop:=fun v w'=>v= .u r∧Mem w w' (Gs [] [])
theorem Kt.calls {a0:Int} {a1:Li} {r:Int} (hr1:Rd w (.slice Ap1 np1 cp1) (nums .u32 a1)) (h:Kt.f k a0 a1=some r):Calls prog 148 #[.u a0,(.slice Ap1 np1 cp1)] w (Ret (Kt.R r w)):=by
 obtain rfl:=hr1.ln
 unfold Kt.f at h
 refine calls_S func148 ?_
 have M:=Mem.r0 w
 refine .gq 8 ?_
 obtain ⟨t2,ht2,h⟩:=bs h
 refine .ca (Ja.calls ht2) ?_
 rintro _ W1 ⟨A3,c4,rfl,M_⟩
 replace M:=M.cg M_
 refine .gq 11 ?_
 have l0: ∀k_≤k,∀(A5_0:Option Addr) (c5_0:Nat) (x5_0:Li) (x6_0:Int) {W:World} (M:Mem w W (Gs [⟨.slice A5_0 x5_0.length c5_0,5,1,nums .u8 x5_0⟩] [])) (h:Kt.l0 k_ a1 x5_0 x6_0=some r),RL 148 f148 (Kt.R r w) [1,0,1,1,1] [(1,.slice Ap1 a1.length cp1),(5,.slice A5_0 x5_0.length c5_0),(6,.i x6_0)] W:=by
  refine loopI (by intros;rename_i h;simp [Kt.l0] at h) fun k hk ih0 A5_0 c5_0 x5_0 x6_0 W M h=> ?_
  simp only [Kt.l0] at h
  refine .gq 4 ?_
  obtain ⟨t8,ht8,h⟩:=bs h
  refine .ca (K2.calls ht8) ?_
  rintro _ W7 ⟨rfl,hNt8_0,M_⟩
  replace M:=M.cg M_
  refine .gq 4 ?_
  have l1: ∀k_≤k,∀(x5_1:Li) (x23_1:Int) {W:World} (M:Mem w W (Gs [⟨.slice A5_0 x5_0.length c5_0,5,1,nums .u8 x5_1⟩] [])) (h:Kt.l1 k_ a1 t8 x5_0 x6_0 x5_1 x23_1=some r),RL 148 f148 (Kt.R r w) [1,0,1,1,1,0,1,0,0] [(1,.slice Ap1 a1.length cp1),(5,.slice A5_0 x5_0.length c5_0),(6,.i x6_0),(22,.agg (nums .i64 t8).toArray),(23,.i x23_1)] W:=by
   refine loopI (by intros;rename_i h;simp [Kt.l1] at h) fun k hk ih1 x5_1 x23_1 W M h=> ?_
   simp only [Kt.l1] at h
   refine .gq 5 ?_
   rcases ift h with ⟨c9,h⟩ | ⟨c9,h⟩
   ·refine .kn 24 c9<| .gq 7 ?_
    obtain ⟨c10,h⟩:=ifd h
    obtain ⟨c11,h⟩:=ifd h
    refine .yt (yl_ixv (kd:= .i64) (N:=4) hNt8_0 c10 c11)<| .gq 9 ?_
    obtain ⟨c13,h⟩:=ifd h
    obtain ⟨c14,h⟩:=ifd h
    obtain ⟨pq12,Cq12⟩:=M.na 0 rfl c13 c14
    refine .ix Cq12<| .lc Cq12 ?_
    obtain ⟨t16,ht16,h⟩:=bs h
    refine .ca (Kw.calls ht16) ?_
    rintro _ W15 ⟨rfl,M_⟩
    replace M:=M.cg M_
    obtain ⟨c18,h⟩:=ifd h
    obtain ⟨c19,h⟩:=ifd h
    obtain ⟨pq17,Cq17⟩:=M.na 0 rfl c18 c19
    exact .ix Cq17<| .sn t16 Cq17 M 0 rfl fun W20 M=> .gq 7<| .at (ih1 k (by omega) (x5_1.set (x23_1:Int).toNat t16) (I64 (x23_1+1)) (M.pm [0] []) h)
   refine .kn 24 c9<| .gq 8 ?_
   rcases ift h with ⟨c21,h⟩ | ⟨c21,h⟩
   ·refine .kn 38 c21<| .gq 12 ?_
    obtain ⟨c23,h⟩:=ifd h
    obtain ⟨c24,h⟩:=ifd h
    obtain ⟨pq22,Cq22⟩:=(hr1.mono M.below).na c23 c24
    refine .ix Cq22<| .lc Cq22 ?_
    obtain ⟨t26,ht26,h⟩:=bs h
    refine .ca (Ja.calls ht26) ?_
    rintro _ W25 ⟨A27,c28,rfl,M_⟩
    replace M:=M.cg M_
    obtain ⟨t31,ht31,h⟩:=bs h
    refine .ca (Jd.calls (M.or 1) (M.or 0) ht31) ?_
    rintro _ W30 ⟨A32,c33,rfl,M_⟩
    replace M:=M.cg M_
    exact .gq 8<| .at (ih0 k (by omega) A32 c33 t31.1 (I64 (x6_0-1)) (M.pm [0] []) h)
   refine .kn 38 c21<| .gq 4<| .mn 5 .u8 4 4 M fun g36 W35 M=> .gq 5 ?_
   obtain ⟨t39,ht39,h⟩:=bs h
   refine .ca (K1.calls ht39) ?_
   rintro _ W38 ⟨rfl,hNt39_0,M_⟩
   replace M:=M.cg M_
   refine .gq 4 ?_
   have l2: ∀k_≤k,∀(x9_2:Li) (x53_2:Int) {W:World} (M:Mem w W (Gs [⟨.slice A5_0 x5_0.length c5_0,5,1,nums .u8 x5_1⟩,⟨.slice (pa g36) 4 4,5,1,nums .u8 x9_2⟩] [])) (h:Kt.l2 k_ t39 x5_0 x5_1 x9_2 x53_2=some r),RL 148 f148 (Kt.R r w) [1,0,1,1,1,1,1,1,0,1,0,0] [(5,.slice A5_0 x5_0.length c5_0),(9,.slice (pa g36) 4 4),(52,.agg (nums .u8 t39).toArray),(53,.i x53_2)] W:=by
    refine loopI (by intros;rename_i h;simp [Kt.l2] at h) fun k hk ih2 x9_2 x53_2 W M h=> ?_
    simp only [Kt.l2] at h
    refine .gq 5 ?_
    rcases ift h with ⟨c40,h⟩ | ⟨c40,h⟩
    ·refine .kn 54 c40<| .gq 7 ?_
     obtain ⟨c41,h⟩:=ifd h
     obtain ⟨c42,h⟩:=ifd h
     refine .yt (yl_ixm (kd:= .u8) (len:=4) 4 hNt39_0 c41 c42)<| .nw 235 (nums .u8 (List.replicate 4 (0:Int))) M fun g43 W44 M=> .gq 1<| .sw (new:=nums .u8 (sub t39 x53_2 4)) M 0 rfl (all_nums' List.length_replicate) (all_nums' (sub_length (N:=4) c41 c42 hNt39_0)) (all_nums _ _) fun W46 M=> .gq 3<| .y (yl_ldv (all_nums' (sub_length (N:=4) c41 c42 hNt39_0))) (M.block 0 rfl)<| .gq 4 ?_
     have l3: ∀k_≤k,∀(x9_3:Li) (x58_3:Int) {W:World} (M:Mem w W (Gs [⟨.slice A5_0 x5_0.length c5_0,5,1,nums .u8 x5_1⟩,⟨.slice (pa g36) 4 4,5,1,nums .u8 x9_3⟩] [])) (h:Kt.l3 k_ t39 x53_2 x5_0 x5_1 x9_3 x58_3=some r),RL 148 f148 (Kt.R r w) [1,0,1,1,1,1,1,1,0,1,0,0,1,1,0,0,1,1,0,0] [(5,.slice A5_0 x5_0.length c5_0),(9,.slice (pa g36) 4 4),(10,.i x53_2),(52,.agg (nums .u8 t39).toArray),(53,.i x53_2),(57,.agg (nums .u8 (sub t39 x53_2 4)).toArray),(58,.i x58_3)] W:=by
      refine loopI (by intros;rename_i h;simp [Kt.l3] at h) fun k hk ih3 x9_3 x58_3 W M h=> ?_
      simp only [Kt.l3] at h
      refine .gq 5 ?_
      rcases ift h with ⟨c47,h⟩ | ⟨c47,h⟩
      ·refine .kn 59 c47<| .gq 7 ?_
       obtain ⟨c48,h⟩:=ifd h
       obtain ⟨c49,h⟩:=ifd h
       refine .yt (yl_ixv (kd:= .u8) (N:=4) (sub_length (N:=4) c41 c42 hNt39_0) c48 c49)<| .gq 3<| .at (show RL 148 f148 (Kt.R r w) [1,0,1,1,1,1,1,1,0,1,0,0,1,1,0,0,1,1,0,0,1,1,0,0,1] [(5,.slice A5_0 x5_0.length c5_0),(9,.slice (pa g36) 4 4),(10,.i x53_2),(12,.i x58_3),(13,.y (rd (sub t39 x53_2 4) x58_3)),(52,.agg (nums .u8 t39).toArray),(53,.i x53_2),(57,.agg (nums .u8 (sub t39 x53_2 4)).toArray),(58,.i x58_3)] _ from .dr [1] M fun W50 M=> ?_)
       refine .pz tr [0,1] ?_
       obtain ⟨c52,h⟩:=ifd h
       obtain ⟨c53,h⟩:=ifd h
       obtain ⟨pq51,Cq51⟩:=M.na 1 rfl c52 c53
       refine .ix tr 2 Cq51<| .pz tr [4,5,6] ?_
       obtain ⟨c55,h⟩:=ifd h
       obtain ⟨c56,h⟩:=ifd h
       obtain ⟨pq54,Cq54⟩:=M.na 0 rfl c55 c56
       refine .ix tr 7 Cq54<| .ln tr 8 Cq54 (fun _ hs=>(M.rs hs 0 rfl)) ?_
       obtain ⟨t57,ht57,h⟩:=bs h
       have J60:RJ 148 f148 (Kt.R r w) [1,0,1,1,1,1,1,1,0,1,0,0,1,1,0,0,1,1,0,0,1,1,0,0,1] w [⟨.slice A5_0 x5_0.length c5_0,5,1,nums .u8 x5_1⟩,⟨.slice (pa g36) 4 4,5,1,nums .u8 x9_3⟩] [] [1] ([0,1,2,4,5,6,7,8,3,9,10],[(5,.slice A5_0 x5_0.length c5_0),(9,.slice (pa g36) 4 4),(10,.i x53_2),(12,.i x58_3),(13,.y (rd (sub t39 x53_2 4) x58_3)),(52,.agg (nums .u8 t39).toArray),(53,.i x53_2),(57,.agg (nums .u8 (sub t39 x53_2 4)).toArray),(58,.i x58_3),(62,.slice (pa g36) 4 4),(63,.i x53_2),(64,.pointer (some pq51)),(65,.y (rd x9_3 x53_2)),(66,.y (rd (sub t39 x53_2 4) x58_3)),(67,.slice A5_0 x5_0.length c5_0),(68,.i x58_3),(69,.pointer (some pq54)),(70,.y (rd x5_1 x58_3)),(71,.y t57),(72,.y (bxor .u8 (rd x9_3 x53_2) t57))]):=by
        intro W61 M
        obtain ⟨c63,h⟩:=ifd h
        obtain ⟨c64,h⟩:=ifd h
        obtain ⟨pq62,Cq62⟩:=M.na 1 rfl c63 c64
        exact .ix tr 11 Cq62<| .a1 tr 12<| .sn (bxor .u8 (rd x9_3 x53_2) t57) Cq62 M 1 rfl fun W65 M=> .dn tr<| .gq 6<| .at (ih3 k (by omega) (x9_3.set (x53_2:Int).toNat (bxor .u8 (rd x9_3 x53_2) t57)) (I64 (x58_3+1)) (M.pm [0,1] []) h)
       have J66:RJ 148 f148 (Kt.R r w) [1,0,1,1,1,1,1,1,0,1,0,0,1,1,0,0,1,1,0,0,1,1,0,0,1] w [⟨.slice A5_0 x5_0.length c5_0,5,1,nums .u8 x5_1⟩,⟨.slice (pa g36) 4 4,5,1,nums .u8 x9_3⟩] [] [1] ([0,1,2,4,5,6,7,8,9],[(5,.slice A5_0 x5_0.length c5_0),(9,.slice (pa g36) 4 4),(10,.i x53_2),(12,.i x58_3),(13,.y (rd (sub t39 x53_2 4) x58_3)),(52,.agg (nums .u8 t39).toArray),(53,.i x53_2),(57,.agg (nums .u8 (sub t39 x53_2 4)).toArray),(58,.i x58_3),(62,.slice (pa g36) 4 4),(63,.i x53_2),(64,.pointer (some pq51)),(66,.y (rd (sub t39 x53_2 4) x58_3)),(67,.slice A5_0 x5_0.length c5_0),(68,.i x58_3),(69,.pointer (some pq54)),(70,.y (rd x5_1 x58_3)),(71,.y t57)]):=by
        intro W67 M
        exact .a1 tr 3<| .ln Cq51 (M.or 1)<| .pz tr [10]<| .jn M [0,1] [] (J60) rfl rfl
       have J68:RJ 148 f148 (Kt.R r w) [1,0,1,1,1,1,1,1,0,1,0,0,1,1,0,0,1,1,0,0,1,1,0,0,1] w [⟨.slice A5_0 x5_0.length c5_0,5,1,nums .u8 x5_1⟩,⟨.slice (pa g36) 4 4,5,1,nums .u8 x9_3⟩] [] [1] ([0,1,2,4,5,6,7,8,3],[(5,.slice A5_0 x5_0.length c5_0),(9,.slice (pa g36) 4 4),(10,.i x53_2),(12,.i x58_3),(13,.y (rd (sub t39 x53_2 4) x58_3)),(52,.agg (nums .u8 t39).toArray),(53,.i x53_2),(57,.agg (nums .u8 (sub t39 x53_2 4)).toArray),(58,.i x58_3),(62,.slice (pa g36) 4 4),(63,.i x53_2),(64,.pointer (some pq51)),(65,.y (rd x9_3 x53_2)),(66,.y (rd (sub t39 x53_2 4) x58_3)),(67,.slice A5_0 x5_0.length c5_0),(68,.i x58_3),(69,.pointer (some pq54)),(70,.y (rd x5_1 x58_3))]):=by
        intro W69 M
        refine .a1 tr 9<| .ca (Vr.calls ht57) ?_
        rintro _ W70 ⟨rfl,M_⟩
        refine .ca M_ [1] ?_
        replace M:=M.cg M_
        exact .pz tr [10]<| .jn M [0,1] [] (J60) rfl rfl
       refine .a2 tr 3 9 ?_ ?_
       ·exact .ln Cq51 (M.or 1)<| .jn M [0,1] [] (J68) rfl rfl
       ·refine .ca (Vr.calls ht57) ?_
        rintro _ W71 ⟨rfl,M_⟩
        refine .ca M_ [1] ?_
        replace M:=M.cg M_
        exact .jn M [0,1] [] (J66) rfl rfl
      exact .kn 59 c47<| .gq 8<| .at (ih2 k (by omega) x9_3 (I64 (x53_2+1)) (M.pm [0,1] []) h)
     exact .at (l3 k k.le_refl x9_2 0 (M.pm [1,2] []) h)
    refine .kn 54 c40<| .gq 5 ?_
    obtain ⟨t73,ht73,h⟩:=bs h
    refine .ca (K7.calls (M.or 1) ht73) ?_
    rintro _ W72 ⟨rfl,M_⟩
    replace M:=M.cg M_
    refine .gq 11 ?_
    obtain rfl:=sj h
    exact .ret func148 ⟨rfl,(M.pm [] [])⟩
   exact .at (l2 k k.le_refl (List.replicate 4 (0:Int)) 0 (M.pm [1,0] []) h)
  exact .at (l1 k k.le_refl x5_0 0 (M.pm [0] []) h)
 exact .at (l0 k k.le_refl A3 c4 t2 (mn (a1.length:Int) 4) (M.pm [0] []) h)
def Y2.f (k:Nat) (a0:Li):Option Li:=gd (([]:Li).length+a0.length≤1000000000) (some (([]:Li)++a0))
theorem Y2.calls {a0:Li} {r:Li} (hr0:Rd w (.slice Ap0 np0 cp0) (nums .u32 a0)) (h:Y2.f k a0=some r):Calls prog 149 #[(.slice Ap0 np0 cp0)] w (Ret fun v w'=> ∃A0' c0',v= .slice A0' r.length c0'∧Mem w w' (Gs [⟨.slice A0' r.length c0',150,1,nums .u32 r⟩] [])):=by
 obtain rfl:=hr0.ln
 unfold Y2.f at h
 refine calls_S func149 ?_
 have M:=Mem.r0 w
 refine .gq 8 ?_
 rcases (hr0.mono M.below).isnil with ⟨rfl,hn_⟩ | ⟨a1,rfl⟩
 ·obtain rfl:a0=[]:=by simpa [nums,bools,strs,ones] using hn_
  replace h:(some ([]:Li))=some r:=by simpa using h
  refine .gq 7 ?_
  replace M:=M.n1 150
  obtain rfl:=sj h
  exact .ret func149 ⟨none,0,rfl,(M.pm [0] [])⟩
 ·refine .gq 6<| .new 150 1 0 (nums .u32 []) M fun g2 W3 M=> .gq 1 ?_
  obtain ⟨c8,h⟩:=ifd h
  refine .an M 0 rfl (hr0.mono M.below) c8 fun A5 c6 W7 M=> .gq 2 ?_
  obtain rfl:=sj h
  exact .ret func149 ⟨A5,c6,rfl,(M.pm [0] [])⟩
mutual
def Ku.l0:Nat→Li→Li→Li→Li→Option (Li×Li×Int)
 | 0,_,_,_,_=>none
 | k+1,x3_0,x5_0,x6_0,x7_0=>if (decide ((x7_0.length:Int)>0))=true then (gd (0≤4) (gd (4≤(x7_0.length:Int)) ((K7.f k ((x7_0.take (4:Int).toNat).drop (0:Int).toNat)).bind fun t19=>(gd (4≤8) (gd (8≤(x7_0.length:Int)) ((K7.f k ((x7_0.take (8:Int).toNat).drop (4:Int).toNat)).bind fun t26=>(gd (0≤8) (gd (8≤(x7_0.length:Int)) (gd (x5_0.length+([t19.1]:Li).length≤1000000000) (gd (x6_0.length+([t26.1]:Li).length≤1000000000) ((K0.f k ((x7_0.take (8:Int).toNat).drop (0:Int).toNat)).bind fun t67=>(gd (x3_0.length+([t67]:Li).length≤1000000000) (gd (8≤(x7_0.length:Int)) (Ku.l0 k (x3_0++([t67]:Li)) (x5_0++([t19.1]:Li)) (x6_0++([t26.1]:Li)) ((x7_0.take ((x7_0.length:Int):Int).toNat).drop (8:Int).toNat))))))))))))))) else ((Ka.f k x3_0).bind fun t114=>(Ku.l1 k x5_0 x6_0 ([]:Li) t114 0))
def Ku.l1:Nat→Li→Li→Li→Li→Int→Option (Li×Li×Int)
 | 0,_,_,_,_,_=>none
 | k+1,x5_0,x6_0,x2_1,x3_1,x12_1=>(Kt.f k (U32 ((U32 (2*x12_1))*16843009)) x5_0).bind fun t119=>((some (U32 ((U32 ((U32 (2*x12_1))+1))*16843009):Int)).bind fun y120=>((Kt.f k y120 x6_0).bind fun t122=>((Jb.f k t122 8).bind fun t124=>((Jb.f k (U32 (t119+(U32 (2*t124)))) 9).bind fun t126=>(gd (x2_1.length+([U32 (t119+t124),t126]:Li).length≤1000000000) (if (decide ((U32 (x12_1+1))<20))=true then (Ku.l1 k x5_0 x6_0 (x2_1++([U32 (t119+t124),t126]:Li)) x3_1 (U32 (x12_1+1))) else ((Y2.f k (x2_1++([U32 (t119+t124),t126]:Li))).bind fun t137=>((Y2.f k x3_1).bind fun t142=>(some (t137,t142,0))))))))))
end
def Ku.f (k:Nat) (a0:Li):Option (Li×Li×Int):=if ((a0.length:Int) != 16)=true then (if ((a0.length:Int) != 24)=true then (if ((a0.length:Int) != 32)=true then (some (([]:Li),([]:Li),4)) else (Ku.l0 k ([]:Li) ([]:Li) ([]:Li) a0)) else (Ku.l0 k ([]:Li) ([]:Li) ([]:Li) a0)) else (Ku.l0 k ([]:Li) ([]:Li) ([]:Li) a0)
abbrev Ku.R (r:Li×Li×Int) (w:World):Value→World→Prop:=fun v w'=> ∃A0' c0',∃A1' c1',v= .tuple #[.slice A0' r.1.length c0',.slice A1' r.2.1.length c1',.i r.2.2]∧Mem w w' (Gs [⟨.slice A0' r.1.length c0',150,1,nums .u32 r.1⟩,⟨.slice A1' r.2.1.length c1',150,1,nums .u32 r.2.1⟩] [])
theorem Ku.calls {a0:Li} {r:Li×Li×Int} (hr0:Rd w (.slice Ap0 np0 cp0) (nums .u8 a0)) (h:Ku.f k a0=some r):Calls prog 98 #[(.slice Ap0 np0 cp0)] w (Ret (Ku.R r w)):=by
 obtain rfl:=hr0.ln
 unfold Ku.f at h
 refine calls_S func98 ?_
 have M:=Mem.r0 w
 refine .gq 14 ?_
 have l0: ∀k_≤k,∀(A3_0:Option Addr) (c3_0:Nat) (x3_0:Li) (A5_0:Option Addr) (c5_0:Nat) (x5_0:Li) (A6_0:Option Addr) (c6_0:Nat) (x6_0:Li) (A7_0:Option Addr) (c7_0:Nat) (x7_0:Li) {W:World} (M:Mem w W (Gs [⟨.slice A3_0 x3_0.length c3_0,150,1,nums .u32 x3_0⟩,⟨.slice A5_0 x5_0.length c5_0,150,1,nums .u32 x5_0⟩,⟨.slice A6_0 x6_0.length c6_0,150,1,nums .u32 x6_0⟩] [])) (hrx7_0:Rd w (.slice A7_0 x7_0.length c7_0) (nums .u8 x7_0)) (h:Ku.l0 k_ x3_0 x5_0 x6_0 x7_0=some r),RL 98 f98 (Ku.R r w) [1,0,1,1,0,1,0,0] [(2,.slice none 0 0),(3,.slice A3_0 x3_0.length c3_0),(5,.slice A5_0 x5_0.length c5_0),(6,.slice A6_0 x6_0.length c6_0),(7,.slice A7_0 x7_0.length c7_0)] W:=by
  refine loopI (by intros;rename_i h;simp [Ku.l0] at h) fun k hk ih0 A3_0 c3_0 x3_0 A5_0 c5_0 x5_0 A6_0 c6_0 x6_0 A7_0 c7_0 x7_0 W M hrx7_0 h=> ?_
  simp only [Ku.l0] at h
  refine .gq 7 ?_
  rcases ift h with ⟨c12,h⟩ | ⟨c12,h⟩
  ·refine .kn 31 c12<| .gq 7 ?_
   obtain ⟨c13,h⟩:=ifd h
   obtain ⟨c14,h⟩:=ifd h
   refine .ct 0 4 (hrx7_0.mono M.below) fun A15 c16 hs17=> ?_
   obtain ⟨t19,ht19,h⟩:=bs h
   refine .ca (K7.calls (hs17 _ (hrx7_0.mono M.below)) ht19) ?_
   rintro _ W18 ⟨rfl,M_⟩
   replace M:=M.cg M_
   refine .gq 9 ?_
   obtain ⟨c20,h⟩:=ifd h
   obtain ⟨c21,h⟩:=ifd h
   refine .ct 4 8 (hrx7_0.mono M.below) fun A22 c23 hs24=> ?_
   obtain ⟨t26,ht26,h⟩:=bs h
   refine .ca (K7.calls (hs24 _ (hrx7_0.mono M.below)) ht26) ?_
   rintro _ W25 ⟨rfl,M_⟩
   replace M:=M.cg M_
   refine .gq 6<| .at (show RL 98 f98 (Ku.R r w) [1,0,1,1,0,1,0,0,1,0,0,1,1] [(2,.slice none 0 0),(3,.slice A3_0 x3_0.length c3_0),(5,.slice A5_0 x5_0.length c5_0),(6,.slice A6_0 x6_0.length c6_0),(7,.slice A7_0 x7_0.length c7_0),(8,.u t19.1),(10,.u t26.1)] _ from .dr [1,2,0] M fun W27 M=> ?_)
   refine .pz tr [0,1,4,5,8,9] ?_
   obtain ⟨c28,h⟩:=ifd h
   obtain ⟨c29,h⟩:=ifd h
   refine .ct tr 10 0 8 (hrx7_0.mono M.below) fun A30 c31 hs32=> ?_
   obtain ⟨c58,h⟩:=ifd h
   have J59: ∀(g33:Nat) (A39:Option Addr) (c40:Nat) (g50:Nat),RJ 98 f98 (Ku.R r w) [1,0,1,1,0,1,0,0,1,0,0,1,1] w [⟨.slice (pa g33) 1 1,150,1,nums .u32 [t19.1]⟩,⟨.slice A39 ((x5_0++([t19.1]:Li)).length) c40,150,1,nums .u32 (x5_0++([t19.1]:Li))⟩,⟨.slice (pa g50) 1 1,150,1,nums .u32 [t26.1]⟩,⟨.slice A3_0 x3_0.length c3_0,150,1,nums .u32 x3_0⟩,⟨.slice A6_0 x6_0.length c6_0,150,1,nums .u32 x6_0⟩] [] [1,3,4] ([0,1,4,5,8,9,10,2,3,6],[(2,.slice none 0 0),(3,.slice A3_0 x3_0.length c3_0),(5,.slice A5_0 x5_0.length c5_0),(6,.slice A6_0 x6_0.length c6_0),(7,.slice A7_0 x7_0.length c7_0),(8,.u t19.1),(10,.u t26.1),(46,.slice A5_0 x5_0.length c5_0),(47,.u t19.1),(48,.slice (pa g33) 1 1),(49,.slice A39 ((x5_0++([t19.1]:Li)).length) c40),(50,.slice A6_0 x6_0.length c6_0),(51,.u t26.1),(52,.slice (pa g50) 1 1),(54,.slice A3_0 x3_0.length c3_0),(55,.slice A7_0 x7_0.length c7_0),(56,.slice A30 (((x7_0.take (8:Int).toNat).drop (0:Int).toNat).length) c31)]):=by
    intro g33 A39 c40 g50 W60 M
    obtain ⟨c64,h⟩:=ifd h
    refine .a1 tr 7<| .an M 4 rfl (M.or 2) c64 [1,3,4] fun A61 c62 W63 M=> ?_
    obtain ⟨t67,ht67,h⟩:=bs h
    refine .a1 tr 11<| .ca (K0.calls (hs32 _ (hrx7_0.mono M.below)) ht67) ?_
    rintro _ W66 ⟨rfl,M_⟩
    refine .ca M_ [1,3,4] ?_
    replace M:=M.cg M_
    refine .a1 tr 12<| .new 150 1 1 (nums .u32 [t67]) M [2,4,5] fun g68 W69 M=> ?_
    obtain ⟨c74,h⟩:=ifd h
    refine .a1 tr 13<| .an M 4 rfl (M.or 0) c74 [2,4,5] fun A71 c72 W73 M=> .pz tr [14,15,16]<| .dn tr<| .gq 3 ?_
    obtain ⟨c76,h⟩:=ifd h
    exact .ct 8 (x7_0.length:Int) (hrx7_0.mono M.below) fun A77 c78 hs79=> .gq 3<| .at (ih0 k (by omega) A71 c72 (x3_0++([t67]:Li)) A39 c40 (x5_0++([t19.1]:Li)) A61 c62 (x6_0++([t26.1]:Li)) A77 c78 ((x7_0.take ((x7_0.length:Int):Int).toNat).drop (8:Int).toNat) (M.pm [4,2,5] []) (hs79 _ hrx7_0) h)
   have J80: ∀(g33:Nat) (g44:Nat),RJ 98 f98 (Ku.R r w) [1,0,1,1,0,1,0,0,1,0,0,1,1] w [⟨.slice (pa g33) 1 1,150,1,nums .u32 [t19.1]⟩,⟨.slice (pa g44) 1 1,150,1,nums .u32 [t26.1]⟩,⟨.slice A3_0 x3_0.length c3_0,150,1,nums .u32 x3_0⟩,⟨.slice A5_0 x5_0.length c5_0,150,1,nums .u32 x5_0⟩,⟨.slice A6_0 x6_0.length c6_0,150,1,nums .u32 x6_0⟩] [] [2,3,4] ([0,1,4,5,8,9,10,2,6],[(2,.slice none 0 0),(3,.slice A3_0 x3_0.length c3_0),(5,.slice A5_0 x5_0.length c5_0),(6,.slice A6_0 x6_0.length c6_0),(7,.slice A7_0 x7_0.length c7_0),(8,.u t19.1),(10,.u t26.1),(46,.slice A5_0 x5_0.length c5_0),(47,.u t19.1),(48,.slice (pa g33) 1 1),(50,.slice A6_0 x6_0.length c6_0),(51,.u t26.1),(52,.slice (pa g44) 1 1),(54,.slice A3_0 x3_0.length c3_0),(55,.slice A7_0 x7_0.length c7_0),(56,.slice A30 (((x7_0.take (8:Int).toNat).drop (0:Int).toNat).length) c31)]):=by
    intro g33 g44 W81 M
    exact .a1 tr 3<| .an M 3 rfl (M.or 0) c58 [2,3,4] fun A82 c83 W84 M=> .jn M [0,3,1,2,4] [] (J59 g33 A82 c83 g44) rfl rfl
   have J87: ∀(g33:Nat) (A39:Option Addr) (c40:Nat),RJ 98 f98 (Ku.R r w) [1,0,1,1,0,1,0,0,1,0,0,1,1] w [⟨.slice (pa g33) 1 1,150,1,nums .u32 [t19.1]⟩,⟨.slice A39 ((x5_0++([t19.1]:Li)).length) c40,150,1,nums .u32 (x5_0++([t19.1]:Li))⟩,⟨.slice A3_0 x3_0.length c3_0,150,1,nums .u32 x3_0⟩,⟨.slice A6_0 x6_0.length c6_0,150,1,nums .u32 x6_0⟩] [] [1,2,3] ([0,1,4,5,8,9,10,2,3],[(2,.slice none 0 0),(3,.slice A3_0 x3_0.length c3_0),(5,.slice A5_0 x5_0.length c5_0),(6,.slice A6_0 x6_0.length c6_0),(7,.slice A7_0 x7_0.length c7_0),(8,.u t19.1),(10,.u t26.1),(46,.slice A5_0 x5_0.length c5_0),(47,.u t19.1),(48,.slice (pa g33) 1 1),(49,.slice A39 ((x5_0++([t19.1]:Li)).length) c40),(50,.slice A6_0 x6_0.length c6_0),(51,.u t26.1),(54,.slice A3_0 x3_0.length c3_0),(55,.slice A7_0 x7_0.length c7_0),(56,.slice A30 (((x7_0.take (8:Int).toNat).drop (0:Int).toNat).length) c31)]):=by
    intro g33 A39 c40 W88 M
    exact .a1 tr 6<| .new 150 1 1 (nums .u32 [t26.1]) M [2,3,4] fun g89 W90 M=> .jn M [1,2,0,3,4] [] (J59 g33 A39 c40 g89) rfl rfl
   have J92: ∀(g36:Nat),RJ 98 f98 (Ku.R r w) [1,0,1,1,0,1,0,0,1,0,0,1,1] w [⟨.slice (pa g36) 1 1,150,1,nums .u32 [t26.1]⟩,⟨.slice A3_0 x3_0.length c3_0,150,1,nums .u32 x3_0⟩,⟨.slice A5_0 x5_0.length c5_0,150,1,nums .u32 x5_0⟩,⟨.slice A6_0 x6_0.length c6_0,150,1,nums .u32 x6_0⟩] [] [1,2,3] ([0,1,4,5,8,9,10,6],[(2,.slice none 0 0),(3,.slice A3_0 x3_0.length c3_0),(5,.slice A5_0 x5_0.length c5_0),(6,.slice A6_0 x6_0.length c6_0),(7,.slice A7_0 x7_0.length c7_0),(8,.u t19.1),(10,.u t26.1),(46,.slice A5_0 x5_0.length c5_0),(47,.u t19.1),(50,.slice A6_0 x6_0.length c6_0),(51,.u t26.1),(52,.slice (pa g36) 1 1),(54,.slice A3_0 x3_0.length c3_0),(55,.slice A7_0 x7_0.length c7_0),(56,.slice A30 (((x7_0.take (8:Int).toNat).drop (0:Int).toNat).length) c31)]):=by
    intro g36 W93 M
    exact .a1 tr 2<| .new 150 1 1 (nums .u32 [t19.1]) M [2,3,4] fun g94 W95 M=> .jn M [0,1,2,3,4] [] (J80 g94 g36) rfl rfl
   have J97: ∀(g33:Nat),RJ 98 f98 (Ku.R r w) [1,0,1,1,0,1,0,0,1,0,0,1,1] w [⟨.slice (pa g33) 1 1,150,1,nums .u32 [t19.1]⟩,⟨.slice A3_0 x3_0.length c3_0,150,1,nums .u32 x3_0⟩,⟨.slice A5_0 x5_0.length c5_0,150,1,nums .u32 x5_0⟩,⟨.slice A6_0 x6_0.length c6_0,150,1,nums .u32 x6_0⟩] [] [1,2,3] ([0,1,4,5,8,9,10,2],[(2,.slice none 0 0),(3,.slice A3_0 x3_0.length c3_0),(5,.slice A5_0 x5_0.length c5_0),(6,.slice A6_0 x6_0.length c6_0),(7,.slice A7_0 x7_0.length c7_0),(8,.u t19.1),(10,.u t26.1),(46,.slice A5_0 x5_0.length c5_0),(47,.u t19.1),(48,.slice (pa g33) 1 1),(50,.slice A6_0 x6_0.length c6_0),(51,.u t26.1),(54,.slice A3_0 x3_0.length c3_0),(55,.slice A7_0 x7_0.length c7_0),(56,.slice A30 (((x7_0.take (8:Int).toNat).drop (0:Int).toNat).length) c31)]):=by
    intro g33 W98 M
    refine .a2 tr 3 6 ?_ ?_
    ·exact .an M 2 rfl (M.or 0) c58 [1,2,3] fun A99 c100 W101 M=> .jn M [0,2,1,3] [] (J87 g33 A99 c100) rfl rfl
    ·exact .new 150 1 1 (nums .u32 [t26.1]) M [2,3,4] fun g104 W105 M=> .jn M [1,0,2,3,4] [] (J80 g33 g104) rfl rfl
   refine .a2 tr 2 6 ?_ ?_
   ·exact .new 150 1 1 (nums .u32 [t19.1]) M [2,3,1] fun g107 W108 M=> .jn M [0,1,2,3] [] (J97 g107) rfl rfl
   ·exact .new 150 1 1 (nums .u32 [t26.1]) M [2,3,1] fun g110 W111 M=> .jn M [0,1,2,3] [] (J92 g110) rfl rfl
  refine .kn 31 c12<| .gq 5 ?_
  obtain ⟨t114,ht114,h⟩:=bs h
  refine .ca (Ka.calls (M.fm [0] [1,2] [] rfl rfl rfl) ht114) ?_
  rintro _ W113 ⟨rfl,M_⟩
  replace M:=M_.u1
  have hl_:=(M.or 0).ln
  simp only [←hl_] at M ⊢
  refine .gq 7 ?_
  replace M:=M.n1 150
  have l1: ∀k_≤k,∀(A2_1:Option Addr) (c2_1:Nat) (x2_1:Li) (A3_1:Option Addr) (c3_1:Nat) (x3_1:Li) (x12_1:Int) {W:World} (M:Mem w W (Gs [⟨.slice A2_1 x2_1.length c2_1,150,1,nums .u32 x2_1⟩,⟨.slice A3_1 x3_1.length c3_1,150,1,nums .u32 x3_1⟩,⟨.slice A5_0 x5_0.length c5_0,150,1,nums .u32 x5_0⟩,⟨.slice A6_0 x6_0.length c6_0,150,1,nums .u32 x6_0⟩] [])) (h:Ku.l1 k_ x5_0 x6_0 x2_1 x3_1 x12_1=some r),RL 98 f98 (Ku.R r w) [1,0,1,1,1,1,1,1] [(2,.slice A2_1 x2_1.length c2_1),(3,.slice A3_1 x3_1.length c3_1),(5,.slice A5_0 x5_0.length c5_0),(6,.slice A6_0 x6_0.length c6_0),(12,.u x12_1)] W:=by
   refine loopI (by intros;rename_i h;simp [Ku.l1] at h) fun k hk ih1 A2_1 c2_1 x2_1 A3_1 c3_1 x3_1 x12_1 W M h=> ?_
   simp only [Ku.l1] at h
   refine .gq 6 ?_
   obtain ⟨t119,ht119,h⟩:=bs h
   refine .ca (Kt.calls (M.or 2) ht119) ?_
   rintro _ W118 ⟨rfl,M_⟩
   replace M:=M.cg M_
   refine .gq 9 ?_
   let y120:Int:=U32 ((U32 ((U32 (2*x12_1))+1))*16843009)
   replace h:=bz (y:=y120) h rfl
   obtain ⟨t122,ht122,h⟩:=bs h
   refine .ca (Kt.calls (M.or 3) ht122) ?_
   rintro _ W121 ⟨rfl,M_⟩
   replace M:=M.cg M_
   obtain ⟨t124,ht124,h⟩:=bs h
   refine .ca (Jb.calls ht124) ?_
   rintro _ W123 ⟨rfl,M_⟩
   replace M:=M.cg M_
   refine .gq 12 ?_
   obtain ⟨t126,ht126,h⟩:=bs h
   refine .ca (Jb.calls ht126) ?_
   rintro _ W125 ⟨rfl,M_⟩
   replace M:=M.cg M_
   refine .new 150 1 2 (nums .u32 [U32 (t119+t124),t126]) M fun g127 W128 M=> ?_
   obtain ⟨c133,h⟩:=ifd h
   refine .an M 1 rfl (M.or 0) c133 fun A130 c131 W132 M=> .gq 14 ?_
   rcases ift h with ⟨c135,h⟩ | ⟨c135,h⟩
   ·exact .kn 88 c135<| .gq 4<| .at (ih1 k (by omega) A130 c131 (x2_1++([U32 (t119+t124),t126]:Li)) A3_1 c3_1 x3_1 (U32 (x12_1+1)) (M.pm [1,2,3,4] []) h)
   refine .kn 88 c135<| .gq 5 ?_
   obtain ⟨t137,ht137,h⟩:=bs h
   refine .ca (Y2.calls (M.or 1) ht137) ?_
   rintro _ W136 ⟨A138,c139,rfl,M_⟩
   replace M:=M.cg M_
   refine .gq 1 ?_
   obtain ⟨t142,ht142,h⟩:=bs h
   refine .ca (Y2.calls (M.or 3) ht142) ?_
   rintro _ W141 ⟨A143,c144,rfl,M_⟩
   replace M:=M.cg M_
   refine .gq 4 ?_
   obtain rfl:=sj h
   exact .ret func98 ⟨A138,c139,A143,c144,rfl,(M.pm [1,0] [])⟩
  exact .at (l1 k k.le_refl none 0 ([]:Li) A3_0 c3_0 t114 0 (M.pm [0,1,2,3] []) h)
 rcases ift h with ⟨c1,h⟩ | ⟨c1,h⟩
 ·refine .kn 18 c1<| .gq 5 ?_
  rcases ift h with ⟨c2,h⟩ | ⟨c2,h⟩
  ·refine .kn 23 c2<| .gq 5 ?_
   rcases ift h with ⟨c3,h⟩ | ⟨c3,h⟩
   ·refine .kn 27 c3<| .gq 7 ?_
    replace M:=M.n1 150
    replace M:=M.n1 150
    obtain rfl:=sj h
    exact .ret func98 ⟨none,0,none,0,rfl,(M.pm [1,0] [])⟩
   refine .kn 27 c3<| .gq 15 ?_
   replace M:=M.n1 150
   replace M:=M.n1 150
   replace M:=M.n1 150
   exact .at (l0 k k.le_refl none 0 ([]:Li) none 0 ([]:Li) none 0 ([]:Li) Ap0 cp0 a0 (M.pm [2,1,0] []) hr0 h)
  refine .kn 23 c2<| .gq 20 ?_
  replace M:=M.n1 150
  replace M:=M.n1 150
  replace M:=M.n1 150
  exact .at (l0 k k.le_refl none 0 ([]:Li) none 0 ([]:Li) none 0 ([]:Li) Ap0 cp0 a0 (M.pm [2,1,0] []) hr0 h)
 refine .kn 18 c1<| .gq 25 ?_
 replace M:=M.n1 150
 replace M:=M.n1 150
 replace M:=M.n1 150
 exact .at (l0 k k.le_refl none 0 ([]:Li) none 0 ([]:Li) none 0 ([]:Li) Ap0 cp0 a0 (M.pm [2,1,0] []) hr0 h)
def Kv.f (k:Nat) (a0:Li):Option (Option Lp×Int):=(Ku.f k a0).bind fun t2=>(if (t2.2.2 != 0)=true then (some (none,t2.2.2)) else (some ((some (t2.1,t2.2.1)),0)))
theorem Kv.calls {a0:Li} {r:Option Lp×Int} (hr0:Rd w (.slice Ap0 np0 cp0) (nums .u8 a0)) (h:Kv.f k a0=some r):Calls prog 62 #[(.slice Ap0 np0 cp0)] w (Ret fun v w'=> ∃(v0':Value) (F0':List Ent),v= .tuple #[v0',.i r.2]∧(rOpt (rPtr Rs_twofish_Twofish)) (Oks F0') v0' r.1∧Mem w w' (Gs [] [F0'])):=by
 obtain rfl:=hr0.ln
 unfold Kv.f at h
 refine calls_S func62 ?_
 have M:=Mem.r0 w
 refine .gq 8 ?_
 obtain ⟨t2,ht2,h⟩:=bs h
 refine .ca (Ku.calls (hr0.mono M.below) ht2) ?_
 rintro _ W1 ⟨A3,c4,A5,c6,rfl,M_⟩
 replace M:=M.cg M_
 refine .gq 14 ?_
 rcases ift h with ⟨c9,h⟩ | ⟨c9,h⟩
 ·refine .kn 14 c9<| .gq 7 ?_
  obtain rfl:=sj h
  exact .ret func62 ⟨.pointer none,([]:List Ent),rfl,(.inl ⟨rfl,rfl⟩),(M.pm [] [[]])⟩
 refine .kn 14 c9<| .gq 6 ?_
 obtain ⟨Fq10,hfq10,M⟩:=M.fs 0
 obtain ⟨Fq11,hfq11,M⟩:=M.fs 0
 refine .gq 1<| .nw 149 ([.slice A3 t2.1.length c4,.slice A5 t2.2.1.length c6]) M fun g12 W13 M=> ?_
 obtain ⟨Fq15,hfq15,M⟩:=M.fp 0
 have hs16:rPtr Rs_twofish_Twofish (andZ (Oks Fq15) (andZ (Oks Fq10) (Oks Fq11))) (.pt g12) (t2.1,t2.2.1):=⟨g12,_,rfl,hfq15.up (fun _ z=>z.1),_,_,rfl,(upn (fun _ z=>z.2.1) (rno hfq10 (M.oks 2))),(upn (fun _ z=>z.2.2) (rno hfq11 (M.oks 1)))⟩
 refine .gq 3 ?_
 obtain rfl:=sj h
 exact .ret func62 ⟨.pt g12,(List.flatten [Fq15,Fq10,Fq11]),rfl,(up_opt (up_ptr up_Rs_twofish_Twofish)) _ _ _ _ (fun _ (z:Oks _ _)=>(ai (z.g 0 rfl) (ai (z.g 1 rfl) (z.g 2 rfl)))) (.inr ⟨(t2.1,t2.2.1),rfl,hs16⟩),(M.pm [] [[0,2,1]])⟩
def Qg.f (k:Nat) (a0:Li):Option (Bool):=if (decide ((a0.length:Int)≥16))=true then (if (decide ((a0.length:Int)≤32))=true then (some ((Int.tmod (a0.length:Int) 8)==0)) else (some false)) else (some false)
theorem Qg.calls {a0:Li} {r:Bool} (hr0:Rd w (.slice Ap0 np0 cp0) (nums .u8 a0)) (h:Qg.f k a0=some r):Calls prog 104 #[(.slice Ap0 np0 cp0)] w (Ret fun v w'=>v= .bool r∧Mem w w' (Gs [] [])):=by
 obtain rfl:=hr0.ln
 unfold Qg.f at h
 refine calls_S func104 ?_
 have M:=Mem.r0 w
 refine .gq 10 ?_
 rcases ift h with ⟨c1,h⟩ | ⟨c1,h⟩
 ·refine .kn 6 c1<| .gq 5 ?_
  rcases ift h with ⟨c2,h⟩ | ⟨c2,h⟩
  ·refine .kn 11 c2<| .gq 7 ?_
   obtain rfl:=sj h
   exact .ret func104 ⟨rfl,(M.pm [] [])⟩
  refine .kn 11 c2<| .gq 7 ?_
  obtain rfl:=sj h
  exact .ret func104 ⟨rfl,(M.pm [] [])⟩
 refine .kn 6 c1<| .gq 12 ?_
 obtain rfl:=sj h
 exact .ret func104 ⟨rfl,(M.pm [] [])⟩
def Qm.f (k:Nat) (a0:Int):Option (Int):=if (decide (0≤a0))=true then (if (decide (a0<(256:Int)))=true then (some (I64 (sb (⟨#[0,1,1,2,1,2,2,3,1,2,2,3,2,3,3,4,1,2,2,3,2,3,3,4,2,3,3,4,3,4,4,5,1,2,2,3,2,3,3,4,2,3,3,4,3,4,4,5,2,3,3,4,3,4,4,5,3,4,4,5,4,5,5,6,1,2,2,3,2,3,3,4,2,3,3,4,3,4,4,5,2,3,3,4,3,4,4,5,3,4,4,5,4,5,5,6,2,3,3,4,3,4,4,5,3,4,4,5,4,5,5,6,3,4,4,5,4,5,5,6,4,5,5,6,5,6,6,7,1,2,2,3,2,3,3,4,2,3,3,4,3,4,4,5,2,3,3,4,3,4,4,5,3,4,4,5,4,5,5,6,2,3,3,4,3,4,4,5,3,4,4,5,4,5,5,6,3,4,4,5,4,5,5,6,4,5,5,6,5,6,6,7,2,3,3,4,3,4,4,5,3,4,4,5,4,5,5,6,3,4,4,5,4,5,5,6,4,5,5,6,5,6,6,7,3,4,4,5,4,5,5,6,4,5,5,6,5,6,6,7,4,5,5,6,5,6,6,7,5,6,6,7,6,7,7,8]⟩:ByteArray) a0))) else (none)) else (none)
theorem Qm.calls {a0:Int} {r:Int} (h:Qm.f k a0=some r):Calls prog 216 #[.y a0] w (Ret fun v w'=>v= .i r∧Mem w w' (Gs [] [])):=by
 unfold Qm.f at h
 refine calls_S func216 ?_
 have M:=Mem.r0 w
 refine .gq 7 ?_
 obtain ⟨c1,h⟩:=ifd h
 obtain ⟨c2,h⟩:=ifd h
 refine .yt (yl_ixs (⟨#[0,1,1,2,1,2,2,3,1,2,2,3,2,3,3,4,1,2,2,3,2,3,3,4,2,3,3,4,3,4,4,5,1,2,2,3,2,3,3,4,2,3,3,4,3,4,4,5,2,3,3,4,3,4,4,5,3,4,4,5,4,5,5,6,1,2,2,3,2,3,3,4,2,3,3,4,3,4,4,5,2,3,3,4,3,4,4,5,3,4,4,5,4,5,5,6,2,3,3,4,3,4,4,5,3,4,4,5,4,5,5,6,3,4,4,5,4,5,5,6,4,5,5,6,5,6,6,7,1,2,2,3,2,3,3,4,2,3,3,4,3,4,4,5,2,3,3,4,3,4,4,5,3,4,4,5,4,5,5,6,2,3,3,4,3,4,4,5,3,4,4,5,4,5,5,6,3,4,4,5,4,5,5,6,4,5,5,6,5,6,6,7,2,3,3,4,3,4,4,5,3,4,4,5,4,5,5,6,3,4,4,5,4,5,5,6,4,5,5,6,5,6,6,7,3,4,4,5,4,5,5,6,4,5,5,6,5,6,6,7,4,5,5,6,5,6,6,7,5,6,6,7,6,7,7,8]⟩:ByteArray) c1 c2)<| .gq 3 ?_
 obtain rfl:=sj h
 exact .ret func216 ⟨rfl,(M.pm [] [])⟩
def Qo.l0:Nat→Int→Li→Int→Int→Option (Int)
 | 0,_,_,_,_=>none
 | k+1,a0,a1,x2_0,x10_0=>if (decide (x10_0<8))=true then (if (decide (0≤x10_0))=true then (if (decide (x10_0<(8:Int)))=true then ((Qm.f k (band .u8 a0 (rd a1 x10_0))).bind fun t8=>(if (decide ((Int.tmod t8 2)>0))=true then (if (decide (0≤x10_0))=true then (if (decide (x10_0<(8:Int)))=true then ((some (bxor .u8 x2_0 (rd ([1,2,4,8,16,32,64,128]:Li) x10_0):Int)).bind fun y13=>(Qo.l0 k a0 a1 y13 (I64 (x10_0+1)))) else (none)) else (none)) else (Qo.l0 k a0 a1 x2_0 (I64 (x10_0+1))))) else (none)) else (none)) else (some x2_0)
def Qo.f (k:Nat) (a0:Int) (a1:Li) (a2:Int):Option (Int):=Qo.l0 k a0 a1 a2 0
abbrev Qo.R (r:Int) (w:World):Value→World→Prop:=fun v w'=>v= .y r∧Mem w w' (Gs [] [])
theorem Qo.calls {a0:Int} {a1:Li} {a2:Int} {r:Int} (hl1:a1.length=8) (hG1:Rg w 1 (nums .u8 [1,2,4,8,16,32,64,128])) (h:Qo.f k a0 a1 a2=some r):Calls prog 191 #[.y a0,.agg (nums .u8 a1).toArray,.y a2] w (Ret (Qo.R r w)):=by
 unfold Qo.f at h
 refine calls_S func191 ?_
 have M:=Mem.r0 w
 refine .gq 2<| .nw 212 (nums .u8 a1) M fun g1 W2 M=> .gq 5<| .y (yl_ldv (all_nums' hl1)) (M.block 0 rfl)<| .gq 4 ?_
 have l0: ∀k_≤k,∀(x2_0:Int) (x10_0:Int) {W:World} (M:Mem w W (Gs [] [])) (h:Qo.l0 k_ a0 a1 x2_0 x10_0=some r),RL 191 f191 (Qo.R r w) [1,0,1,0,0] [(0,.y a0),(2,.y x2_0),(9,.agg (nums .u8 a1).toArray),(10,.i x10_0)] W:=by
  refine loopI (by intros;rename_i h;simp [Qo.l0] at h) fun k hk ih0 x2_0 x10_0 W M h=> ?_
  simp only [Qo.l0] at h
  refine .gq 5 ?_
  rcases ift h with ⟨c4,h⟩ | ⟨c4,h⟩
  ·refine .kn 11 c4<| .gq 7 ?_
   obtain ⟨c5,h⟩:=ifd h
   obtain ⟨c6,h⟩:=ifd h
   refine .yt (yl_ixv (kd:= .u8) (N:=8) hl1 c5 c6)<| .gq 8 ?_
   obtain ⟨t8,ht8,h⟩:=bs h
   refine .ca (Qm.calls ht8) ?_
   rintro _ W7 ⟨rfl,M_⟩
   replace M:=M.cg M_
   refine .gq 3 ?_
   rcases ift h with ⟨c9,h⟩ | ⟨c9,h⟩
   ·refine .kn 19 c9<| .gq 4 ?_
    obtain ⟨c11,h⟩:=ifd h
    obtain ⟨c12,h⟩:=ifd h
    obtain ⟨pq10,Cq10⟩:=hG1.cel c11 c12
    refine .ia Cq10<| .ld (Cq10.rg (hG1.kept M.kept)).cc<| .gq 9 ?_
    let y13:Int:=bxor .u8 x2_0 (rd ([1,2,4,8,16,32,64,128]:Li) x10_0)
    replace h:=bz (y:=y13) h rfl
    exact .at (ih0 k (by omega) y13 (I64 (x10_0+1)) (M.pm [] []) h)
   exact .kn 19 c9<| .gq 8<| .at (ih0 k (by omega) x2_0 (I64 (x10_0+1)) (M.pm [] []) h)
  refine .kn 11 c4<| .gq 7 ?_
  obtain rfl:=sj h
  exact .ret func191 ⟨rfl,(M.pm [] [])⟩
 exact .at (l0 k k.le_refl a2 0 (M.pm [] []) h)
def Vs.l0:Nat→Int→Int→Int→Int→Option (Int)
 | 0,_,_,_,_=>none
 | k+1,a2,x0_0,x1_0,x7_0=>if (decide (x1_0≤0))=true then (some x7_0) else (if (decide ((band .i64 x1_0 1)>0))=true then ((Vr.f k x7_0 x0_0 a2).bind fun t4=>((Vr.f k x0_0 x0_0 a2).bind fun t6=>(Vs.l0 k a2 t6 (shr x1_0 1) t4))) else ((Vr.f k x0_0 x0_0 a2).bind fun t8=>(Vs.l0 k a2 t8 (shr x1_0 1) x7_0)))
def Vs.f (k:Nat) (a0:Int) (a1:Int) (a2:Int):Option (Int):=Vs.l0 k a2 a0 a1 1
abbrev Vs.R (r:Int) (w:World):Value→World→Prop:=fun v w'=>v= .y r∧Mem w w' (Gs [] [])
theorem Vs.calls {a0:Int} {a1:Int} {a2:Int} {r:Int} (h:Vs.f k a0 a1 a2=some r):Calls prog 192 #[.y a0,.i a1,.i a2] w (Ret (Vs.R r w)):=by
 unfold Vs.f at h
 refine calls_S func192 ?_
 have M:=Mem.r0 w
 refine .gq 11 ?_
 have l0: ∀k_≤k,∀(x0_0:Int) (x1_0:Int) (x7_0:Int) {W:World} (M:Mem w W (Gs [] [])) (h:Vs.l0 k_ a2 x0_0 x1_0 x7_0=some r),RL 192 f192 (Vs.R r w) [1,0,1,1] [(0,.y x0_0),(1,.i x1_0),(2,.i a2),(7,.y x7_0)] W:=by
  refine loopI (by intros;rename_i h;simp [Vs.l0] at h) fun k hk ih0 x0_0 x1_0 x7_0 W M h=> ?_
  simp only [Vs.l0] at h
  refine .gq 6 ?_
  rcases ift h with ⟨c1,h⟩ | ⟨c1,h⟩
  ·refine .kn 9 c1<| .gq 6 ?_
   obtain rfl:=sj h
   exact .ret func192 ⟨rfl,(M.pm [] [])⟩
  refine .kn 9 c1<| .gq 9 ?_
  rcases ift h with ⟨c2,h⟩ | ⟨c2,h⟩
  ·refine .kn 13 c2<| .gq 5 ?_
   obtain ⟨t4,ht4,h⟩:=bs h
   refine .ca (Vr.calls ht4) ?_
   rintro _ W3 ⟨rfl,M_⟩
   replace M:=M.cg M_
   refine .gq 7 ?_
   obtain ⟨t6,ht6,h⟩:=bs h
   refine .ca (Vr.calls ht6) ?_
   rintro _ W5 ⟨rfl,M_⟩
   replace M:=M.cg M_
   exact .gq 8<| .at (ih0 k (by omega) t6 (shr x1_0 1) t4 (M.pm [] []) h)
  refine .kn 13 c2<| .gq 7 ?_
  obtain ⟨t8,ht8,h⟩:=bs h
  refine .ca (Vr.calls ht8) ?_
  rintro _ W7 ⟨rfl,M_⟩
  replace M:=M.cg M_
  exact .gq 8<| .at (ih0 k (by omega) t8 (shr x1_0 1) x7_0 (M.pm [] []) h)
 exact .at (l0 k k.le_refl a0 a1 1 (M.pm [] []) h)
def Qr.l0:Nat→Int→Int→Li→Int→Li→Int→Option Li
 | 0,_,_,_,_,_,_=>none
 | k+1,a0,a1,a2,a3,x9_0,x14_0=>if (decide (x14_0<256))=true then ((Vs.f k (U8 (x14_0)) a0 a1).bind fun t10=>((Qo.f k t10 a2 a3).bind fun t12=>(if (decide (0≤x14_0))=true then (if (decide (x14_0<(256:Int)))=true then (Qr.l0 k a0 a1 a2 a3 (x9_0.set (x14_0:Int).toNat t12) (I64 (x14_0+1))) else (none)) else (none)))) else (some x9_0)
def Qr.f (k:Nat) (a0:Int) (a1:Int) (a2:Li) (a3:Int):Option Li:=Qr.l0 k a0 a1 a2 a3 (List.replicate 256 (0:Int)) 0
abbrev Qr.R (r:Li) (w:World):Value→World→Prop:=fun v w'=> ∃A0' c0',v= .slice A0' r.length c0'∧Mem w w' (Gs [⟨.slice A0' r.length c0',5,1,nums .u8 r⟩] [])
theorem Qr.calls {a0:Int} {a1:Int} {a2:Li} {a3:Int} {r:Li} (hl2:a2.length=8) (hG1:Rg w 1 (nums .u8 [1,2,4,8,16,32,64,128])) (h:Qr.f k a0 a1 a2 a3=some r):Calls prog 154 #[.i a0,.i a1,.agg (nums .u8 a2).toArray,.y a3] w (Ret (Qr.R r w)):=by
 unfold Qr.f at h
 refine calls_S func154 ?_
 have M:=Mem.r0 w
 refine .gq 2<| .nw 212 (nums .u8 a2) M fun g1 W2 M=> .gq 4<| .mn 5 .u8 256 256 M fun g5 W4 M=> .gq 11 ?_
 have l0: ∀k_≤k,∀(x9_0:Li) (x14_0:Int) {W:World} (M:Mem w W (Gs [⟨.pt g1,212,0,nums .u8 a2⟩,⟨.slice (pa g5) 256 256,5,1,nums .u8 x9_0⟩] [])) (h:Qr.l0 k_ a0 a1 a2 a3 x9_0 x14_0=some r),RL 154 f154 (Qr.R r w) [1,1,0,1,0,0] [(0,.i a0),(1,.i a1),(3,.y a3),(6,.pt g1),(9,.slice (pa g5) 256 256),(13,.i 256),(14,.i x14_0)] W:=by
  refine loopI (by intros;rename_i h;simp [Qr.l0] at h) fun k hk ih0 x9_0 x14_0 W M h=> ?_
  simp only [Qr.l0] at h
  refine .gq 5 ?_
  rcases ift h with ⟨c7,h⟩ | ⟨c7,h⟩
  ·refine .kn 15 c7<| .gq 9<| .at (show RL 154 f154 (Qr.R r w) [1,1,0,1,0,0,1,1,0,0,1] [(0,.i a0),(1,.i a1),(3,.y a3),(6,.pt g1),(9,.slice (pa g5) 256 256),(10,.i x14_0),(13,.i 256),(14,.i x14_0)] _ from .dr [1] M fun W8 M=> ?_)
   refine .pz tr [0,1,2,3,4,5]<| .y tr 7 (yl_ldv (all_nums' hl2)) (fun _ hs=>M.bks hs 0 rfl)<| .pz tr [8] ?_
   obtain ⟨t10,ht10,h⟩:=bs h
   refine .a1 tr 6<| .ca (Vs.calls ht10) ?_
   rintro _ W9 ⟨rfl,M_⟩
   refine .ca M_ [1] ?_
   replace M:=M.cg M_
   obtain ⟨t12,ht12,h⟩:=bs h
   refine .a1 tr 9<| .ca (Qo.calls hl2 (hG1.mono M.below) ht12) ?_
   rintro _ W11 ⟨rfl,M_⟩
   refine .ca M_ [1] ?_
   replace M:=M.cg M_
   obtain ⟨c14,h⟩:=ifd h
   obtain ⟨c15,h⟩:=ifd h
   obtain ⟨pq13,Cq13⟩:=M.na 1 rfl c14 c15
   exact .ix tr 10 Cq13<| .a1 tr 11<| .sn t12 Cq13 M 1 rfl fun W16 M=> .dn tr<| .gq 6<| .at (ih0 k (by omega) (x9_0.set (x14_0:Int).toNat t12) (I64 (x14_0+1)) (M.pm [0,1] []) h)
  refine .kn 15 c7<| .gq 7 ?_
  obtain rfl:=sj h
  have hn0_:=(M.or 1).ln
  exact .ret (v:= .slice (pa g5) 256 256) func154 ⟨(pa g5),256,(by rw [hn0_]),by rw [hn0_];exact (M.pm [1] [])⟩
 exact .at (l0 k k.le_refl (List.replicate 256 (0:Int)) 0 (M.pm [1,0] []) h)
def Qs.l0:Nat→Li→(List Bool)→Int→Option (List Bool)
 | 0,_,_,_=>none
 | k+1,a0,x2_0,x7_0=>if (decide (x7_0<(a0.length:Int)))=true then (if (decide (0≤x7_0))=true then (if (decide (x7_0<(a0.length:Int)))=true then (if (decide (0≤(rd a0 x7_0)))=true then (if (decide ((rd a0 x7_0)<(256:Int)))=true then (Qs.l0 k a0 (x2_0.set (rd a0 x7_0:Int).toNat true) (I64 (x7_0+1))) else (none)) else (none)) else (none)) else (none)) else (some x2_0)
def Qs.f (k:Nat) (a0:Li):Option (List Bool):=Qs.l0 k a0 (List.replicate 256 false) 0
abbrev Qs.R (r:List Bool) (w:World):Value→World→Prop:=fun v w'=>v= .agg (bools r).toArray∧r.length=256∧Mem w w' (Gs [] [])
theorem Qs.calls {a0:Li} {r:List Bool} (hr0:Rd w (.slice Ap0 np0 cp0) (nums .u8 a0)) (h:Qs.f k a0=some r):Calls prog 217 #[(.slice Ap0 np0 cp0)] w (Ret (Qs.R r w)):=by
 obtain rfl:=hr0.ln
 unfold Qs.f at h
 refine calls_S func217 ?_
 have M:=Mem.r0 w
 refine .gq 2<| .nw 257 (bools (List.replicate 256 false)) M fun g1 W2 M=> .gq 10 ?_
 have l0: ∀k_≤k,∀(x2_0:List Bool) (x7_0:Int) {W:World} (M:Mem w W (Gs [⟨.pt g1,257,0,bools x2_0⟩] [])) (hlx2_0:x2_0.length=256) (h:Qs.l0 k_ a0 x2_0 x7_0=some r),RL 217 f217 (Qs.R r w) [1,0,1,0,0] [(2,.pt g1),(5,.slice Ap0 a0.length cp0),(6,.i (a0.length:Int)),(7,.i x7_0)] W:=by
  refine loopI (by intros;rename_i h;simp [Qs.l0] at h) fun k hk ih0 x2_0 x7_0 W M hlx2_0 h=> ?_
  simp only [Qs.l0] at h
  refine .gq 5 ?_
  rcases ift h with ⟨c4,h⟩ | ⟨c4,h⟩
  ·refine .kn 8 c4<| .gq 6 ?_
   obtain ⟨c6,h⟩:=ifd h
   obtain ⟨c7,h⟩:=ifd h
   obtain ⟨pq5,Cq5⟩:=(hr0.mono M.below).na c6 c7
   refine .ix Cq5<| .lc Cq5<| .gq 4 ?_
   obtain ⟨c9,h⟩:=ifd h
   obtain ⟨c10,h⟩:=ifd h
   obtain ⟨pq8,Cq8⟩:=M.bv 0 rfl (N:=256) hlx2_0 c9 c10
   exact .ia Cq8<| .vb true Cq8 M 0 rfl hlx2_0 fun W11 M=> .gq 7<| .at (ih0 k (by omega) (x2_0.set (rd a0 x7_0:Int).toNat true) (I64 (x7_0+1)) (M.pm [0] []) (List.length_set.trans hlx2_0) h)
  refine .kn 8 c4<| .gq 4<| .y (yl_ldv (all_bools' hlx2_0)) (M.block 0 rfl)<| .sw (new:=bools x2_0) M 0 rfl (all_bools' hlx2_0) (all_bools' hlx2_0) (all_bools _) fun W12 M=> .gq 1 ?_
  obtain rfl:=sj h
  exact .rc 2 257 256 func217 M 0 rfl (all_bools' hlx2_0) ⟨rfl,hlx2_0,(M.pm [] [])⟩
 exact .at (l0 k k.le_refl (List.replicate 256 false) 0 (M.pm [0] []) List.length_replicate h)
def Qq.l0:Nat→Li→(List Bool)→Int→Option (Bool)
 | 0,_,_,_=>none
 | k+1,a0,x3_0,x10_0=>if (decide (x10_0<(a0.length:Int)))=true then (if (decide (0≤x10_0))=true then (if (decide (x10_0<(256:Int)))=true then (Qq.l0 k a0 (x3_0.set (x10_0:Int).toNat true) (I64 (x10_0+1))) else (none)) else (none)) else ((Qs.f k a0).bind fun t12=>(some (t12==x3_0)))
def Qq.f (k:Nat) (a0:Li):Option (Bool):=if (decide ((a0.length:Int)>256))=true then (some false) else (Qq.l0 k a0 (List.replicate 256 false) 0)
abbrev Qq.R (r:Bool) (w:World):Value→World→Prop:=fun v w'=>v= .bool r∧Mem w w' (Gs [] [])
theorem Qq.calls {a0:Li} {r:Bool} (hr0:Rd w (.slice Ap0 np0 cp0) (nums .u8 a0)) (h:Qq.f k a0=some r):Calls prog 193 #[(.slice Ap0 np0 cp0)] w (Ret (Qq.R r w)):=by
 obtain rfl:=hr0.ln
 unfold Qq.f at h
 refine calls_S func193 ?_
 have M:=Mem.r0 w
 refine .gq 11 ?_
 rcases ift h with ⟨c1,h⟩ | ⟨c1,h⟩
 ·refine .kn 7 c1<| .gq 5 ?_
  obtain rfl:=sj h
  exact .ret func193 ⟨rfl,(M.pm [] [])⟩
 refine .kn 7 c1<| .gq 4<| .nw 257 (bools (List.replicate 256 false)) M fun g2 W3 M=> .gq 10 ?_
 have l0: ∀k_≤k,∀(x3_0:List Bool) (x10_0:Int) {W:World} (M:Mem w W (Gs [⟨.pt g2,257,0,bools x3_0⟩] [])) (hlx3_0:x3_0.length=256) (h:Qq.l0 k_ a0 x3_0 x10_0=some r),RL 193 f193 (Qq.R r w) [1,1,1,0,1,0,0] [(0,.slice Ap0 a0.length cp0),(3,.pt g2),(9,.i (a0.length:Int)),(10,.i x10_0)] W:=by
  refine loopI (by intros;rename_i h;simp [Qq.l0] at h) fun k hk ih0 x3_0 x10_0 W M hlx3_0 h=> ?_
  simp only [Qq.l0] at h
  refine .gq 5 ?_
  rcases ift h with ⟨c5,h⟩ | ⟨c5,h⟩
  ·refine .kn 11 c5<| .gq 11 ?_
   obtain ⟨c7,h⟩:=ifd h
   obtain ⟨c8,h⟩:=ifd h
   obtain ⟨pq6,Cq6⟩:=M.bv 0 rfl (N:=256) hlx3_0 c7 c8
   exact .ia Cq6<| .vb true Cq6 M 0 rfl hlx3_0 fun W9 M=> .gq 7<| .at (ih0 k (by omega) (x3_0.set (x10_0:Int).toNat true) (I64 (x10_0+1)) (M.pm [0] []) (List.length_set.trans hlx3_0) h)
  refine .kn 11 c5<| .gq 3<| .at (show RL 193 f193 (Qq.R r w) [1,1,1,1,0] [(0,.slice Ap0 a0.length cp0),(3,.pt g2)] _ from .dr [] M fun W10 M=> ?_)
  refine .pz tr [0]<| .y tr 2 (yl_ldv (all_bools' hlx3_0)) (fun _ hs=>M.bks hs 0 rfl) ?_
  obtain ⟨t12,ht12,h⟩:=bs h
  refine .a1 tr 1<| .ca (Qs.calls (hr0.mono M.below) ht12) ?_
  rintro _ W11 ⟨rfl,hNt12_0,M_⟩
  refine .ca M_ [] ?_
  replace M:=M.cg M_
  refine .yt tr 3 (yl_eqa (xs:=t12) (ys:=x3_0) hNt12_0 hlx3_0)<| .pz tr [4]<| .dn tr ?_
  obtain rfl:=sj h
  exact .ret func193 ⟨rfl,(M.pm [] [])⟩
 exact .at (l0 k k.le_refl (List.replicate 256 false) 0 (M.pm [0] []) List.length_replicate h)
def Qp.l0:Nat→Li→Li→Int→Option (Li×Bool)
 | 0,_,_,_=>none
 | k+1,a0,x4_0,x15_0=>if (decide (x15_0<(a0.length:Int)))=true then (if (decide (0≤x15_0))=true then (if (decide (x15_0<(a0.length:Int)))=true then (if (decide (0≤(rd a0 x15_0)))=true then (if (decide ((rd a0 x15_0)<(((a0.length:Int)).toNat:Int)))=true then (Qp.l0 k a0 (x4_0.set (rd a0 x15_0:Int).toNat (U8 (x15_0))) (I64 (x15_0+1))) else (none)) else (none)) else (none)) else (none)) else (some (x4_0,true))
def Qp.f (k:Nat) (a0:Li):Option (Li×Bool):=(Qq.f k a0).bind fun t2=>(if (!t2)=true then (some (([]:Li),false)) else (if (decide (0≤(a0.length:Int)))=true then (if (decide ((a0.length:Int)≤1000000000))=true then (Qp.l0 k a0 (List.replicate (((a0.length:Int)).toNat) (0:Int)) 0) else (none)) else (none)))
abbrev Qp.R (r:Li×Bool) (w:World):Value→World→Prop:=fun v w'=> ∃A0' c0',v= .tuple #[.slice A0' r.1.length c0',.bool r.2]∧Mem w w' (Gs [⟨.slice A0' r.1.length c0',5,1,nums .u8 r.1⟩] [])
theorem Qp.calls {a0:Li} {r:Li×Bool} (hr0:Rd w (.slice Ap0 np0 cp0) (nums .u8 a0)) (h:Qp.f k a0=some r):Calls prog 155 #[(.slice Ap0 np0 cp0)] w (Ret (Qp.R r w)):=by
 obtain rfl:=hr0.ln
 unfold Qp.f at h
 refine calls_S func155 ?_
 have M:=Mem.r0 w
 refine .gq 9 ?_
 obtain ⟨t2,ht2,h⟩:=bs h
 refine .ca (Qq.calls (hr0.mono M.below) ht2) ?_
 rintro _ W1 ⟨rfl,M_⟩
 replace M:=M.cg M_
 refine .gq 2 ?_
 rcases ift h with ⟨c3,h⟩ | ⟨c3,h⟩
 ·refine .kn 9 c3<| .gq 6 ?_
  replace M:=M.n1 5
  obtain rfl:=sj h
  exact .ret func155 ⟨none,0,rfl,(M.pm [0] [])⟩
 refine .kn 9 c3<| .gq 6 ?_
 obtain ⟨c7,h⟩:=ifd h
 obtain ⟨c8,h⟩:=ifd h
 refine .mn 5 .u8 (a0.length:Int) (a0.length:Int) M fun g6 W5 M=> .gq 11 ?_
 have l0: ∀k_≤k,∀(x4_0:Li) (x15_0:Int) {W:World} (M:Mem w W (Gs [⟨.slice (pa g6) (((a0.length:Int)).toNat) (((a0.length:Int):Int).toNat),5,1,nums .u8 x4_0⟩] [])) (h:Qp.l0 k_ a0 x4_0 x15_0=some r),RL 155 f155 (Qp.R r w) [1,1,1,0,1,0,0] [(4,.slice (pa g6) (((a0.length:Int)).toNat) (((a0.length:Int):Int).toNat)),(13,.slice Ap0 a0.length cp0),(14,.i (a0.length:Int)),(15,.i x15_0)] W:=by
  refine loopI (by intros;rename_i h;simp [Qp.l0] at h) fun k hk ih0 x4_0 x15_0 W M h=> ?_
  simp only [Qp.l0] at h
  refine .gq 5 ?_
  rcases ift h with ⟨c10,h⟩ | ⟨c10,h⟩
  ·refine .kn 16 c10<| .gq 7 ?_
   obtain ⟨c12,h⟩:=ifd h
   obtain ⟨c13,h⟩:=ifd h
   obtain ⟨pq11,Cq11⟩:=(hr0.mono M.below).na c12 c13
   refine .ix Cq11<| .lc Cq11<| .gq 8 ?_
   obtain ⟨c15,h⟩:=ifd h
   obtain ⟨c16,h⟩:=ifd h
   obtain ⟨pq14,Cq14⟩:=M.na 0 rfl c15 c16
   exact .ix Cq14<| .sn (U8 (x15_0)) Cq14 M 0 rfl fun W17 M=> .gq 7<| .at (ih0 k (by omega) (x4_0.set (rd a0 x15_0:Int).toNat (U8 (x15_0))) (I64 (x15_0+1)) (M.pm [0] []) h)
  refine .kn 16 c10<| .gq 8 ?_
  obtain rfl:=sj h
  have hn0_:=(M.or 0).ln
  exact .ret (v:= .tuple #[.slice (pa g6) (((a0.length:Int)).toNat) (((a0.length:Int):Int).toNat),.bool true]) func155 ⟨(pa g6),((a0.length:Int):Int).toNat,(by rw [hn0_]),by rw [hn0_];exact (M.pm [0] [])⟩
 exact .at (l0 k k.le_refl (List.replicate (((a0.length:Int)).toNat) (0:Int)) 0 (M.pm [0] []) h)
def Qh.f (k:Nat):Option Lj:=(Qr.f k 254 283 ([241,227,199,143,31,62,124,248]:Li) 99).bind fun t5=>((Qr.f k 247 283 ([122,188,235,185,52,129,186,203]:Li) 226).bind fun t13=>((Qp.f k t5).bind fun t22=>((Qp.f k t13).bind fun t31=>(some ([t5,t13,t22.1,t31.1]:Lj)))))
theorem Qh.calls {r:Lj} (hG1:Rg w 1 (nums .u8 [1,2,4,8,16,32,64,128])) (h:Qh.f k=some r):Calls prog 105 #[] w (Ret fun v w'=> ∃(v0':Value) (F0':List Ent),v=v0'∧(rArr 4 (rNums .u8)) (Oks F0') v0' r∧Mem w w' (Gs [] [F0'])):=by
 unfold Qh.f at h
 refine calls_S func105 ?_
 have M:=Mem.r0 w
 refine .gq 2<| .nw 161 ([.slice none 0 0,.slice none 0 0,.slice none 0 0,.slice none 0 0]) M fun g1 W2 M=> .gq 4 ?_
 obtain ⟨t5,ht5,h⟩:=bs h
 refine .ca (Qr.calls rfl (hG1.mono M.below) ht5) ?_
 rintro _ W4 ⟨A6,c7,rfl,M_⟩
 replace M:=M.cg M_
 obtain ⟨pq9,Cq9⟩:=M.vel 1 rfl (N:=4) (i:=0) (u:= .slice none 0 0) (by omega) (by omega) rfl
 refine .ia Cq9<| .ve (.slice A6 t5.length c7) Cq9 M 1 rfl rfl fun W11 M=> .gq 4 ?_
 obtain ⟨t13,ht13,h⟩:=bs h
 refine .ca (Qr.calls rfl (hG1.mono M.below) ht13) ?_
 rintro _ W12 ⟨A14,c15,rfl,M_⟩
 replace M:=M.cg M_
 obtain ⟨pq17,Cq17⟩:=M.vel 2 rfl (N:=4) (i:=1) (u:= .slice none 0 0) (by omega) (by omega) rfl
 refine .ia Cq17<| .ve (.slice A14 t13.length c15) Cq17 M 2 rfl rfl fun W19 M=> .gq 3 ?_
 obtain ⟨pq20,Cq20⟩:=M.vel 2 rfl (N:=4) (i:=0) (u:= .slice A6 t5.length c7) (by omega) (by omega) rfl
 refine .ia Cq20<| .lc Cq20 ?_
 obtain ⟨t22,ht22,h⟩:=bs h
 refine .ca (Qp.calls (M.or 1) ht22) ?_
 rintro _ W21 ⟨A23,c24,rfl,M_⟩
 replace M:=M.cg M_
 refine .gq 3 ?_
 obtain ⟨pq26,Cq26⟩:=M.vel 3 rfl (N:=4) (i:=2) (u:= .slice none 0 0) (by omega) (by omega) rfl
 refine .ia Cq26<| .ve (.slice A23 t22.1.length c24) Cq26 M 3 rfl rfl fun W28 M=> .gq 3 ?_
 obtain ⟨pq29,Cq29⟩:=M.vel 3 rfl (N:=4) (i:=1) (u:= .slice A14 t13.length c15) (by omega) (by omega) rfl
 refine .ia Cq29<| .lc Cq29 ?_
 obtain ⟨t31,ht31,h⟩:=bs h
 refine .ca (Qp.calls (M.or 1) ht31) ?_
 rintro _ W30 ⟨A32,c33,rfl,M_⟩
 replace M:=M.cg M_
 refine .gq 3 ?_
 obtain ⟨pq35,Cq35⟩:=M.vel 4 rfl (N:=4) (i:=3) (u:= .slice none 0 0) (by omega) (by omega) rfl
 refine .ia Cq35<| .ve (.slice A32 t31.1.length c33) Cq35 M 4 rfl rfl fun W37 M=> .gq 3<| .y (yl_ldv (N:=4) (by rfl)) (M.block 4 rfl)<| .sw (N:=4) (new:=[.slice A6 t5.length c7,.slice A14 t13.length c15,.slice A23 t22.1.length c24,.slice A32 t31.1.length c33]) M 4 rfl (by rfl) (by rfl) (by simp [Value.oneCell']) fun W39 M=> .gq 1 ?_
 obtain ⟨Fq40,hfq40,M⟩:=M.fs 3
 obtain ⟨Fq41,hfq41,M⟩:=M.fs 2
 obtain ⟨Fq42,hfq42,M⟩:=M.fs 1
 obtain ⟨Fq43,hfq43,M⟩:=M.fs 0
 have hqq44:Each2 ((rNums .u8) (andZ (Oks Fq40) (andZ (Oks Fq41) (andZ (Oks Fq42) (Oks Fq43))))) [.slice A6 t5.length c7,.slice A14 t13.length c15,.slice A23 t22.1.length c24,.slice A32 t31.1.length c33] ([t5,t13,t22.1,t31.1]:Lj):=(.cons (rno (RdF.up hfq40 (fun _ z=>z.1)) (ai (M.oks 3) (ai (M.oks 2) (ai (M.oks 1) (M.oks 0))))) (.cons (rno (RdF.up hfq41 (fun _ z=>z.2.1)) (ai (M.oks 3) (ai (M.oks 2) (ai (M.oks 1) (M.oks 0))))) (.cons (rno (RdF.up hfq42 (fun _ z=>z.2.2.1)) (ai (M.oks 3) (ai (M.oks 2) (ai (M.oks 1) (M.oks 0))))) (.cons (rno (RdF.up hfq43 (fun _ z=>z.2.2.2)) (ai (M.oks 3) (ai (M.oks 2) (ai (M.oks 1) (M.oks 0))))) (Each2.nil _)))))
 obtain rfl:=sj h
 exact .rc 0 161 4 func105 M 0 rfl (hqq44.1.trans (rfl:([t5,t13,t22.1,t31.1]:Lj).length=4)) ⟨_,(List.flatten [Fq40,Fq41,Fq42,Fq43]),rfl,(up_arr (up_nums .u8)) _ _ _ _ (fun _ (z:Oks _ _)=>(ai (z.g 0 rfl) (ai (z.g 1 rfl) (ai (z.g 2 rfl) (z.g 3 rfl))))) ⟨_,rfl,(rfl:([t5,t13,t22.1,t31.1]:Lj).length=4),hqq44⟩,(M.pm [] [[3,2,1,0]])⟩
def Qe.l0:Nat→Lj→Int→Li→Li→Int→Option Li
 | 0,_,_,_,_,_=>none
 | k+1,a0,a1,a2,x7_0,x15_0=>if (decide (x15_0<(a2.length:Int)))=true then (gd (0≤x15_0) (gd (x15_0<(a2.length:Int)) ((some (Int.tmod (I64 (x15_0+(I64 (2*(I64 (a1-1)))))) 4:Int)).bind fun y13=>(gd (0≤y13) (gd (y13<(4:Int)) (gd (0≤(rd a2 x15_0)) (gd ((rd a2 x15_0)<((rdr ([]:Li) a0 y13).length:Int)) ((some (rd (rdr ([]:Li) a0 y13) (rd a2 x15_0):Int)).bind fun y20=>(gd (0≤x15_0) (gd (x15_0<(((a2.length:Int)).toNat:Int)) (Qe.l0 k a0 a1 a2 (x7_0.set (x15_0:Int).toNat y20) (I64 (x15_0+1))))))))))))) else (some x7_0)
def Qe.f (k:Nat) (a0:Lj) (a1:Int) (a2:Li):Option Li:=gd (0≤(a2.length:Int)) (gd ((a2.length:Int)≤1000000000) (Qe.l0 k a0 a1 a2 (List.replicate (((a2.length:Int)).toNat) (0:Int)) 0))
abbrev Qe.R (r:Li) (w:World):Value→World→Prop:=fun v w'=> ∃A0' c0',v= .slice A0' r.length c0'∧Mem w w' (Gs [⟨.slice A0' r.length c0',5,1,nums .u8 r⟩] [])
theorem Qe.calls {vp0:Value} {a0:Lj} {a1:Int} {a2:Li} {r:Li} (hr2:Rd w (.slice Ap2 np2 cp2) (nums .u8 a2)) (hp0:(rArr 4 (rNums .u8)) Zp0 vp0 a0) (hZp0: ∀W,Kept w W→Zp0 W) (h:Qe.f k a0 a1 a2=some r):Calls prog 109 #[vp0,.i a1,(.slice Ap2 np2 cp2)] w (Ret (Qe.R r w)):=by
 obtain rfl:=hr2.ln
 obtain ⟨cs0,rfl,hl0,hq0⟩:=hp0
 unfold Qe.f at h
 refine calls_S func109 ?_
 have M:=Mem.r0 w
 refine .gq 2<| .nw 161 (cs0) M fun g1 W2 M=> .gq 6 ?_
 obtain ⟨c6,h⟩:=ifd h
 obtain ⟨c7,h⟩:=ifd h
 refine .mn 5 .u8 (a2.length:Int) (a2.length:Int) M fun g5 W4 M=> .gq 11 ?_
 have l0: ∀k_≤k,∀(x7_0:Li) (x15_0:Int) {W:World} (M:Mem w W (Gs [⟨.pt g1,161,0,cs0⟩,⟨.slice (pa g5) (((a2.length:Int)).toNat) (((a2.length:Int):Int).toNat),5,1,nums .u8 x7_0⟩] [])) (h:Qe.l0 k_ a0 a1 a2 x7_0 x15_0=some r),RL 109 f109 (Qe.R r w) [1,1,0,1,0,0] [(1,.i a1),(3,.pt g1),(7,.slice (pa g5) (((a2.length:Int)).toNat) (((a2.length:Int):Int).toNat)),(13,.slice Ap2 a2.length cp2),(14,.i (a2.length:Int)),(15,.i x15_0)] W:=by
  refine loopI (by intros;rename_i h;simp [Qe.l0] at h) fun k hk ih0 x7_0 x15_0 W M h=> ?_
  simp only [Qe.l0] at h
  refine .gq 5 ?_
  rcases ift h with ⟨c9,h⟩ | ⟨c9,h⟩
  ·refine .kn 16 c9<| .gq 7 ?_
   obtain ⟨c11,h⟩:=ifd h
   obtain ⟨c12,h⟩:=ifd h
   obtain ⟨pq10,Cq10⟩:=(hr2.mono M.below).na c11 c12
   refine .ix Cq10<| .lc Cq10<| .gq 12 ?_
   let y13:Int:=Int.tmod (I64 (x15_0+(I64 (2*(I64 (a1-1)))))) 4
   replace h:=bz (y:=y13) h rfl
   obtain ⟨c15,h⟩:=ifd h
   obtain ⟨c16,h⟩:=ifd h
   obtain ⟨uq14,huq14,hvq14⟩:=Each2.at hq0 ([]:Li) (i:=y13) c15 (by rw [show a0.length=4 from hl0];exact c16)
   obtain ⟨Aq14,cq14,rfl,hq14⟩:=hvq14
   obtain ⟨pq14,Cq14⟩:=M.vel 0 rfl (N:=4) (i:=y13) c15 c16 huq14
   refine .ia Cq14<| .lc Cq14<| .gq 1 ?_
   obtain ⟨c18,h⟩:=ifd h
   obtain ⟨c19,h⟩:=ifd h
   obtain ⟨pq17,Cq17⟩:=(hq14 _ (hZp0 _ M.kept)).na c18 c19
   refine .ix Cq17<| .lc Cq17 ?_
   let y20:Int:=rd (rdr ([]:Li) a0 y13) (rd a2 x15_0)
   replace h:=bz (y:=y20) h rfl
   obtain ⟨c22,h⟩:=ifd h
   obtain ⟨c23,h⟩:=ifd h
   obtain ⟨pq21,Cq21⟩:=M.na 1 rfl c22 c23
   exact .ix Cq21<| .sn y20 Cq21 M 1 rfl fun W24 M=> .gq 7<| .at (ih0 k (by omega) (x7_0.set (x15_0:Int).toNat y20) (I64 (x15_0+1)) (M.pm [0,1] []) h)
  refine .kn 16 c9<| .gq 7 ?_
  obtain rfl:=sj h
  have hn0_:=(M.or 1).ln
  exact .ret (v:= .slice (pa g5) (((a2.length:Int)).toNat) (((a2.length:Int):Int).toNat)) func109 ⟨(pa g5),((a2.length:Int):Int).toNat,(by rw [hn0_]),by rw [hn0_];exact (M.pm [1] [])⟩
 exact .at (l0 k k.le_refl (List.replicate (((a2.length:Int)).toNat) (0:Int)) 0 (M.pm [1,0] []) h)
def Qi.f (k:Nat) (a0:Int):Option Li:=if (a0==0)=true then (some ([3,4,6,8,9,13,14]:Li)) else (if (a0==1)=true then (some ([2,5,7,8,9,12,15]:Li)) else (if (a0==2)=true then (some ([1,4,6,10,11,12,15]:Li)) else (if (a0==3)=true then (some ([0,5,7,10,11,13,14]:Li)) else (if (a0==4)=true then (some ([0,2,5,8,11,14,15]:Li)) else (if (a0==5)=true then (some ([1,3,4,9,10,14,15]:Li)) else (if (a0==6)=true then (some ([0,2,7,9,10,12,13]:Li)) else (if (a0==7)=true then (some ([1,3,6,8,11,12,13]:Li)) else (if (a0==8)=true then (some ([0,1,4,7,10,13,15]:Li)) else (if (a0==9)=true then (some ([0,1,5,6,11,12,14]:Li)) else (if (a0==10)=true then (some ([2,3,5,6,8,13,15]:Li)) else (if (a0==11)=true then (some ([2,3,4,7,9,12,14]:Li)) else (if (a0==12)=true then (some ([1,2,6,7,9,11,12]:Li)) else (if (a0==13)=true then (some ([0,3,6,7,8,10,13]:Li)) else (if (a0==14)=true then (some ([0,3,4,5,9,11,14]:Li)) else (some ([1,2,4,5,8,10,15]:Li))))))))))))))))
theorem Qi.calls {a0:Int} {r:Li} (h:Qi.f k a0=some r):Calls prog 157 #[.i a0] w (Ret fun v w'=>v= .agg (nums .i64 r).toArray∧r.length=7∧Mem w w' (Gs [] [])):=by
 unfold Qi.f at h
 refine calls_S func157 ?_
 have M:=Mem.r0 w
 refine .gq 2<| .nw 216 (nums .i64 (List.replicate 7 (0:Int))) M fun g1 W2 M=> .gq 12 ?_
 rcases ift h with ⟨c4,h⟩ | ⟨c4,h⟩
 ·refine .kn 4 c4<| .gq 4<| .sw (new:=nums .i64 ([3,4,6,8,9,13,14]:Li)) M 0 rfl (all_nums' List.length_replicate) (all_nums' rfl) (all_nums _ _) fun W5 M=> .gq 1 ?_
  obtain rfl:=sj h
  exact .rc 2 216 7 func157 M 0 rfl (all_nums' rfl) ⟨rfl,rfl,(M.pm [] [])⟩
 refine .kn 4 c4<| .gq 6 ?_
 rcases ift h with ⟨c6,h⟩ | ⟨c6,h⟩
 ·refine .kn 7 c6<| .gq 4<| .sw (new:=nums .i64 ([2,5,7,8,9,12,15]:Li)) M 0 rfl (all_nums' List.length_replicate) (all_nums' rfl) (all_nums _ _) fun W7 M=> .gq 1 ?_
  obtain rfl:=sj h
  exact .rc 2 216 7 func157 M 0 rfl (all_nums' rfl) ⟨rfl,rfl,(M.pm [] [])⟩
 refine .kn 7 c6<| .gq 6 ?_
 rcases ift h with ⟨c8,h⟩ | ⟨c8,h⟩
 ·refine .kn 10 c8<| .gq 4<| .sw (new:=nums .i64 ([1,4,6,10,11,12,15]:Li)) M 0 rfl (all_nums' List.length_replicate) (all_nums' rfl) (all_nums _ _) fun W9 M=> .gq 1 ?_
  obtain rfl:=sj h
  exact .rc 2 216 7 func157 M 0 rfl (all_nums' rfl) ⟨rfl,rfl,(M.pm [] [])⟩
 refine .kn 10 c8<| .gq 6 ?_
 rcases ift h with ⟨c10,h⟩ | ⟨c10,h⟩
 ·refine .kn 13 c10<| .gq 4<| .sw (new:=nums .i64 ([0,5,7,10,11,13,14]:Li)) M 0 rfl (all_nums' List.length_replicate) (all_nums' rfl) (all_nums _ _) fun W11 M=> .gq 1 ?_
  obtain rfl:=sj h
  exact .rc 2 216 7 func157 M 0 rfl (all_nums' rfl) ⟨rfl,rfl,(M.pm [] [])⟩
 refine .kn 13 c10<| .gq 6 ?_
 rcases ift h with ⟨c12,h⟩ | ⟨c12,h⟩
 ·refine .kn 16 c12<| .gq 4<| .sw (new:=nums .i64 ([0,2,5,8,11,14,15]:Li)) M 0 rfl (all_nums' List.length_replicate) (all_nums' rfl) (all_nums _ _) fun W13 M=> .gq 1 ?_
  obtain rfl:=sj h
  exact .rc 2 216 7 func157 M 0 rfl (all_nums' rfl) ⟨rfl,rfl,(M.pm [] [])⟩
 refine .kn 16 c12<| .gq 6 ?_
 rcases ift h with ⟨c14,h⟩ | ⟨c14,h⟩
 ·refine .kn 19 c14<| .gq 4<| .sw (new:=nums .i64 ([1,3,4,9,10,14,15]:Li)) M 0 rfl (all_nums' List.length_replicate) (all_nums' rfl) (all_nums _ _) fun W15 M=> .gq 1 ?_
  obtain rfl:=sj h
  exact .rc 2 216 7 func157 M 0 rfl (all_nums' rfl) ⟨rfl,rfl,(M.pm [] [])⟩
 refine .kn 19 c14<| .gq 6 ?_
 rcases ift h with ⟨c16,h⟩ | ⟨c16,h⟩
 ·refine .kn 22 c16<| .gq 4<| .sw (new:=nums .i64 ([0,2,7,9,10,12,13]:Li)) M 0 rfl (all_nums' List.length_replicate) (all_nums' rfl) (all_nums _ _) fun W17 M=> .gq 1 ?_
  obtain rfl:=sj h
  exact .rc 2 216 7 func157 M 0 rfl (all_nums' rfl) ⟨rfl,rfl,(M.pm [] [])⟩
 refine .kn 22 c16<| .gq 6 ?_
 rcases ift h with ⟨c18,h⟩ | ⟨c18,h⟩
 ·refine .kn 25 c18<| .gq 4<| .sw (new:=nums .i64 ([1,3,6,8,11,12,13]:Li)) M 0 rfl (all_nums' List.length_replicate) (all_nums' rfl) (all_nums _ _) fun W19 M=> .gq 1 ?_
  obtain rfl:=sj h
  exact .rc 2 216 7 func157 M 0 rfl (all_nums' rfl) ⟨rfl,rfl,(M.pm [] [])⟩
 refine .kn 25 c18<| .gq 6 ?_
 rcases ift h with ⟨c20,h⟩ | ⟨c20,h⟩
 ·refine .kn 28 c20<| .gq 4<| .sw (new:=nums .i64 ([0,1,4,7,10,13,15]:Li)) M 0 rfl (all_nums' List.length_replicate) (all_nums' rfl) (all_nums _ _) fun W21 M=> .gq 1 ?_
  obtain rfl:=sj h
  exact .rc 2 216 7 func157 M 0 rfl (all_nums' rfl) ⟨rfl,rfl,(M.pm [] [])⟩
 refine .kn 28 c20<| .gq 6 ?_
 rcases ift h with ⟨c22,h⟩ | ⟨c22,h⟩
 ·refine .kn 31 c22<| .gq 4<| .sw (new:=nums .i64 ([0,1,5,6,11,12,14]:Li)) M 0 rfl (all_nums' List.length_replicate) (all_nums' rfl) (all_nums _ _) fun W23 M=> .gq 1 ?_
  obtain rfl:=sj h
  exact .rc 2 216 7 func157 M 0 rfl (all_nums' rfl) ⟨rfl,rfl,(M.pm [] [])⟩
 refine .kn 31 c22<| .gq 6 ?_
 rcases ift h with ⟨c24,h⟩ | ⟨c24,h⟩
 ·refine .kn 34 c24<| .gq 4<| .sw (new:=nums .i64 ([2,3,5,6,8,13,15]:Li)) M 0 rfl (all_nums' List.length_replicate) (all_nums' rfl) (all_nums _ _) fun W25 M=> .gq 1 ?_
  obtain rfl:=sj h
  exact .rc 2 216 7 func157 M 0 rfl (all_nums' rfl) ⟨rfl,rfl,(M.pm [] [])⟩
 refine .kn 34 c24<| .gq 6 ?_
 rcases ift h with ⟨c26,h⟩ | ⟨c26,h⟩
 ·refine .kn 37 c26<| .gq 4<| .sw (new:=nums .i64 ([2,3,4,7,9,12,14]:Li)) M 0 rfl (all_nums' List.length_replicate) (all_nums' rfl) (all_nums _ _) fun W27 M=> .gq 1 ?_
  obtain rfl:=sj h
  exact .rc 2 216 7 func157 M 0 rfl (all_nums' rfl) ⟨rfl,rfl,(M.pm [] [])⟩
 refine .kn 37 c26<| .gq 6 ?_
 rcases ift h with ⟨c28,h⟩ | ⟨c28,h⟩
 ·refine .kn 40 c28<| .gq 4<| .sw (new:=nums .i64 ([1,2,6,7,9,11,12]:Li)) M 0 rfl (all_nums' List.length_replicate) (all_nums' rfl) (all_nums _ _) fun W29 M=> .gq 1 ?_
  obtain rfl:=sj h
  exact .rc 2 216 7 func157 M 0 rfl (all_nums' rfl) ⟨rfl,rfl,(M.pm [] [])⟩
 refine .kn 40 c28<| .gq 6 ?_
 rcases ift h with ⟨c30,h⟩ | ⟨c30,h⟩
 ·refine .kn 43 c30<| .gq 4<| .sw (new:=nums .i64 ([0,3,6,7,8,10,13]:Li)) M 0 rfl (all_nums' List.length_replicate) (all_nums' rfl) (all_nums _ _) fun W31 M=> .gq 1 ?_
  obtain rfl:=sj h
  exact .rc 2 216 7 func157 M 0 rfl (all_nums' rfl) ⟨rfl,rfl,(M.pm [] [])⟩
 refine .kn 43 c30<| .gq 6 ?_
 rcases ift h with ⟨c32,h⟩ | ⟨c32,h⟩
 ·refine .kn 46 c32<| .gq 4<| .sw (new:=nums .i64 ([0,3,4,5,9,11,14]:Li)) M 0 rfl (all_nums' List.length_replicate) (all_nums' rfl) (all_nums _ _) fun W33 M=> .gq 1 ?_
  obtain rfl:=sj h
  exact .rc 2 216 7 func157 M 0 rfl (all_nums' rfl) ⟨rfl,rfl,(M.pm [] [])⟩
 refine .kn 46 c32<| .gq 6<| .sw (new:=nums .i64 ([1,2,4,5,8,10,15]:Li)) M 0 rfl (all_nums' List.length_replicate) (all_nums' rfl) (all_nums _ _) fun W34 M=> .gq 1 ?_
 obtain rfl:=sj h
 exact .rc 2 216 7 func157 M 0 rfl (all_nums' rfl) ⟨rfl,rfl,(M.pm [] [])⟩
mutual
def Qb.l0:Nat→Li→Li→Int→Option (Li×Bool)
 | 0,_,_,_=>none
 | k+1,a0,x4_0,x14_0=>if (decide (x14_0<16))=true then ((Qi.f k x14_0).bind fun t8=>(Qb.l1 k a0 t8 x14_0 x4_0 0)) else (some (x4_0,true))
def Qb.l1:Nat→Li→Li→Int→Li→Int→Option (Li×Bool)
 | 0,_,_,_,_,_=>none
 | k+1,a0,t8,x14_0,x4_1,x19_1=>if (decide (x19_1<7))=true then (gd (0≤x19_1) (gd (x19_1<(7:Int)) (gd (0≤x14_0) (gd (x14_0<(16:Int)) (gd (0≤(rd t8 x19_1)) (gd ((rd t8 x19_1)<(a0.length:Int)) (gd (0≤x14_0) (gd (x14_0<(16:Int)) (Qb.l1 k a0 t8 x14_0 (x4_1.set (x14_0:Int).toNat (bxor .u8 (rd x4_1 x14_0) (rd a0 (rd t8 x19_1)))) (I64 (x19_1+1))))))))))) else (Qb.l0 k a0 x4_1 (I64 (x14_0+1)))
end
def Qb.f (k:Nat) (a0:Li):Option (Li×Bool):=if ((a0.length:Int) != 16)=true then (some (([]:Li),false)) else (Qb.l0 k a0 (List.replicate 16 (0:Int)) 0)
abbrev Qb.R (r:Li×Bool) (w:World):Value→World→Prop:=fun v w'=> ∃A0' c0',v= .tuple #[.slice A0' r.1.length c0',.bool r.2]∧Mem w w' (Gs [⟨.slice A0' r.1.length c0',5,1,nums .u8 r.1⟩] [])
theorem Qb.calls {a0:Li} {r:Li×Bool} (hr0:Rd w (.slice Ap0 np0 cp0) (nums .u8 a0)) (h:Qb.f k a0=some r):Calls prog 110 #[(.slice Ap0 np0 cp0)] w (Ret (Qb.R r w)):=by
 obtain rfl:=hr0.ln
 unfold Qb.f at h
 refine calls_S func110 ?_
 have M:=Mem.r0 w
 refine .gq 12 ?_
 rcases ift h with ⟨c1,h⟩ | ⟨c1,h⟩
 ·refine .kn 10 c1<| .gq 6 ?_
  replace M:=M.n1 5
  obtain rfl:=sj h
  exact .ret func110 ⟨none,0,rfl,(M.pm [0] [])⟩
 refine .kn 10 c1<| .gq 4<| .mn 5 .u8 16 16 M fun g4 W3 M=> .gq 11 ?_
 have l0: ∀k_≤k,∀(x4_0:Li) (x14_0:Int) {W:World} (M:Mem w W (Gs [⟨.slice (pa g4) 16 16,5,1,nums .u8 x4_0⟩] [])) (h:Qb.l0 k_ a0 x4_0 x14_0=some r),RL 110 f110 (Qb.R r w) [1,1,1,0,1,0,0] [(0,.slice Ap0 a0.length cp0),(4,.slice (pa g4) 16 16),(13,.i 16),(14,.i x14_0)] W:=by
  refine loopI (by intros;rename_i h;simp [Qb.l0] at h) fun k hk ih0 x4_0 x14_0 W M h=> ?_
  simp only [Qb.l0] at h
  refine .gq 5 ?_
  rcases ift h with ⟨c6,h⟩ | ⟨c6,h⟩
  ·refine .kn 15 c6<| .gq 12 ?_
   obtain ⟨t8,ht8,h⟩:=bs h
   refine .ca (Qi.calls ht8) ?_
   rintro _ W7 ⟨rfl,hNt8_0,M_⟩
   replace M:=M.cg M_
   refine .gq 4 ?_
   have l1: ∀k_≤k,∀(x4_1:Li) (x19_1:Int) {W:World} (M:Mem w W (Gs [⟨.slice (pa g4) 16 16,5,1,nums .u8 x4_1⟩] [])) (h:Qb.l1 k_ a0 t8 x14_0 x4_1 x19_1=some r),RL 110 f110 (Qb.R r w) [1,1,1,0,1,0,0,1,1,0,0,1,1,0,0] [(0,.slice Ap0 a0.length cp0),(4,.slice (pa g4) 16 16),(5,.i x14_0),(13,.i 16),(14,.i x14_0),(18,.agg (nums .i64 t8).toArray),(19,.i x19_1)] W:=by
    refine loopI (by intros;rename_i h;simp [Qb.l1] at h) fun k hk ih1 x4_1 x19_1 W M h=> ?_
    simp only [Qb.l1] at h
    refine .gq 5 ?_
    rcases ift h with ⟨c9,h⟩ | ⟨c9,h⟩
    ·refine .kn 20 c9<| .gq 6 ?_
     obtain ⟨c10,h⟩:=ifd h
     obtain ⟨c11,h⟩:=ifd h
     refine .yt (yl_ixv (kd:= .i64) (N:=7) hNt8_0 c10 c11)<| .gq 2<| .at (show RL 110 f110 (Qb.R r w) [1,1,1,0,1,0,0,1,1,0,0,1,1,0,0,1,1,0,0,1] [(0,.slice Ap0 a0.length cp0),(4,.slice (pa g4) 16 16),(5,.i x14_0),(7,.i (rd t8 x19_1)),(13,.i 16),(14,.i x14_0),(18,.agg (nums .i64 t8).toArray),(19,.i x19_1)] _ from .dr [0] M fun W12 M=> ?_)
     refine .pz tr [0,1] ?_
     obtain ⟨c14,h⟩:=ifd h
     obtain ⟨c15,h⟩:=ifd h
     obtain ⟨pq13,Cq13⟩:=M.na 0 rfl c14 c15
     refine .ix tr 2 Cq13<| .pz tr [4,5] ?_
     obtain ⟨c17,h⟩:=ifd h
     obtain ⟨c18,h⟩:=ifd h
     obtain ⟨pq16,Cq16⟩:=(hr0.mono M.below).na c17 c18
     refine .ix tr 6 Cq16<| .ln tr 7 Cq16 (fun _ hs=>(Rd.kept hr0 (M.ks hs)))<| .a1 tr 3<| .ln Cq13 (M.or 0)<| .pz tr [8] ?_
     obtain ⟨c20,h⟩:=ifd h
     obtain ⟨c21,h⟩:=ifd h
     obtain ⟨pq19,Cq19⟩:=M.na 0 rfl c20 c21
     exact .ix tr 9 Cq19<| .a1 tr 10<| .sn (bxor .u8 (rd x4_1 x14_0) (rd a0 (rd t8 x19_1))) Cq19 M 0 rfl fun W22 M=> .dn tr<| .gq 6<| .at (ih1 k (by omega) (x4_1.set (x14_0:Int).toNat (bxor .u8 (rd x4_1 x14_0) (rd a0 (rd t8 x19_1)))) (I64 (x19_1+1)) (M.pm [0] []) h)
    exact .kn 20 c9<| .gq 8<| .at (ih0 k (by omega) x4_1 (I64 (x14_0+1)) (M.pm [0] []) h)
   exact .at (l1 k k.le_refl x4_0 0 (M.pm [0] []) h)
  refine .kn 15 c6<| .gq 8 ?_
  obtain rfl:=sj h
  have hn0_:=(M.or 0).ln
  exact .ret (v:= .tuple #[.slice (pa g4) 16 16,.bool true]) func110 ⟨(pa g4),16,(by rw [hn0_]),by rw [hn0_];exact (M.pm [0] [])⟩
 exact .at (l0 k k.le_refl (List.replicate 16 (0:Int)) 0 (M.pm [0] []) h)
def Qf.f (k:Nat) (a0:Lj) (a1:Int) (a2:Li) (a3:Li):Option Li:=(Jd.f k a2 a3).bind fun t5=>((Qe.f k a0 a1 t5.1).bind fun t10=>((Qb.f k t10).bind fun t15=>(some t15.1)))
theorem Qf.calls {vp0:Value} {a0:Lj} {a1:Int} {a2:Li} {a3:Li} {r:Li} (hr2:Rd w (.slice Ap2 np2 cp2) (nums .u8 a2)) (hr3:Rd w (.slice Ap3 np3 cp3) (nums .u8 a3)) (hp0:(rArr 4 (rNums .u8)) Zp0 vp0 a0) (hZp0: ∀W,Kept w W→Zp0 W) (h:Qf.f k a0 a1 a2 a3=some r):Calls prog 107 #[vp0,.i a1,(.slice Ap2 np2 cp2),(.slice Ap3 np3 cp3)] w (Ret fun v w'=> ∃A0' c0',v= .slice A0' r.length c0'∧Mem w w' (Gs [⟨.slice A0' r.length c0',5,1,nums .u8 r⟩] [])):=by
 obtain rfl:=hr2.ln
 obtain rfl:=hr3.ln
 obtain ⟨cs0,rfl,hl0,hq0⟩:=hp0
 unfold Qf.f at h
 refine calls_S func107 ?_
 have M:=Mem.r0 w
 refine .gq 2<| .nw 161 (cs0) M fun g1 W2 M=> .gq 6 ?_
 obtain ⟨t5,ht5,h⟩:=bs h
 refine .ca (Jd.calls (hr2.mono M.below) (hr3.mono M.below) ht5) ?_
 rintro _ W4 ⟨A6,c7,rfl,M_⟩
 replace M:=M.cg M_
 refine .gq 7<| .y (yl_ldv (N:=4) (hq0.1.trans hl0)) (M.block 1 rfl)<| .gq 2 ?_
 obtain ⟨t10,ht10,h⟩:=bs h
 refine .ca (Qe.calls (M.or 0) ⟨_,rfl,hl0,hq0⟩ (zp M hZp0) ht10) ?_
 rintro _ W9 ⟨A11,c12,rfl,M_⟩
 replace M:=M.cg M_
 obtain ⟨t15,ht15,h⟩:=bs h
 refine .ca (Qb.calls (M.or 0) ht15) ?_
 rintro _ W14 ⟨A16,c17,rfl,M_⟩
 replace M:=M.cg M_
 refine .gq 10 ?_
 obtain rfl:=sj h
 exact .ret func107 ⟨A16,c17,rfl,(M.pm [0] [])⟩
def K9.f (k:Nat) (a0:Int):Option Li:=(Jg.f k a0 8).bind fun t2=>(some t2)
theorem K9.calls {a0:Int} {r:Li} (h:K9.f k a0=some r):Calls prog 194 #[.int .u64 a0] w (Ret fun v w'=> ∃A0' c0',v= .slice A0' r.length c0'∧Mem w w' (Gs [⟨.slice A0' r.length c0',5,1,nums .u8 r⟩] [])):=by
 unfold K9.f at h
 refine calls_S func194 ?_
 have M:=Mem.r0 w
 refine .gq 7 ?_
 obtain ⟨t2,ht2,h⟩:=bs h
 refine .ca (Jg.calls ht2) ?_
 rintro _ W1 ⟨A3,c4,rfl,M_⟩
 replace M:=M.cg M_
 refine .gq 2 ?_
 obtain rfl:=sj h
 exact .ret func194 ⟨A3,c4,rfl,(M.pm [0] [])⟩
def Qj.f (k:Nat):Option Lj:=(K9.f k (rd (sub ([5871781006564002452,18308165927316385504,7904181063698728992,18386141011142107824,15821769039155751280,226472410124699918]:Li) 0 2) 0)).bind fun t12=>((K9.f k (rd (sub ([5871781006564002452,18308165927316385504,7904181063698728992,18386141011142107824,15821769039155751280,226472410124699918]:Li) 0 2) 1)).bind fun t17=>(gd (t12.length+t17.length≤1000000000) ((K9.f k (rd (sub ([5871781006564002452,18308165927316385504,7904181063698728992,18386141011142107824,15821769039155751280,226472410124699918]:Li) 1 2) 0)).bind fun t37=>((K9.f k (rd (sub ([5871781006564002452,18308165927316385504,7904181063698728992,18386141011142107824,15821769039155751280,226472410124699918]:Li) 1 2) 1)).bind fun t42=>(gd (t37.length+t42.length≤1000000000) ((K9.f k (rd (sub ([5871781006564002452,18308165927316385504,7904181063698728992,18386141011142107824,15821769039155751280,226472410124699918]:Li) 2 2) 0)).bind fun t62=>((K9.f k (rd (sub ([5871781006564002452,18308165927316385504,7904181063698728992,18386141011142107824,15821769039155751280,226472410124699918]:Li) 2 2) 1)).bind fun t67=>(gd (t62.length+t67.length≤1000000000) (some ([(t12++t17),(t37++t42),(t62++t67)]:Lj))))))))))
abbrev Qj.R (r:Lj) (w:World):Value→World→Prop:=fun v w'=> ∃(v0':Value) (F0':List Ent),v=v0'∧(rArr 3 (rNums .u8)) (Oks F0') v0' r∧Mem w w' (Gs [] [F0'])
theorem Qj.calls {r:Lj} (h:Qj.f k=some r):Calls prog 156 #[] w (Ret (Qj.R r w)):=by
 unfold Qj.f at h
 refine calls_S func156 ?_
 have M:=Mem.r0 w
 refine .gq 2<| .nw 213 ([.slice none 0 0,.slice none 0 0,.slice none 0 0]) M fun g1 W2 M=> .gq 24<| .yt (yl_ixm (kd:= .u64) (len:=3) (i:=0) 2 (rfl:([5871781006564002452,18308165927316385504,7904181063698728992,18386141011142107824,15821769039155751280,226472410124699918]:Li).length=_) (by omega) (by decide))<| .nw 241 (nums .u64 (List.replicate 2 (0:Int))) M fun g4 W5 M=> .gq 1<| .sw (new:=nums .u64 (sub ([5871781006564002452,18308165927316385504,7904181063698728992,18386141011142107824,15821769039155751280,226472410124699918]:Li) 0 2)) M 0 rfl (all_nums' List.length_replicate) (all_nums' (sub_length (N:=3) (i:=0) (by omega) (by decide) rfl)) (all_nums _ _) fun W7 M=> .gq 1<| .at (show RL 156 f156 (Qj.R r w) [1,0,1,0,0,1,1,0,0,1] [(0,.pt g1),(1,.i 0),(2,.pt g4),(6,.agg (nums .u64 ([5871781006564002452,18308165927316385504,7904181063698728992,18386141011142107824,15821769039155751280,226472410124699918]:Li)).toArray),(7,.i 0)] _ from .dr [1] M fun W8 M=> ?_)
 refine .pz tr [0] ?_
 obtain ⟨pq9,Cq9⟩:=M.nv 0 rfl (N:=2) (i:=0) (sub_length (N:=3) (i:=0) (by omega) (by decide) rfl) (by omega) (by decide)
 refine .ia tr 1 Cq9<| .vn tr 2 Cq9 M 0 rfl (sub_length (N:=3) (i:=0) (by omega) (by decide) rfl) ?_
 obtain ⟨pq10,Cq10⟩:=M.nv 0 rfl (N:=2) (i:=1) (sub_length (N:=3) (i:=0) (by omega) (by decide) rfl) (by omega) (by decide)
 refine .ia tr 4 Cq10<| .vn tr 5 Cq10 M 0 rfl (sub_length (N:=3) (i:=0) (by omega) (by decide) rfl) ?_
 obtain ⟨t12,ht12,h⟩:=bs h
 refine .a1 tr 3<| .ca (K9.calls ht12) ?_
 rintro _ W11 ⟨A13,c14,rfl,M_⟩
 refine .ca M_ [0,2] ?_
 replace M:=M.cg M_
 obtain ⟨t17,ht17,h⟩:=bs h
 refine .a1 tr 6<| .ca (K9.calls ht17) ?_
 rintro _ W16 ⟨A18,c19,rfl,M_⟩
 refine .ca M_ [1,3] ?_
 replace M:=M.cg M_
 obtain ⟨c24,h⟩:=ifd h
 refine .a1 tr 7<| .an M 1 rfl (M.or 0) c24 [1,3] fun A21 c22 W23 M=> ?_
 obtain ⟨pq26,Cq26⟩:=M.vel 3 rfl (N:=3) (i:=0) (u:= .slice none 0 0) (by omega) (by omega) rfl
 refine .ia tr 8 Cq26<| .a1 tr 9<| .ve (.slice A21 ((t12++t17).length) c22) Cq26 M 3 rfl rfl fun W28 M=> .dn tr<| .gq 18<| .yt (yl_ixm (kd:= .u64) (len:=3) (i:=1) 2 (rfl:([5871781006564002452,18308165927316385504,7904181063698728992,18386141011142107824,15821769039155751280,226472410124699918]:Li).length=_) (by omega) (by decide))<| .nw 241 (nums .u64 (List.replicate 2 (0:Int))) M fun g29 W30 M=> .gq 1<| .sw (new:=nums .u64 (sub ([5871781006564002452,18308165927316385504,7904181063698728992,18386141011142107824,15821769039155751280,226472410124699918]:Li) 1 2)) M 0 rfl (all_nums' List.length_replicate) (all_nums' (sub_length (N:=3) (i:=1) (by omega) (by decide) rfl)) (all_nums _ _) fun W32 M=> .gq 1<| .at (show RL 156 f156 (Qj.R r w) [1,0,1,0,0,1,1,0,0,1] [(0,.pt g1),(1,.i 1),(2,.pt g29),(6,.agg (nums .u64 ([5871781006564002452,18308165927316385504,7904181063698728992,18386141011142107824,15821769039155751280,226472410124699918]:Li)).toArray),(7,.i 1)] _ from .dr [4] M fun W33 M=> ?_)
 refine .pz tr [0] ?_
 obtain ⟨pq34,Cq34⟩:=M.nv 0 rfl (N:=2) (i:=0) (sub_length (N:=3) (i:=1) (by omega) (by decide) rfl) (by omega) (by decide)
 refine .ia tr 1 Cq34<| .vn tr 2 Cq34 M 0 rfl (sub_length (N:=3) (i:=1) (by omega) (by decide) rfl) ?_
 obtain ⟨pq35,Cq35⟩:=M.nv 0 rfl (N:=2) (i:=1) (sub_length (N:=3) (i:=1) (by omega) (by decide) rfl) (by omega) (by decide)
 refine .ia tr 4 Cq35<| .vn tr 5 Cq35 M 0 rfl (sub_length (N:=3) (i:=1) (by omega) (by decide) rfl) ?_
 obtain ⟨t37,ht37,h⟩:=bs h
 refine .a1 tr 3<| .ca (K9.calls ht37) ?_
 rintro _ W36 ⟨A38,c39,rfl,M_⟩
 refine .ca M_ [0,5] ?_
 replace M:=M.cg M_
 obtain ⟨t42,ht42,h⟩:=bs h
 refine .a1 tr 6<| .ca (K9.calls ht42) ?_
 rintro _ W41 ⟨A43,c44,rfl,M_⟩
 refine .ca M_ [1,6] ?_
 replace M:=M.cg M_
 obtain ⟨c49,h⟩:=ifd h
 refine .a1 tr 7<| .an M 1 rfl (M.or 0) c49 [1,6] fun A46 c47 W48 M=> ?_
 obtain ⟨pq51,Cq51⟩:=M.vel 6 rfl (N:=3) (i:=1) (u:= .slice none 0 0) (by omega) (by omega) rfl
 refine .ia tr 8 Cq51<| .a1 tr 9<| .ve (.slice A46 ((t37++t42).length) c47) Cq51 M 6 rfl rfl fun W53 M=> .dn tr<| .gq 18<| .yt (yl_ixm (kd:= .u64) (len:=3) (i:=2) 2 (rfl:([5871781006564002452,18308165927316385504,7904181063698728992,18386141011142107824,15821769039155751280,226472410124699918]:Li).length=_) (by omega) (by decide))<| .nw 241 (nums .u64 (List.replicate 2 (0:Int))) M fun g54 W55 M=> .gq 1<| .sw (new:=nums .u64 (sub ([5871781006564002452,18308165927316385504,7904181063698728992,18386141011142107824,15821769039155751280,226472410124699918]:Li) 2 2)) M 0 rfl (all_nums' List.length_replicate) (all_nums' (sub_length (N:=3) (i:=2) (by omega) (by decide) rfl)) (all_nums _ _) fun W57 M=> .gq 1<| .at (show RL 156 f156 (Qj.R r w) [1,0,1,0,0,1,1,0,0,1] [(0,.pt g1),(1,.i 2),(2,.pt g54),(6,.agg (nums .u64 ([5871781006564002452,18308165927316385504,7904181063698728992,18386141011142107824,15821769039155751280,226472410124699918]:Li)).toArray),(7,.i 2)] _ from .dr [7] M fun W58 M=> ?_)
 refine .pz tr [0] ?_
 obtain ⟨pq59,Cq59⟩:=M.nv 0 rfl (N:=2) (i:=0) (sub_length (N:=3) (i:=2) (by omega) (by decide) rfl) (by omega) (by decide)
 refine .ia tr 1 Cq59<| .vn tr 2 Cq59 M 0 rfl (sub_length (N:=3) (i:=2) (by omega) (by decide) rfl) ?_
 obtain ⟨pq60,Cq60⟩:=M.nv 0 rfl (N:=2) (i:=1) (sub_length (N:=3) (i:=2) (by omega) (by decide) rfl) (by omega) (by decide)
 refine .ia tr 4 Cq60<| .vn tr 5 Cq60 M 0 rfl (sub_length (N:=3) (i:=2) (by omega) (by decide) rfl) ?_
 obtain ⟨t62,ht62,h⟩:=bs h
 refine .a1 tr 3<| .ca (K9.calls ht62) ?_
 rintro _ W61 ⟨A63,c64,rfl,M_⟩
 refine .ca M_ [0,8] ?_
 replace M:=M.cg M_
 obtain ⟨t67,ht67,h⟩:=bs h
 refine .a1 tr 6<| .ca (K9.calls ht67) ?_
 rintro _ W66 ⟨A68,c69,rfl,M_⟩
 refine .ca M_ [1,9] ?_
 replace M:=M.cg M_
 obtain ⟨c74,h⟩:=ifd h
 refine .a1 tr 7<| .an M 1 rfl (M.or 0) c74 [1,9] fun A71 c72 W73 M=> ?_
 obtain ⟨pq76,Cq76⟩:=M.vel 9 rfl (N:=3) (i:=2) (u:= .slice none 0 0) (by omega) (by omega) rfl
 refine .ia tr 8 Cq76<| .a1 tr 9<| .ve (.slice A71 ((t62++t67).length) c72) Cq76 M 9 rfl rfl fun W78 M=> .dn tr<| .gq 15<| .y (yl_ldv (N:=3) (by rfl)) (M.block 9 rfl)<| .sw (N:=3) (new:=[.slice A21 ((t12++t17).length) c22,.slice A46 ((t37++t42).length) c47,.slice A71 ((t62++t67).length) c72]) M 9 rfl (by rfl) (by rfl) (by simp [Value.oneCell']) fun W80 M=> .gq 1 ?_
 obtain ⟨Fq81,hfq81,M⟩:=M.fs 7
 obtain ⟨Fq82,hfq82,M⟩:=M.fs 4
 obtain ⟨Fq83,hfq83,M⟩:=M.fs 1
 have hqq84:Each2 ((rNums .u8) (andZ (Oks Fq81) (andZ (Oks Fq82) (Oks Fq83)))) [.slice A21 ((t12++t17).length) c22,.slice A46 ((t37++t42).length) c47,.slice A71 ((t62++t67).length) c72] ([(t12++t17),(t37++t42),(t62++t67)]:Lj):=(.cons (rno (RdF.up hfq81 (fun _ z=>z.1)) (ai (M.oks 2) (ai (M.oks 1) (M.oks 0)))) (.cons (rno (RdF.up hfq82 (fun _ z=>z.2.1)) (ai (M.oks 2) (ai (M.oks 1) (M.oks 0)))) (.cons (rno (RdF.up hfq83 (fun _ z=>z.2.2)) (ai (M.oks 2) (ai (M.oks 1) (M.oks 0)))) (Each2.nil _))))
 obtain rfl:=sj h
 exact .rc 0 213 3 func156 M 6 rfl (hqq84.1.trans (rfl:([(t12++t17),(t37++t42),(t62++t67)]:Lj).length=3)) ⟨_,(List.flatten [Fq81,Fq82,Fq83]),rfl,(up_arr (up_nums .u8)) _ _ _ _ (fun _ (z:Oks _ _)=>(ai (z.g 0 rfl) (ai (z.g 1 rfl) (z.g 2 rfl)))) ⟨_,rfl,(rfl:([(t12++t17),(t37++t42),(t62++t67)]:Lj).length=3),hqq84⟩,(M.pm [] [[2,1,0]])⟩
def Qd.l0:Nat→Li→(Li×Bool)→(Li×Bool)→(Li×Bool)→Int→Lj→Int→Option Lj
 | 0,_,_,_,_,_,_,_=>none
 | k+1,a1,t45,t68,t91,y4,x10_0,x12_0=>gd (0≤(Int.tmod x12_0 4)) (gd ((Int.tmod x12_0 4)<(4:Int)) (gd (0≤(Int.tmod (I64 (x12_0+1)) 4)) (gd ((Int.tmod (I64 (x12_0+1)) 4)<(4:Int)) (gd (0≤(I64 (Int.tdiv x12_0 4))) (gd ((I64 (Int.tdiv x12_0 4))<(5:Int)) ((Jc.f k (rdr ([]:Li) ([(a1.take (List.replicate 16 (0:Int)).length++(List.replicate 16 (0:Int)).drop a1.length),t45.1,t68.1,t91.1]:Lj) (Int.tmod (I64 (x12_0+1)) 4)) (rd ([(-19),(-31),61,31,19]:Li) (I64 (Int.tdiv x12_0 4)))).bind fun t121=>((Jd.f k (rdr ([]:Li) ([(a1.take (List.replicate 16 (0:Int)).length++(List.replicate 16 (0:Int)).drop a1.length),t45.1,t68.1,t91.1]:Lj) (Int.tmod x12_0 4)) t121).bind fun t126=>(gd (x10_0.length+([t126.1]:Lj).length≤1000000000) ((some (decide ((I64 (x12_0+1))<(I64 (13+(I64 (2*y4))))):Bool)).bind fun y141=>(if y141=true then (Qd.l0 k a1 t45 t68 t91 y4 (x10_0++([t126.1]:Lj)) (I64 (x12_0+1))) else (some (x10_0++([t126.1]:Lj)))))))))))))
def Qd.f (k:Nat) (a0:Lj) (a1:Li):Option Lj:=(some (I64 (Int.tdiv (I64 ((a1.length:Int)-16)) 8):Int)).bind fun y4=>((Qj.f k).bind fun t6=>(gd (16≤(a1.length:Int)) (gd (0≤(Int.tmod (I64 (0+y4)) 3)) (gd ((Int.tmod (I64 (0+y4)) 3)<(3:Int)) ((Qf.f k a0 1 (a1.take (List.replicate 16 (0:Int)).length++(List.replicate 16 (0:Int)).drop a1.length) (rdr ([]:Li) t6 (Int.tmod (I64 (0+y4)) 3))).bind fun t36=>((Jd.f k t36 (((a1.take ((a1.length:Int):Int).toNat).drop (16:Int).toNat).take (List.replicate 16 (0:Int)).length++(List.replicate 16 (0:Int)).drop ((a1.take ((a1.length:Int):Int).toNat).drop (16:Int).toNat).length)).bind fun t45=>(gd (0≤(Int.tmod (I64 (1+y4)) 3)) (gd ((Int.tmod (I64 (1+y4)) 3)<(3:Int)) ((Qf.f k a0 2 t45.1 (rdr ([]:Li) t6 (Int.tmod (I64 (1+y4)) 3))).bind fun t59=>((Jd.f k t59 (a1.take (List.replicate 16 (0:Int)).length++(List.replicate 16 (0:Int)).drop a1.length)).bind fun t68=>(gd (0≤(Int.tmod (I64 (2+y4)) 3)) (gd ((Int.tmod (I64 (2+y4)) 3)<(3:Int)) ((Qf.f k a0 1 t68.1 (rdr ([]:Li) t6 (Int.tmod (I64 (2+y4)) 3))).bind fun t82=>((Jd.f k t82 t45.1).bind fun t91=>(Qd.l0 k a1 t45 t68 t91 y4 ([]:Lj) 0)))))))))))))))
abbrev Qd.R (r:Lj) (w:World):Value→World→Prop:=fun v w'=> ∃(v0':Value) (F0':List Ent),v=v0'∧(rRows (rNums .u8)) (Oks F0') v0' r∧Mem w w' (Gs [] [F0'])
theorem Qd.calls {vp0:Value} {a0:Lj} {a1:Li} {r:Lj} (hr1:Rd w (.slice Ap1 np1 cp1) (nums .u8 a1)) (hp0:(rArr 4 (rNums .u8)) Zp0 vp0 a0) (hZp0: ∀W,Kept w W→Zp0 W) (h:Qd.f k a0 a1=some r):Calls prog 106 #[vp0,(.slice Ap1 np1 cp1)] w (Ret (Qd.R r w)):=by
 obtain rfl:=hr1.ln
 obtain ⟨cs0,rfl,hl0,hq0⟩:=hp0
 unfold Qd.f at h
 refine calls_S func106 ?_
 have M:=Mem.r0 w
 refine .gq 2<| .nw 161 (cs0) M fun g1 W2 M=> .gq 13 ?_
 let y4:Int:=I64 (Int.tdiv (I64 ((a1.length:Int)-16)) 8)
 replace h:=bz (y:=y4) h rfl
 obtain ⟨t6,ht6,h⟩:=bs h
 refine .ca (Qj.calls ht6) ?_
 rintro vt6_0 W5 ⟨_,Ft6_0,rfl,hRt6_0,M_⟩
 obtain ⟨cst6_0,rfl,hlt6_0,hqt6_0⟩:=hRt6_0
 replace M:=M.cg M_
 refine .nw 213 ([.slice none 0 0,.slice none 0 0,.slice none 0 0]) M fun g7 W8 M=> .sw (N:=3) (new:=cst6_0) M 0 rfl (by rfl) (hqt6_0.1.trans hlt6_0) (all_rows hqt6_0) fun W11 M=> .gq 3<| .mn 5 .u8 16 16 M fun g13 W12 M=> .gq 1<| .nw 160 ([.slice none 0 0,.slice none 0 0,.slice none 0 0,.slice none 0 0]) M fun g15 W16 M=> .sw (N:=4) (new:=[.slice (pa g13) 16 16,.slice none 0 0,.slice none 0 0,.slice none 0 0]) M 0 rfl (by rfl) (by rfl) (by simp [Value.oneCell']) fun W19 M=> .gq 3 ?_
 obtain ⟨pq20,Cq20⟩:=M.vel 0 rfl (N:=4) (i:=0) (u:= .slice (pa g13) 16 16) (by omega) (by omega) rfl
 refine .ia Cq20<| .lc Cq20<| .gq 1<| .cn M 1 rfl (hr1.mono M.below) fun W21 M=> .gq 3<| .mn 5 .u8 16 16 M fun g23 W22 M=> .gq 6 ?_
 obtain ⟨c25,h⟩:=ifd h
 refine .ct 16 (a1.length:Int) (hr1.mono M.below) fun A26 c27 hs28=> .cn M 0 rfl (hs28 _ (hr1.mono M.below)) fun W29 M=> .gq 23<| .at (show RL 106 f106 (Qd.R r w) [1,0,1,1,1,1,1,1,0,1,0,0,1,1,0,0,1,0] [(2,.pt g1),(5,.i y4),(6,.pt g7),(7,.pt g15),(8,.slice (pa g23) 16 16),(9,.i 0),(33,.i 0)] _ from .dr [1] M fun W30 M=> ?_)
 refine .pz tr [0,1]<| .y tr 2 (yl_ldv (N:=4) (hq0.1.trans hl0)) (fun _ hs=>M.bks hs 4 rfl)<| .pz tr [3,4,5,6] ?_
 obtain ⟨pq31,Cq31⟩:=M.vel 1 rfl (N:=4) (i:=0) (u:= .slice (pa g13) 16 16) (by omega) (by omega) rfl
 refine .ia tr 7 Cq31<| .pz tr [9,10,11,12] ?_
 obtain ⟨c33,h⟩:=ifd h
 obtain ⟨c34,h⟩:=ifd h
 obtain ⟨uq32,huq32,hvq32⟩:=Each2.at hqt6_0 ([]:Li) (i:=Int.tmod (I64 (0+y4)) 3) c33 (by rw [show t6.length=3 from hlt6_0];exact c34)
 obtain ⟨Aq32,cq32,rfl,hq32⟩:=hvq32
 obtain ⟨pq32,Cq32⟩:=M.vel 3 rfl (N:=3) (i:=Int.tmod (I64 (0+y4)) 3) c33 c34 huq32
 refine .ia tr 13 Cq32<| .vu tr 14 Cq32 M 3 rfl huq32<| .a1 tr 8<| .wu Cq31 M 1 rfl rfl ?_
 obtain ⟨t36,ht36,h⟩:=bs h
 refine .a1 tr 15<| .ca (Qf.calls (M.or 2) (hq32 _ (M.oks 0)) ⟨_,rfl,hl0,hq0⟩ (zp M hZp0) ht36) ?_
 rintro _ W35 ⟨A37,c38,rfl,M_⟩
 refine .ca M_ [2] ?_
 replace M:=M.cg M_
 obtain ⟨pq40,Cq40⟩:=M.vel 2 rfl (N:=4) (i:=1) (u:= .slice none 0 0) (by omega) (by omega) rfl
 refine .ia tr 16 Cq40<| .a1 tr 17<| .ve (.slice A37 t36.length c38) Cq40 M 2 rfl rfl fun W42 M=> .dn tr<| .gq 6 ?_
 obtain ⟨pq43,Cq43⟩:=M.vel 2 rfl (N:=4) (i:=1) (u:= .slice A37 t36.length c38) (by omega) (by omega) rfl
 refine .ia Cq43<| .lc Cq43<| .gq 1 ?_
 obtain ⟨t45,ht45,h⟩:=bs h
 refine .ca (Jd.calls (M.or 0) (M.or 1) ht45) ?_
 rintro _ W44 ⟨A46,c47,rfl,M_⟩
 replace M:=M.cg M_
 refine .gq 3 ?_
 obtain ⟨pq49,Cq49⟩:=M.vel 3 rfl (N:=4) (i:=1) (u:= .slice A37 t36.length c38) (by omega) (by omega) rfl
 refine .ia Cq49<| .ve (.slice A46 t45.1.length c47) Cq49 M 3 rfl rfl fun W51 M=> .gq 3 ?_
 obtain ⟨pq52,Cq52⟩:=M.vel 3 rfl (N:=4) (i:=0) (u:= .slice (pa g13) 16 16) (by omega) (by omega) rfl
 refine .ia Cq52<| .lc Cq52<| .gq 23<| .at (show RL 106 f106 (Qd.R r w) [1,0,1,1,1,1,1,1,0,1,0,0,1,1,0,0,1,0] [(2,.pt g1),(5,.i y4),(6,.pt g7),(7,.pt g15),(8,.slice (pa g13) 16 16),(9,.i 1),(33,.i 1)] _ from .dr [3] M fun W53 M=> ?_)
 refine .pz tr [0,1]<| .y tr 2 (yl_ldv (N:=4) (hq0.1.trans hl0)) (fun _ hs=>M.bks hs 6 rfl)<| .pz tr [3,4,5,6] ?_
 obtain ⟨pq54,Cq54⟩:=M.vel 3 rfl (N:=4) (i:=1) (u:= .slice A46 t45.1.length c47) (by omega) (by omega) rfl
 refine .ia tr 7 Cq54<| .pz tr [9,10,11,12] ?_
 obtain ⟨c56,h⟩:=ifd h
 obtain ⟨c57,h⟩:=ifd h
 obtain ⟨uq55,huq55,hvq55⟩:=Each2.at hqt6_0 ([]:Li) (i:=Int.tmod (I64 (1+y4)) 3) c56 (by rw [show t6.length=3 from hlt6_0];exact c57)
 obtain ⟨Aq55,cq55,rfl,hq55⟩:=hvq55
 obtain ⟨pq55,Cq55⟩:=M.vel 5 rfl (N:=3) (i:=Int.tmod (I64 (1+y4)) 3) c56 c57 huq55
 refine .ia tr 13 Cq55<| .vu tr 14 Cq55 M 5 rfl huq55<| .a1 tr 8<| .wu Cq54 M 3 rfl rfl ?_
 obtain ⟨t59,ht59,h⟩:=bs h
 refine .a1 tr 15<| .ca (Qf.calls (M.or 0) (hq55 _ (M.oks 0)) ⟨_,rfl,hl0,hq0⟩ (zp M hZp0) ht59) ?_
 rintro _ W58 ⟨A60,c61,rfl,M_⟩
 refine .ca M_ [4] ?_
 replace M:=M.cg M_
 obtain ⟨pq63,Cq63⟩:=M.vel 4 rfl (N:=4) (i:=2) (u:= .slice none 0 0) (by omega) (by omega) rfl
 refine .ia tr 16 Cq63<| .a1 tr 17<| .ve (.slice A60 t59.length c61) Cq63 M 4 rfl rfl fun W65 M=> .dn tr<| .gq 6 ?_
 obtain ⟨pq66,Cq66⟩:=M.vel 4 rfl (N:=4) (i:=2) (u:= .slice A60 t59.length c61) (by omega) (by omega) rfl
 refine .ia Cq66<| .lc Cq66<| .gq 1 ?_
 obtain ⟨t68,ht68,h⟩:=bs h
 refine .ca (Jd.calls (M.or 0) (M.or 5) ht68) ?_
 rintro _ W67 ⟨A69,c70,rfl,M_⟩
 replace M:=M.cg M_
 refine .gq 3 ?_
 obtain ⟨pq72,Cq72⟩:=M.vel 5 rfl (N:=4) (i:=2) (u:= .slice A60 t59.length c61) (by omega) (by omega) rfl
 refine .ia Cq72<| .ve (.slice A69 t68.1.length c70) Cq72 M 5 rfl rfl fun W74 M=> .gq 3 ?_
 obtain ⟨pq75,Cq75⟩:=M.vel 5 rfl (N:=4) (i:=1) (u:= .slice A46 t45.1.length c47) (by omega) (by omega) rfl
 refine .ia Cq75<| .lc Cq75<| .gq 23<| .at (show RL 106 f106 (Qd.R r w) [1,0,1,1,1,1,1,1,0,1,0,0,1,1,0,0,1,0] [(2,.pt g1),(5,.i y4),(6,.pt g7),(7,.pt g15),(8,.slice A46 t45.1.length c47),(9,.i 2),(33,.i 2)] _ from .dr [5] M fun W76 M=> ?_)
 refine .pz tr [0,1]<| .y tr 2 (yl_ldv (N:=4) (hq0.1.trans hl0)) (fun _ hs=>M.bks hs 8 rfl)<| .pz tr [3,4,5,6] ?_
 obtain ⟨pq77,Cq77⟩:=M.vel 5 rfl (N:=4) (i:=2) (u:= .slice A69 t68.1.length c70) (by omega) (by omega) rfl
 refine .ia tr 7 Cq77<| .pz tr [9,10,11,12] ?_
 obtain ⟨c79,h⟩:=ifd h
 obtain ⟨c80,h⟩:=ifd h
 obtain ⟨uq78,huq78,hvq78⟩:=Each2.at hqt6_0 ([]:Li) (i:=Int.tmod (I64 (2+y4)) 3) c79 (by rw [show t6.length=3 from hlt6_0];exact c80)
 obtain ⟨Aq78,cq78,rfl,hq78⟩:=hvq78
 obtain ⟨pq78,Cq78⟩:=M.vel 7 rfl (N:=3) (i:=Int.tmod (I64 (2+y4)) 3) c79 c80 huq78
 refine .ia tr 13 Cq78<| .vu tr 14 Cq78 M 7 rfl huq78<| .a1 tr 8<| .wu Cq77 M 5 rfl rfl ?_
 obtain ⟨t82,ht82,h⟩:=bs h
 refine .a1 tr 15<| .ca (Qf.calls (M.or 0) (hq78 _ (M.oks 0)) ⟨_,rfl,hl0,hq0⟩ (zp M hZp0) ht82) ?_
 rintro _ W81 ⟨A83,c84,rfl,M_⟩
 refine .ca M_ [6] ?_
 replace M:=M.cg M_
 obtain ⟨pq86,Cq86⟩:=M.vel 6 rfl (N:=4) (i:=3) (u:= .slice none 0 0) (by omega) (by omega) rfl
 refine .ia tr 16 Cq86<| .a1 tr 17<| .ve (.slice A83 t82.length c84) Cq86 M 6 rfl rfl fun W88 M=> .dn tr<| .gq 6 ?_
 obtain ⟨pq89,Cq89⟩:=M.vel 6 rfl (N:=4) (i:=3) (u:= .slice A83 t82.length c84) (by omega) (by omega) rfl
 refine .ia Cq89<| .lc Cq89<| .gq 1 ?_
 obtain ⟨t91,ht91,h⟩:=bs h
 refine .ca (Jd.calls (M.or 0) (M.or 3) ht91) ?_
 rintro _ W90 ⟨A92,c93,rfl,M_⟩
 replace M:=M.cg M_
 refine .gq 3 ?_
 obtain ⟨pq95,Cq95⟩:=M.vel 7 rfl (N:=4) (i:=3) (u:= .slice A83 t82.length c84) (by omega) (by omega) rfl
 refine .ia Cq95<| .ve (.slice A92 t91.1.length c93) Cq95 M 7 rfl rfl fun W97 M=> .gq 3 ?_
 obtain ⟨pq98,Cq98⟩:=M.vel 7 rfl (N:=4) (i:=2) (u:= .slice A69 t68.1.length c70) (by omega) (by omega) rfl
 refine .ia Cq98<| .lc Cq98<| .gq 22<| .nw 215 (nums .i64 (List.replicate 5 (0:Int))) M fun g99 W100 M=> .sw (new:=nums .i64 ([(-19),(-31),61,31,19]:Li)) M 0 rfl (all_nums' List.length_replicate) (all_nums' rfl) (all_nums _ _) fun W102 M=> .gq 7 ?_
 obtain ⟨Fq103,hfq103,M⟩:=M.fs 9
 obtain ⟨Fq104,hfq104,M⟩:=M.fs 5
 obtain ⟨Fq105,hfq105,M⟩:=M.fs 3
 obtain ⟨Fq106,hfq106,M⟩:=M.fs 1
 have hqq107:Each2 ((rNums .u8) (andZ (Oks Fq103) (andZ (Oks Fq104) (andZ (Oks Fq105) (Oks Fq106))))) [.slice (pa g13) 16 16,.slice A46 t45.1.length c47,.slice A69 t68.1.length c70,.slice A92 t91.1.length c93] ([(a1.take (List.replicate 16 (0:Int)).length++(List.replicate 16 (0:Int)).drop a1.length),t45.1,t68.1,t91.1]:Lj):=(.cons (rno (RdF.up hfq103 (fun _ z=>z.1)) (ai (M.oks 3) (ai (M.oks 2) (ai (M.oks 1) (M.oks 0))))) (.cons (rno (RdF.up hfq104 (fun _ z=>z.2.1)) (ai (M.oks 3) (ai (M.oks 2) (ai (M.oks 1) (M.oks 0))))) (.cons (rno (RdF.up hfq105 (fun _ z=>z.2.2.1)) (ai (M.oks 3) (ai (M.oks 2) (ai (M.oks 1) (M.oks 0))))) (.cons (rno (RdF.up hfq106 (fun _ z=>z.2.2.2)) (ai (M.oks 3) (ai (M.oks 2) (ai (M.oks 1) (M.oks 0))))) (Each2.nil _)))))
 replace M:=M.n1 22
 have l0: ∀k_≤k,∀(A10_0:Option Addr) (c10_0:Nat) (cs10_0:List Value) (x10_0:Lj) (F10_0:List Ent) (x12_0:Int) {W:World} (M:Mem w W (Gs [⟨.pt g15,160,0,[.slice (pa g13) 16 16,.slice A46 t45.1.length c47,.slice A69 t68.1.length c70,.slice A92 t91.1.length c93]⟩,⟨.slice A10_0 x10_0.length c10_0,22,1,cs10_0⟩,⟨.pt g99,215,0,nums .i64 ([(-19),(-31),61,31,19]:Li)⟩] [F10_0,Fq106,Fq105,Fq104,Fq103,Ft6_0])) (hq10_0:Each2 ((rNums .u8) (Oks F10_0)) cs10_0 x10_0) (h:Qd.l0 k_ a1 t45 t68 t91 y4 x10_0 x12_0=some r),RL 106 f106 (Qd.R r w) [1,0,1,1,1,1,1,1,1,1,1,1,1] [(5,.i y4),(7,.pt g15),(10,.slice A10_0 x10_0.length c10_0),(11,.pt g99),(12,.i x12_0)] W:=by
  refine loopI (by intros;rename_i h;simp [Qd.l0] at h) fun k hk ih0 A10_0 c10_0 cs10_0 x10_0 F10_0 x12_0 W M hq10_0 h=> ?_
  simp only [Qd.l0] at h
  refine .gq 11<| .at (show RL 106 f106 (Qd.R r w) [1,0,1,1,1,1,1,1,1,1,1,1,1,1,0] [(5,.i y4),(7,.pt g15),(10,.slice A10_0 x10_0.length c10_0),(11,.pt g99),(12,.i x12_0),(13,.i (Int.tmod x12_0 4)),(14,.i (Int.tmod (I64 (x12_0+1)) 4))] _ from .dr [] M fun W110 M=> ?_)
  refine .pz tr [0] ?_
  obtain ⟨c112,h⟩:=ifd h
  obtain ⟨c113,h⟩:=ifd h
  obtain ⟨uq111,huq111,hvq111⟩:=Each2.at hqq107 ([]:Li) (i:=Int.tmod x12_0 4) c112 (by rw [show ([(a1.take (List.replicate 16 (0:Int)).length++(List.replicate 16 (0:Int)).drop a1.length),t45.1,t68.1,t91.1]:Lj).length=4 from (rfl:([(a1.take (List.replicate 16 (0:Int)).length++(List.replicate 16 (0:Int)).drop a1.length),t45.1,t68.1,t91.1]:Lj).length=4)];exact c113)
  obtain ⟨Aq111,cq111,rfl,hq111⟩:=hvq111
  obtain ⟨pq111,Cq111⟩:=M.vel 0 rfl (N:=4) (i:=Int.tmod x12_0 4) c112 c113 huq111
  refine .ia tr 1 Cq111<| .vu tr 2 Cq111 M 0 rfl huq111<| .pz tr [3] ?_
  obtain ⟨c115,h⟩:=ifd h
  obtain ⟨c116,h⟩:=ifd h
  obtain ⟨uq114,huq114,hvq114⟩:=Each2.at hqq107 ([]:Li) (i:=Int.tmod (I64 (x12_0+1)) 4) c115 (by rw [show ([(a1.take (List.replicate 16 (0:Int)).length++(List.replicate 16 (0:Int)).drop a1.length),t45.1,t68.1,t91.1]:Lj).length=4 from (rfl:([(a1.take (List.replicate 16 (0:Int)).length++(List.replicate 16 (0:Int)).drop a1.length),t45.1,t68.1,t91.1]:Lj).length=4)];exact c116)
  obtain ⟨Aq114,cq114,rfl,hq114⟩:=hvq114
  obtain ⟨pq114,Cq114⟩:=M.vel 0 rfl (N:=4) (i:=Int.tmod (I64 (x12_0+1)) 4) c115 c116 huq114
  refine .ia tr 4 Cq114<| .vu tr 5 Cq114 M 0 rfl huq114<| .pz tr [6,7] ?_
  obtain ⟨c118,h⟩:=ifd h
  obtain ⟨c119,h⟩:=ifd h
  obtain ⟨pq117,Cq117⟩:=M.nv 2 rfl (N:=5) rfl c118 c119
  refine .ia tr 8 Cq117<| .vn tr 9 Cq117 M 2 rfl rfl ?_
  obtain ⟨t121,ht121,h⟩:=bs h
  refine .a1 tr 10<| .ca (Jc.calls (hq114 _ (ai (M.oks 4) (ai (M.oks 3) (ai (M.oks 2) (M.oks 1))))) ht121) ?_
  rintro _ W120 ⟨A122,c123,rfl,M_⟩
  refine .ca M_ [] ?_
  replace M:=M.cg M_
  obtain ⟨t126,ht126,h⟩:=bs h
  refine .a1 tr 11<| .ca (Jd.calls (hq111 _ (ai (M.oks 4) (ai (M.oks 3) (ai (M.oks 2) (M.oks 1))))) (M.or 0) ht126) ?_
  rintro _ W125 ⟨A127,c128,rfl,M_⟩
  refine .ca M_ [] ?_
  replace M:=M.cg M_
  refine .pz tr [12,13,14,15,16]<| .dn tr<| .gq 4 ?_
  obtain ⟨Fq130,hfq130,M⟩:=M.fs 0
  have hqq131:Each2 ((rNums .u8) (Oks Fq130)) [.slice A127 t126.1.length c128] ([t126.1]:Lj):=(.cons (rno hfq130 (M.oks 0)) (Each2.nil _))
  refine .new 22 1 1 ([.slice A127 t126.1.length c128]) M (fun g132 W133 M=> ?_) rfl
  obtain ⟨c139,h⟩:=ifd h
  have hq138:Each2 ((rNums .u8) (andZ (Oks F10_0) (Oks Fq130))) (cs10_0++[.slice A127 t126.1.length c128]) (x10_0++([t126.1]:Lj)):=Each2.append (Each2.up (up_nums .u8) hq10_0 (fun _ z=>z.1)) (Each2.up (up_nums .u8) hqq131 (fun _ z=>z.2))
  refine .ar M 3 rfl (M.or 0) (one_rows hqq131) (by first | omega | (simp at c139 ⊢;omega)) fun A135 c136 W137 M=> ?_
  rw [hq138.1] at M ⊢
  refine .gq 17 ?_
  let y141:Bool:=decide ((I64 (x12_0+1))<(I64 (13+(I64 (2*y4)))))
  replace h:=bz (y:=y141) h rfl
  rcases ift h with ⟨c142,h⟩ | ⟨c142,h⟩
  ·exact .kn 100 c142<| .gq 4<| .at (ih0 k (by omega) A135 c136 (cs10_0++[.slice A127 t126.1.length c128]) (x10_0++([t126.1]:Lj)) (List.flatten [F10_0,Fq130]) (I64 (x12_0+1)) (M.pm [2,3,4] [[1,0],[2],[3],[4],[5],[6]]) (Each2.up (up_nums .u8) hq138 (fun _ (z:Oks _ _)=>(ai (z.g 0 rfl) (z.g 1 rfl)))) h)
  refine .kn 100 c142<| .gq 7 ?_
  obtain ⟨Fq143,hfq143,M⟩:=M.fs 3
  obtain rfl:=sj h
  exact .ret func106 ⟨.slice A135 ((x10_0++([t126.1]:Lj)).length) c136,(List.flatten [Fq143,F10_0,Fq130]),rfl,(up_rows (up_nums .u8)) _ _ _ _ (fun _ (z:Oks _ _)=>(ai (z.g 0 rfl) (ai (z.g 1 rfl) (z.g 2 rfl)))) ⟨_,_,_,rfl,(hfq143.up (fun _ z=>z.1)),(Each2.up (up_nums .u8) hq138 (fun _ z=>(ai z.2.1 z.2.2)))⟩,(M.pm [] [[0,2,1]])⟩
 exact .at (l0 k k.le_refl none 0 [] ([]:Lj) ([]:List Ent) 0 (M.pm [6,0,1] [[],[0],[1],[2],[3],[4]]) (Each2.nil _) h)
def Qc.f (k:Nat) (a0:Li):Option (Option (Lj×Lj)×Int):=(Qg.f k a0).bind fun t2=>(if (!t2)=true then (some (none,4)) else ((Qh.f k).bind fun t5=>((Qd.f k t5 a0).bind fun t13=>(some ((some (t5,t13)),0)))))
abbrev Qc.R (r:Option (Lj×Lj)×Int) (w:World):Value→World→Prop:=fun v w'=> ∃(v0':Value) (F0':List Ent),v= .tuple #[v0',.i r.2]∧(rOpt (rPtr Rs_aria_Aria)) (Oks F0') v0' r.1∧Mem w w' (Gs [] [F0'])
theorem Qc.calls {a0:Li} {r:Option (Lj×Lj)×Int} (hr0:Rd w (.slice Ap0 np0 cp0) (nums .u8 a0)) (hG1:Rg w 1 (nums .u8 [1,2,4,8,16,32,64,128])) (h:Qc.f k a0=some r):Calls prog 64 #[(.slice Ap0 np0 cp0)] w (Ret (Qc.R r w)):=by
 obtain rfl:=hr0.ln
 unfold Qc.f at h
 refine calls_S func64 ?_
 have M:=Mem.r0 w
 refine .gq 9 ?_
 obtain ⟨t2,ht2,h⟩:=bs h
 refine .ca (Qg.calls (hr0.mono M.below) ht2) ?_
 rintro _ W1 ⟨rfl,M_⟩
 replace M:=M.cg M_
 refine .gq 2 ?_
 rcases ift h with ⟨c3,h⟩ | ⟨c3,h⟩
 ·refine .kn 7 c3<| .gq 6 ?_
  obtain rfl:=sj h
  exact .ret func64 ⟨.pointer none,([]:List Ent),rfl,(.inl ⟨rfl,rfl⟩),(M.pm [] [[]])⟩
 refine .kn 7 c3<| .gq 4 ?_
 obtain ⟨t5,ht5,h⟩:=bs h
 refine .ca (Qh.calls (hG1.mono M.below) ht5) ?_
 rintro vt5_0 W4 ⟨_,Ft5_0,rfl,hRt5_0,M_⟩
 obtain ⟨cst5_0,rfl,hlt5_0,hqt5_0⟩:=hRt5_0
 replace M:=M.cg M_
 refine .nw 161 ([.slice none 0 0,.slice none 0 0,.slice none 0 0,.slice none 0 0]) M fun g6 W7 M=> .sw (N:=4) (new:=cst5_0) M 0 rfl (by rfl) (hqt5_0.1.trans hlt5_0) (all_rows hqt5_0) fun W10 M=> .gq 2<| .at (show RL 64 f64 (Qc.R r w) [1,1,1,0] [(0,.slice Ap0 a0.length cp0),(4,.pt g6)] _ from .dr [] M fun W11 M=> ?_)
 refine .y tr 0 (yl_ldv (N:=4) (hqt5_0.1.trans hlt5_0)) (fun _ hs=>M.bks hs 0 rfl)<| .y tr 1 (yl_ldv (N:=4) (hqt5_0.1.trans hlt5_0)) (fun _ hs=>M.bks hs 0 rfl)<| .pz tr [2] ?_
 obtain ⟨t13,ht13,h⟩:=bs h
 refine .a1 tr 3<| .ca (Qd.calls (hr0.mono M.below) ⟨_,rfl,hlt5_0,hqt5_0⟩ (fun _ z=>((M.oks 0).kept z)) ht13) ?_
 rintro vt13_0 W12 ⟨_,Ft13_0,rfl,hRt13_0,M_⟩
 obtain ⟨At13_0,ct13_0,cst13_0,rfl,hrt13_0,hqt13_0⟩:=hRt13_0
 refine .ca M_ [] ?_
 replace M:=M.cg M_
 obtain ⟨e14_0,e14_1,e14_2,e14_3,rfl⟩:=len_4 (hqt5_0.1.trans hlt5_0)
 refine .pz tr [4]<| .a1 tr 5<| .nw 165 ([e14_0,e14_1,e14_2,e14_3,.slice At13_0 t13.length ct13_0]) M [] fun g15 W16 M=> ?_
 obtain ⟨Fq18,hfq18,M⟩:=M.fp 0
 refine .er 0 [] ?_
 have hs19:rPtr Rs_aria_Aria (andZ (Oks Fq18) (andZ (Oks Ft5_0) (Oks Ft13_0))) (.pt g15) (t5,t13):=⟨g15,_,rfl,hfq18.up (fun _ z=>z.1),_,_,rfl,hlt5_0,(Each2.up (up_nums .u8) hqt5_0 (fun _ z=>z.2.1)),((up_rows (up_nums .u8)) _ _ _ _ (fun _ z=>z.2.2) ⟨_,_,_,rfl,hrt13_0,hqt13_0⟩)⟩
 refine .pz tr [6,7]<| .dn tr ?_
 obtain rfl:=sj h
 exact .ret func64 ⟨.pt g15,(List.flatten [Fq18,Ft5_0,Ft13_0]),rfl,(up_opt (up_ptr up_Rs_aria_Aria)) _ _ _ _ (fun _ (z:Oks _ _)=>(ai (z.g 0 rfl) (ai (z.g 1 rfl) (z.g 2 rfl)))) (.inr ⟨(t5,t13),rfl,hs19⟩),(M.pm [] [[0,2,1]])⟩
def Kj.l0:Nat→Bool→Li→Li→Option Li
 | 0,_,_,_=>none
 | k+1,a1,x0_0,x5_0=>if (decide ((x0_0.length:Int)≥4))=true then (gd (4≤(x0_0.length:Int)) ((K5.f k ((x0_0.take (4:Int).toNat).drop (0:Int).toNat)).bind fun t9=>(if a1=true then (gd (4≤(x0_0.length:Int)) ((K7.f k ((x0_0.take (4:Int).toNat).drop (0:Int).toNat)).bind fun t16=>(gd (x5_0.length+([t16.1]:Li).length≤1000000000) (gd (4≤(x0_0.length:Int)) (Kj.l0 k a1 ((x0_0.take ((x0_0.length:Int):Int).toNat).drop (4:Int).toNat) (x5_0++([t16.1]:Li))))))) else (gd (x5_0.length+([t9.1]:Li).length≤1000000000) (gd (4≤(x0_0.length:Int)) (Kj.l0 k a1 ((x0_0.take ((x0_0.length:Int):Int).toNat).drop (4:Int).toNat) (x5_0++([t9.1]:Li)))))))) else (some x5_0)
def Kj.f (k:Nat) (a0:Li) (a1:Bool):Option Li:=Kj.l0 k a1 a0 ([]:Li)
abbrev Kj.R (r:Li) (w:World):Value→World→Prop:=fun v w'=> ∃A0' c0',v= .slice A0' r.length c0'∧Mem w w' (Gs [⟨.slice A0' r.length c0',150,1,nums .u32 r⟩] [])
theorem Kj.calls {a0:Li} {a1:Bool} {r:Li} (hr0:Rd w (.slice Ap0 np0 cp0) (nums .u8 a0)) (h:Kj.f k a0 a1=some r):Calls prog 111 #[(.slice Ap0 np0 cp0),.bool a1] w (Ret (Kj.R r w)):=by
 obtain rfl:=hr0.ln
 unfold Kj.f at h
 refine calls_S func111 ?_
 have M:=Mem.r0 w
 refine .gq 11 ?_
 replace M:=M.n1 150
 have l0: ∀k_≤k,∀(A0_0:Option Addr) (c0_0:Nat) (x0_0:Li) (A5_0:Option Addr) (c5_0:Nat) (x5_0:Li) {W:World} (M:Mem w W (Gs [⟨.slice A5_0 x5_0.length c5_0,150,1,nums .u32 x5_0⟩] [])) (hrx0_0:Rd w (.slice A0_0 x0_0.length c0_0) (nums .u8 x0_0)) (h:Kj.l0 k_ a1 x0_0 x5_0=some r),RL 111 f111 (Kj.R r w) [1,1,0,0,0] [(0,.slice A0_0 x0_0.length c0_0),(1,.bool a1),(5,.slice A5_0 x5_0.length c5_0)] W:=by
  refine loopI (by intros;rename_i h;simp [Kj.l0] at h) fun k hk ih0 A0_0 c0_0 x0_0 A5_0 c5_0 x5_0 W M hrx0_0 h=> ?_
  simp only [Kj.l0] at h
  refine .gq 7 ?_
  rcases ift h with ⟨c3,h⟩ | ⟨c3,h⟩
  ·refine .kn 10 c3<| .gq 7 ?_
   obtain ⟨c4,h⟩:=ifd h
   refine .ct3 0 4 4 (hrx0_0.mono M.below) fun A5 c6 hs7=> ?_
   obtain ⟨t9,ht9,h⟩:=bs h
   refine .ca (K5.calls (hs7 _ (hrx0_0.mono M.below)) ht9) ?_
   rintro _ W8 ⟨rfl,M_⟩
   replace M:=M.cg M_
   refine .gq 11 ?_
   rcases ift h with ⟨c10,h⟩ | ⟨c10,h⟩
   ·refine .kn 19 c10<| .gq 3 ?_
    obtain ⟨c11,h⟩:=ifd h
    refine .ct3 0 4 4 (hrx0_0.mono M.below) fun A12 c13 hs14=> ?_
    obtain ⟨t16,ht16,h⟩:=bs h
    refine .ca (K7.calls (hs14 _ (hrx0_0.mono M.below)) ht16) ?_
    rintro _ W15 ⟨rfl,M_⟩
    replace M:=M.cg M_
    refine .gq 8<| .new 150 1 1 (nums .u32 [t16.1]) M fun g17 W18 M=> ?_
    obtain ⟨c23,h⟩:=ifd h
    refine .an M 1 rfl (M.or 0) c23 fun A20 c21 W22 M=> .gq 5 ?_
    obtain ⟨c25,h⟩:=ifd h
    exact .ct 4 (x0_0.length:Int) (hrx0_0.mono M.below) fun A26 c27 hs28=> .gq 3<| .at (ih0 k (by omega) A26 c27 ((x0_0.take ((x0_0.length:Int):Int).toNat).drop (4:Int).toNat) A20 c21 (x5_0++([t16.1]:Li)) (M.pm [1] []) (hs28 _ hrx0_0) h)
   refine .kn 19 c10<| .gq 5<| .new 150 1 1 (nums .u32 [t9.1]) M fun g29 W30 M=> ?_
   obtain ⟨c35,h⟩:=ifd h
   refine .an M 1 rfl (M.or 0) c35 fun A32 c33 W34 M=> .gq 5 ?_
   obtain ⟨c37,h⟩:=ifd h
   exact .ct 4 (x0_0.length:Int) (hrx0_0.mono M.below) fun A38 c39 hs40=> .gq 3<| .at (ih0 k (by omega) A38 c39 ((x0_0.take ((x0_0.length:Int):Int).toNat).drop (4:Int).toNat) A32 c33 (x5_0++([t9.1]:Li)) (M.pm [1] []) (hs40 _ hrx0_0) h)
  refine .kn 10 c3<| .gq 7 ?_
  obtain rfl:=sj h
  exact .ret func111 ⟨A5_0,c5_0,rfl,(M.pm [0] [])⟩
 exact .at (l0 k k.le_refl Ap0 cp0 a0 none 0 ([]:Li) (M.pm [0] []) hr0 h)
mutual
def Ki.l0:Nat→Li→Li→Option Li
 | 0,_,_=>none
 | k+1,a0,x3_0=>if (decide ((x3_0.length:Int)<26))=true then (gd (0≤(I64 ((x3_0.length:Int)-1))) (gd ((I64 ((x3_0.length:Int)-1))<(x3_0.length:Int)) ((some (U32 ((rd x3_0 (I64 ((x3_0.length:Int)-1)))+2654435769):Int)).bind fun y10=>(gd (x3_0.length+([y10]:Li).length≤1000000000) (Ki.l0 k a0 (x3_0++([y10]:Li))))))) else (Ki.l1 k a0 x3_0 a0 x3_0 0 0 0)
def Ki.l1:Nat→Li→Li→Li→Li→Int→Int→Int→Option Li
 | 0,_,_,_,_,_,_,_=>none
 | k+1,a0,x3_0,x0_1,x3_1,x4_1,x5_1,x6_1=>if (decide ((a0.length:Int)=0))=true then (none) else (gd (0≤(Int.tmod x6_1 26)) (gd ((Int.tmod x6_1 26)<(x3_0.length:Int)) ((some (U32 ((U32 ((rd x3_1 (Int.tmod x6_1 26))+x4_1))+x5_1):Int)).bind fun y24=>((Jb.f k y24 3).bind fun t26=>(gd (0≤(Int.tmod x6_1 26)) (gd ((Int.tmod x6_1 26)<(x3_0.length:Int)) (gd (0≤(Int.tmod x6_1 (a0.length:Int))) (gd ((Int.tmod x6_1 (a0.length:Int))<(a0.length:Int)) ((some (U32 ((U32 ((rd x0_1 (Int.tmod x6_1 (a0.length:Int)))+t26))+x5_1):Int)).bind fun y34=>((Jb.f k y34 (I64 (Int.tmod (U32 (t26+x5_1)) 32))).bind fun t36=>(gd (0≤(Int.tmod x6_1 (a0.length:Int))) (gd ((Int.tmod x6_1 (a0.length:Int))<(a0.length:Int)) (if (decide ((I64 (x6_1+1))<78))=true then (Ki.l1 k a0 x3_0 (x0_1.set (Int.tmod x6_1 (a0.length:Int):Int).toNat t36) (x3_1.set (Int.tmod x6_1 26:Int).toNat t26) t26 t36 (I64 (x6_1+1))) else (some (x3_1.set (Int.tmod x6_1 26:Int).toNat t26)))))))))))))))
end
def Ki.f (k:Nat) (a0:Li):Option Li:=Ki.l0 k a0 ([3084996963]:Li)
abbrev Ki.R (r:Li) (w0:World) (FT:List Ent):Value→World→Prop:=fun v w'=> ∃A0' c0',v= .slice A0' r.length c0'∧Mem w0 w' (Gs [⟨.slice A0' r.length c0',150,1,nums .u32 r⟩] [FT])
theorem Ki.calls {a0:Li} {r:Li} (M0:Mem w0 w (Gs [⟨.slice Ap0 np0 cp0,150,1,nums .u32 a0⟩] [FT])) (h:Ki.f k a0=some r):Calls prog 112 #[(.slice Ap0 np0 cp0)] w (Ret (Ki.R r w0 FT)):=by
 obtain rfl:=(M0.or 0).ln
 unfold Ki.f at h
 refine calls_S func112 ?_
 have M:=M0
 refine .gq 7<| .new 150 1 1 (nums .u32 [3084996963]) M fun g2 W3 M=> .gq 5 ?_
 have l0: ∀k_≤k,∀(A3_0:Option Addr) (c3_0:Nat) (x3_0:Li) {W:World} (M:Mem w0 W (Gs [⟨.slice Ap0 a0.length cp0,150,1,nums .u32 a0⟩,⟨.slice A3_0 x3_0.length c3_0,150,1,nums .u32 x3_0⟩] [FT])) (h:Ki.l0 k_ a0 x3_0=some r),RL 112 f112 (Ki.R r w0 FT) [1,0,1,0,0,0] [(0,.slice Ap0 a0.length cp0),(3,.slice A3_0 x3_0.length c3_0)] W:=by
  refine loopI (by intros;rename_i h;simp [Ki.l0] at h) fun k hk ih0 A3_0 c3_0 x3_0 W M h=> ?_
  simp only [Ki.l0] at h
  refine .gq 7 ?_
  rcases ift h with ⟨c6,h⟩ | ⟨c6,h⟩
  ·refine .kn 12 c6<| .gq 9 ?_
   obtain ⟨c8,h⟩:=ifd h
   obtain ⟨c9,h⟩:=ifd h
   obtain ⟨pq7,Cq7⟩:=M.na 1 rfl c8 c9
   refine .ix Cq7<| .lc Cq7<| .gq 1 ?_
   let y10:Int:=U32 ((rd x3_0 (I64 ((x3_0.length:Int)-1)))+2654435769)
   replace h:=bz (y:=y10) h rfl
   refine .new 150 1 1 (nums .u32 [y10]) M fun g11 W12 M=> ?_
   obtain ⟨c17,h⟩:=ifd h
   exact .an M 2 rfl (M.or 0) c17 fun A14 c15 W16 M=> .gq 4<| .at (ih0 k (by omega) A14 c15 (x3_0++([y10]:Li)) (M.pm [1,2] [[0]]) h)
  refine .kn 12 c6<| .gq 13 ?_
  have l1: ∀k_≤k,∀(x0_1:Li) (x3_1:Li) (x4_1:Int) (x5_1:Int) (x6_1:Int) {W:World} (M:Mem w0 W (Gs [⟨.slice Ap0 a0.length cp0,150,1,nums .u32 x0_1⟩,⟨.slice A3_0 x3_0.length c3_0,150,1,nums .u32 x3_1⟩] [FT])) (h:Ki.l1 k_ a0 x3_0 x0_1 x3_1 x4_1 x5_1 x6_1=some r),RL 112 f112 (Ki.R r w0 FT) [1,0,1,1,1,1,1] [(0,.slice Ap0 a0.length cp0),(3,.slice A3_0 x3_0.length c3_0),(4,.u x4_1),(5,.u x5_1),(6,.i x6_1)] W:=by
   refine loopI (by intros;rename_i h;simp [Ki.l1] at h) fun k hk ih1 x0_1 x3_1 x4_1 x5_1 x6_1 W M h=> ?_
   simp only [Ki.l1] at h
   refine .gq 1<| .at (show RL 112 f112 (Ki.R r w0 FT) [1,0,1,1,1,1,1,0] [(0,.slice Ap0 a0.length cp0),(3,.slice A3_0 x3_0.length c3_0),(4,.u x4_1),(5,.u x5_1),(6,.i x6_1)] _ from .dr [] M fun W19 M=> ?_)
   refine .pz tr [0,1,2,3,4] ?_
   obtain ⟨c20,h⟩:=ifn h
   refine .yt tr 5 (yl_rem (kd:= .i64) x6_1 c20)<| .pz tr [6,7]<| .dn tr<| .gq 4 ?_
   obtain ⟨c22,h⟩:=ifd h
   obtain ⟨c23,h⟩:=ifd h
   obtain ⟨pq21,Cq21⟩:=M.na 1 rfl c22 c23
   refine .ix Cq21<| .lc Cq21<| .gq 4 ?_
   let y24:Int:=U32 ((U32 ((rd x3_1 (Int.tmod x6_1 26))+x4_1))+x5_1)
   replace h:=bz (y:=y24) h rfl
   obtain ⟨t26,ht26,h⟩:=bs h
   refine .ca (Jb.calls ht26) ?_
   rintro _ W25 ⟨rfl,M_⟩
   replace M:=M.cg M_
   refine .gq 7 ?_
   obtain ⟨c28,h⟩:=ifd h
   obtain ⟨c29,h⟩:=ifd h
   obtain ⟨pq27,Cq27⟩:=M.na 1 rfl c28 c29
   refine .ix Cq27<| .sn t26 Cq27 M 1 rfl fun W30 M=> .gq 5 ?_
   obtain ⟨c32,h⟩:=ifd h
   obtain ⟨c33,h⟩:=ifd h
   obtain ⟨pq31,Cq31⟩:=M.na 0 rfl c32 c33
   refine .ix Cq31<| .lc Cq31<| .gq 9 ?_
   let y34:Int:=U32 ((U32 ((rd x0_1 (Int.tmod x6_1 (a0.length:Int)))+t26))+x5_1)
   replace h:=bz (y:=y34) h rfl
   obtain ⟨t36,ht36,h⟩:=bs h
   refine .ca (Jb.calls ht36) ?_
   rintro _ W35 ⟨rfl,M_⟩
   replace M:=M.cg M_
   refine .gq 7 ?_
   obtain ⟨c38,h⟩:=ifd h
   obtain ⟨c39,h⟩:=ifd h
   obtain ⟨pq37,Cq37⟩:=M.na 0 rfl c38 c39
   refine .ix Cq37<| .sn t36 Cq37 M 0 rfl fun W40 M=> .gq 13 ?_
   rcases ift h with ⟨c41,h⟩ | ⟨c41,h⟩
   ·exact .kn 63 c41<| .gq 4<| .at (ih1 k (by omega) (x0_1.set (Int.tmod x6_1 (a0.length:Int):Int).toNat t36) (x3_1.set (Int.tmod x6_1 26:Int).toNat t26) t26 t36 (I64 (x6_1+1)) (M.pm [0,1] [[0]]) h)
   refine .kn 63 c41<| .gq 7 ?_
   obtain rfl:=sj h
   have hn0_:=(M.or 1).ln
   exact .ret (v:= .slice A3_0 x3_0.length c3_0) func112 ⟨A3_0,c3_0,(by rw [hn0_]),by rw [hn0_];exact (M.pm [1] [[0]])⟩
  exact .at (l1 k k.le_refl a0 x3_0 0 0 0 (M.pm [0,1] [[0]]) h)
 exact .at (l0 k k.le_refl (pa g2) 1 ([3084996963]:Li) (M.pm [1,0] [[0]]) h)
def Kc.f (k:Nat) (a0:Int) (a1:Li):Option (Option (Li×Int)×Int):=if (a0==4)=true then (if ((a1.length:Int) != 16)=true then (some (none,4)) else ((Kj.f k a1 (a0==8)).bind fun t4=>(if (a0==8)=true then ((Ki.f k t4).bind fun t10=>(some ((some (t10,a0)),0))) else (some ((some (t4,a0)),0))))) else (if (a0==8)=true then (if ((a1.length:Int) != 16)=true then (some (none,4)) else ((Kj.f k a1 (a0==8)).bind fun t29=>(if (a0==8)=true then ((Ki.f k t29).bind fun t35=>(some ((some (t35,a0)),0))) else (some ((some (t29,a0)),0))))) else (if (a0==5)=true then (if ((a1.length:Int) != 32)=true then (some (none,4)) else ((Kj.f k a1 (a0==8)).bind fun t54=>(if (a0==8)=true then ((Ki.f k t54).bind fun t60=>(some ((some (t60,a0)),0))) else (some ((some (t54,a0)),0))))) else (some (none,2))))
theorem Kc.calls {a0:Int} {a1:Li} {r:Option (Li×Int)×Int} (hr1:Rd w (.slice Ap1 np1 cp1) (nums .u8 a1)) (h:Kc.f k a0 a1=some r):Calls prog 66 #[.i a0,(.slice Ap1 np1 cp1)] w (Ret fun v w'=> ∃(v0':Value) (F0':List Ent),v= .tuple #[v0',.i r.2]∧(rOpt (rPtr Rs_small_Small)) (Oks F0') v0' r.1∧Mem w w' (Gs [] [F0'])):=by
 obtain rfl:=hr1.ln
 unfold Kc.f at h
 refine calls_S func66 ?_
 have M:=Mem.r0 w
 refine .gq 21 ?_
 rcases ift h with ⟨c1,h⟩ | ⟨c1,h⟩
 ·refine .kn 9 c1<| .gq 13 ?_
  rcases ift h with ⟨c2,h⟩ | ⟨c2,h⟩
  ·refine .kn 17 c2<| .gq 6 ?_
   obtain rfl:=sj h
   exact .ret func66 ⟨.pointer none,([]:List Ent),rfl,(.inl ⟨rfl,rfl⟩),(M.pm [] [[]])⟩
  refine .kn 17 c2<| .gq 7 ?_
  obtain ⟨t4,ht4,h⟩:=bs h
  refine .ca (Kj.calls (hr1.mono M.below) ht4) ?_
  rintro _ W3 ⟨A5,c6,rfl,M_⟩
  replace M:=M.cg M_
  refine .gq 8 ?_
  rcases ift h with ⟨c8,h⟩ | ⟨c8,h⟩
  ·refine .kn 23 c8<| .gq 3 ?_
   obtain ⟨t10,ht10,h⟩:=bs h
   refine .ca (Ki.calls (M.fm [0] [] [] rfl rfl rfl) ht10) ?_
   rintro _ W9 ⟨A11,c12,rfl,M_⟩
   replace M:=M_.u1
   refine .gq 6 ?_
   obtain ⟨Fq14,hfq14,M⟩:=M.fs 0
   refine .gq 1<| .nw 173 ([.slice A11 t10.length c12,.i a0]) M fun g15 W16 M=> ?_
   obtain ⟨Fq18,hfq18,M⟩:=M.fp 0
   have hs19:rPtr Rs_small_Small (andZ (Oks Fq18) (Oks Fq14)) (.pt g15) (t10,a0):=⟨g15,_,rfl,hfq18.up (fun _ z=>z.1),_,_,rfl,(upn (fun _ z=>z.2) (rno hfq14 (M.oks 1))),rfl⟩
   refine .gq 3 ?_
   obtain rfl:=sj h
   exact .ret func66 ⟨.pt g15,(List.flatten [Fq18,Fq14]),rfl,(up_opt (up_ptr up_Rs_small_Small)) _ _ _ _ (fun _ (z:Oks _ _)=>(ai (z.g 0 rfl) (z.g 1 rfl))) (.inr ⟨(t10,a0),rfl,hs19⟩),(M.pm [] [[0,1]])⟩
  refine .kn 23 c8<| .gq 6 ?_
  obtain ⟨Fq20,hfq20,M⟩:=M.fs 0
  refine .gq 1<| .nw 173 ([.slice A5 t4.length c6,.i a0]) M fun g21 W22 M=> ?_
  obtain ⟨Fq24,hfq24,M⟩:=M.fp 0
  have hs25:rPtr Rs_small_Small (andZ (Oks Fq24) (Oks Fq20)) (.pt g21) (t4,a0):=⟨g21,_,rfl,hfq24.up (fun _ z=>z.1),_,_,rfl,(upn (fun _ z=>z.2) (rno hfq20 (M.oks 1))),rfl⟩
  refine .gq 3 ?_
  obtain rfl:=sj h
  exact .ret func66 ⟨.pt g21,(List.flatten [Fq24,Fq20]),rfl,(up_opt (up_ptr up_Rs_small_Small)) _ _ _ _ (fun _ (z:Oks _ _)=>(ai (z.g 0 rfl) (z.g 1 rfl))) (.inr ⟨(t4,a0),rfl,hs25⟩),(M.pm [] [[0,1]])⟩
 refine .kn 9 c1<| .gq 5 ?_
 rcases ift h with ⟨c26,h⟩ | ⟨c26,h⟩
 ·refine .kn 9 c26<| .gq 11 ?_
  rcases ift h with ⟨c27,h⟩ | ⟨c27,h⟩
  ·refine .kn 17 c27<| .gq 6 ?_
   obtain rfl:=sj h
   exact .ret func66 ⟨.pointer none,([]:List Ent),rfl,(.inl ⟨rfl,rfl⟩),(M.pm [] [[]])⟩
  refine .kn 17 c27<| .gq 7 ?_
  obtain ⟨t29,ht29,h⟩:=bs h
  refine .ca (Kj.calls (hr1.mono M.below) ht29) ?_
  rintro _ W28 ⟨A30,c31,rfl,M_⟩
  replace M:=M.cg M_
  refine .gq 8 ?_
  rcases ift h with ⟨c33,h⟩ | ⟨c33,h⟩
  ·refine .kn 23 c33<| .gq 3 ?_
   obtain ⟨t35,ht35,h⟩:=bs h
   refine .ca (Ki.calls (M.fm [0] [] [] rfl rfl rfl) ht35) ?_
   rintro _ W34 ⟨A36,c37,rfl,M_⟩
   replace M:=M_.u1
   refine .gq 6 ?_
   obtain ⟨Fq39,hfq39,M⟩:=M.fs 0
   refine .gq 1<| .nw 173 ([.slice A36 t35.length c37,.i a0]) M fun g40 W41 M=> ?_
   obtain ⟨Fq43,hfq43,M⟩:=M.fp 0
   have hs44:rPtr Rs_small_Small (andZ (Oks Fq43) (Oks Fq39)) (.pt g40) (t35,a0):=⟨g40,_,rfl,hfq43.up (fun _ z=>z.1),_,_,rfl,(upn (fun _ z=>z.2) (rno hfq39 (M.oks 1))),rfl⟩
   refine .gq 3 ?_
   obtain rfl:=sj h
   exact .ret func66 ⟨.pt g40,(List.flatten [Fq43,Fq39]),rfl,(up_opt (up_ptr up_Rs_small_Small)) _ _ _ _ (fun _ (z:Oks _ _)=>(ai (z.g 0 rfl) (z.g 1 rfl))) (.inr ⟨(t35,a0),rfl,hs44⟩),(M.pm [] [[0,1]])⟩
  refine .kn 23 c33<| .gq 6 ?_
  obtain ⟨Fq45,hfq45,M⟩:=M.fs 0
  refine .gq 1<| .nw 173 ([.slice A30 t29.length c31,.i a0]) M fun g46 W47 M=> ?_
  obtain ⟨Fq49,hfq49,M⟩:=M.fp 0
  have hs50:rPtr Rs_small_Small (andZ (Oks Fq49) (Oks Fq45)) (.pt g46) (t29,a0):=⟨g46,_,rfl,hfq49.up (fun _ z=>z.1),_,_,rfl,(upn (fun _ z=>z.2) (rno hfq45 (M.oks 1))),rfl⟩
  refine .gq 3 ?_
  obtain rfl:=sj h
  exact .ret func66 ⟨.pt g46,(List.flatten [Fq49,Fq45]),rfl,(up_opt (up_ptr up_Rs_small_Small)) _ _ _ _ (fun _ (z:Oks _ _)=>(ai (z.g 0 rfl) (z.g 1 rfl))) (.inr ⟨(t29,a0),rfl,hs50⟩),(M.pm [] [[0,1]])⟩
 refine .kn 9 c26<| .gq 6 ?_
 rcases ift h with ⟨c51,h⟩ | ⟨c51,h⟩
 ·refine .kn 12 c51<| .gq 13 ?_
  rcases ift h with ⟨c52,h⟩ | ⟨c52,h⟩
  ·refine .kn 17 c52<| .gq 6 ?_
   obtain rfl:=sj h
   exact .ret func66 ⟨.pointer none,([]:List Ent),rfl,(.inl ⟨rfl,rfl⟩),(M.pm [] [[]])⟩
  refine .kn 17 c52<| .gq 7 ?_
  obtain ⟨t54,ht54,h⟩:=bs h
  refine .ca (Kj.calls (hr1.mono M.below) ht54) ?_
  rintro _ W53 ⟨A55,c56,rfl,M_⟩
  replace M:=M.cg M_
  refine .gq 8 ?_
  rcases ift h with ⟨c58,h⟩ | ⟨c58,h⟩
  ·refine .kn 23 c58<| .gq 3 ?_
   obtain ⟨t60,ht60,h⟩:=bs h
   refine .ca (Ki.calls (M.fm [0] [] [] rfl rfl rfl) ht60) ?_
   rintro _ W59 ⟨A61,c62,rfl,M_⟩
   replace M:=M_.u1
   refine .gq 6 ?_
   obtain ⟨Fq64,hfq64,M⟩:=M.fs 0
   refine .gq 1<| .nw 173 ([.slice A61 t60.length c62,.i a0]) M fun g65 W66 M=> ?_
   obtain ⟨Fq68,hfq68,M⟩:=M.fp 0
   have hs69:rPtr Rs_small_Small (andZ (Oks Fq68) (Oks Fq64)) (.pt g65) (t60,a0):=⟨g65,_,rfl,hfq68.up (fun _ z=>z.1),_,_,rfl,(upn (fun _ z=>z.2) (rno hfq64 (M.oks 1))),rfl⟩
   refine .gq 3 ?_
   obtain rfl:=sj h
   exact .ret func66 ⟨.pt g65,(List.flatten [Fq68,Fq64]),rfl,(up_opt (up_ptr up_Rs_small_Small)) _ _ _ _ (fun _ (z:Oks _ _)=>(ai (z.g 0 rfl) (z.g 1 rfl))) (.inr ⟨(t60,a0),rfl,hs69⟩),(M.pm [] [[0,1]])⟩
  refine .kn 23 c58<| .gq 6 ?_
  obtain ⟨Fq70,hfq70,M⟩:=M.fs 0
  refine .gq 1<| .nw 173 ([.slice A55 t54.length c56,.i a0]) M fun g71 W72 M=> ?_
  obtain ⟨Fq74,hfq74,M⟩:=M.fp 0
  have hs75:rPtr Rs_small_Small (andZ (Oks Fq74) (Oks Fq70)) (.pt g71) (t54,a0):=⟨g71,_,rfl,hfq74.up (fun _ z=>z.1),_,_,rfl,(upn (fun _ z=>z.2) (rno hfq70 (M.oks 1))),rfl⟩
  refine .gq 3 ?_
  obtain rfl:=sj h
  exact .ret func66 ⟨.pt g71,(List.flatten [Fq74,Fq70]),rfl,(up_opt (up_ptr up_Rs_small_Small)) _ _ _ _ (fun _ (z:Oks _ _)=>(ai (z.g 0 rfl) (z.g 1 rfl))) (.inr ⟨(t54,a0),rfl,hs75⟩),(M.pm [] [[0,1]])⟩
 refine .kn 12 c51<| .gq 6 ?_
 obtain rfl:=sj h
 exact .ret func66 ⟨.pointer none,([]:List Ent),rfl,(.inl ⟨rfl,rfl⟩),(M.pm [] [[]])⟩
mutual
def Q1.l0:Nat→Option (Option Ci×Int)
 | 0=>none
 | k+1=>some (none,4)
def Q1.l1:Nat→Int→(Option Lk×Int)→Option (Option Ci×Int)
 | 0,_,_=>none
 | k+1,a0,t17=>some ((some (a0,((Sum.inl t17.1):(Option Lk)⊕((Option Lp)⊕((Option Lp)⊕((Option (Lj×Lj))⊕(Option (Li×Int)))))))),0)
def Q1.l2:Nat→Int→(Option Lk×Int)→Option (Option Ci×Int)
 | 0,_,_=>none
 | k+1,a0,t23=>some ((some (a0,((Sum.inl t23.1):(Option Lk)⊕((Option Lp)⊕((Option Lp)⊕((Option (Lj×Lj))⊕(Option (Li×Int)))))))),0)
def Q1.l3:Nat→Int→(Option Lp×Int)→Option (Option Ci×Int)
 | 0,_,_=>none
 | k+1,a0,t29=>some ((some (a0,((Sum.inr (Sum.inl t29.1)):(Option Lk)⊕((Option Lp)⊕((Option Lp)⊕((Option (Lj×Lj))⊕(Option (Li×Int)))))))),0)
def Q1.l4:Nat→Int→(Option Lp×Int)→Option (Option Ci×Int)
 | 0,_,_=>none
 | k+1,a0,t35=>some ((some (a0,((Sum.inr (Sum.inr (Sum.inl t35.1))):(Option Lk)⊕((Option Lp)⊕((Option Lp)⊕((Option (Lj×Lj))⊕(Option (Li×Int)))))))),0)
def Q1.l5:Nat→Int→(Option (Lj×Lj)×Int)→Option (Option Ci×Int)
 | 0,_,_=>none
 | k+1,a0,t41=>some ((some (a0,((Sum.inr (Sum.inr (Sum.inr (Sum.inl t41.1)))):(Option Lk)⊕((Option Lp)⊕((Option Lp)⊕((Option (Lj×Lj))⊕(Option (Li×Int)))))))),0)
def Q1.l6:Nat→Int→(Option (Li×Int)×Int)→Option (Option Ci×Int)
 | 0,_,_=>none
 | k+1,a0,t46=>some ((some (a0,((Sum.inr (Sum.inr (Sum.inr (Sum.inr t46.1)))):(Option Lk)⊕((Option Lp)⊕((Option Lp)⊕((Option (Lj×Lj))⊕(Option (Li×Int)))))))),0)
end
def Q1.f (k:Nat) (a0:Int) (a1:Li):Option (Option Ci×Int):=(Q2.f k a0).bind fun t5=>(if (t5==0)=true then (some (none,2)) else ((Qz.f k a0).bind fun t8=>((Y5.f k t8 (a1.length:Int)).bind fun t13=>(if (!t13)=true then (Q1.l0 k) else (if (a0==1)=true then ((Vi.f k a1).bind fun t17=>(Q1.l1 k a0 t17)) else (if (a0==2)=true then ((Vi.f k a1).bind fun t23=>(Q1.l2 k a0 t23)) else (if (a0==3)=true then ((Vx.f k a1).bind fun t29=>(Q1.l3 k a0 t29)) else (if (a0==6)=true then ((Kv.f k a1).bind fun t35=>(Q1.l4 k a0 t35)) else (if (a0==7)=true then ((Qc.f k a1).bind fun t41=>(Q1.l5 k a0 t41)) else ((Kc.f k a0 a1).bind fun t46=>(Q1.l6 k a0 t46)))))))))))
abbrev Q1.R (r:Option Ci×Int) (w:World):Value→World→Prop:=fun v w'=> ∃(v0':Value) (F0':List Ent),v= .tuple #[v0',.i r.2]∧(rOpt (rPtr Rs_cipher_Cipher)) (Oks F0') v0' r.1∧Mem w w' (Gs [] [F0'])
theorem Q1.calls {a0:Int} {a1:Li} {r:Option Ci×Int} (hr1:Rd w (.slice Ap1 np1 cp1) (nums .u8 a1)) (hG1:Rg w 1 (nums .u8 [1,2,4,8,16,32,64,128])) (h:Q1.f k a0 a1=some r):Calls prog 18 #[.i a0,(.slice Ap1 np1 cp1)] w (Ret (Q1.R r w)):=by
 obtain rfl:=hr1.ln
 unfold Q1.f at h
 refine calls_S func18 ?_
 have M:=Mem.r0 w
 refine .gq 10<| .nw 81 ([.i a0,.nilFunc]) M fun g1 W2 M=> .gq 7 ?_
 obtain ⟨t5,ht5,h⟩:=bs h
 refine .ca (Q2.calls ht5) ?_
 rintro _ W4 ⟨rfl,M_⟩
 replace M:=M.cg M_
 refine .gq 2 ?_
 rcases ift h with ⟨c6,h⟩ | ⟨c6,h⟩
 ·refine .kn 23 c6<| .gq 6 ?_
  obtain rfl:=sj h
  exact .ret func18 ⟨.pointer none,([]:List Ent),rfl,(.inl ⟨rfl,rfl⟩),(M.pm [] [[]])⟩
 refine .kn 23 c6<| .gq 6 ?_
 obtain ⟨t8,ht8,h⟩:=bs h
 refine .ca (Qz.calls ht8) ?_
 rintro _ W7 ⟨A9,c10,rfl,M_⟩
 replace M:=M.cg M_
 refine .gq 2 ?_
 obtain ⟨t13,ht13,h⟩:=bs h
 refine .ca (Y5.calls (M.or 0) ht13) ?_
 rintro _ W12 ⟨rfl,M_⟩
 replace M:=M.cg M_
 refine .gq 2 ?_
 rcases ift h with ⟨c14,h⟩ | ⟨c14,h⟩
 ·refine .kn 29 c14<| .gq 8 ?_
  have l0: ∀k_≤k,∀ {W:World} (M:Mem w W (Gs [⟨.pt g1,81,0,[.i a0,.nilFunc]⟩] [])) (h:Q1.l0 k_=some r),RL 18 f18 (Q1.R r w) [1,0,1,1,1,1,1] [(6,.pt g1),(7,.i 4)] W:=by
   refine loopI (by intros;rename_i h;simp [Q1.l0] at h) fun k hk ih0 W M h=> ?_
   simp only [Q1.l0] at h
   refine .gq 13 ?_
   obtain rfl:=sj h
   exact .ret func18 ⟨.pointer none,([]:List Ent),rfl,(.inl ⟨rfl,rfl⟩),(M.pm [] [[]])⟩
  exact .at (l0 k k.le_refl (M.pm [1] []) h)
 refine .kn 29 c14<| .gq 14 ?_
 rcases ift h with ⟨c15,h⟩ | ⟨c15,h⟩
 ·refine .kn 42 c15<| .gq 6 ?_
  obtain ⟨t17,ht17,h⟩:=bs h
  refine .ca (Vi.calls (hr1.mono M.below) ht17) ?_
  rintro _ W16 ⟨vt17_0,Ft17_0,rfl,hRt17_0,M_⟩
  replace M:=M.cg M_
  refine .gq 12<| .vf 1 (.func (.func 59) #[vt17_0] #[]) M 1 rfl fun W18 M=> .gq 4 ?_
  have l1: ∀k_≤k,∀ {W:World} (M:Mem w W (Gs [⟨.pt g1,81,0,[.i a0,.func (.func 59) #[vt17_0] #[]]⟩] [Ft17_0])) (h:Q1.l1 k_ a0 t17=some r),RL 18 f18 (Q1.R r w) [1,0,1,1,1,1,1] [(6,.pt g1),(7,.i 0)] W:=by
   refine loopI (by intros;rename_i h;simp [Q1.l1] at h) fun k hk ih1 W M h=> ?_
   simp only [Q1.l1] at h
   refine .gq 14 ?_
   obtain ⟨Fq19,hfq19,M⟩:=M.fp 0
   have hs20:rPtr Rs_cipher_Cipher (andZ (Oks Fq19) (Oks Ft17_0)) (.pt g1) (a0,((Sum.inl t17.1):(Option Lk)⊕((Option Lp)⊕((Option Lp)⊕((Option (Lj×Lj))⊕(Option (Li×Int))))))):=⟨g1,_,rfl,hfq19.up (fun _ z=>z.1),_,_,rfl,rfl,((up_sum (up_fn 59 (up_opt (up_ptr up_Rs_des_Des))) (up_sum (up_fn 61 (up_opt (up_ptr up_Rs_idea_Idea))) (up_sum (up_fn 63 (up_opt (up_ptr up_Rs_twofish_Twofish))) (up_sum (up_fn 65 (up_opt (up_ptr up_Rs_aria_Aria))) (up_fn 67 (up_opt (up_ptr up_Rs_small_Small))))))) _ _ _ _ (fun _ z=>z.2) ⟨_,rfl,hRt17_0⟩)⟩
   obtain rfl:=sj h
   exact .ret func18 ⟨.pt g1,(List.flatten [Fq19,Ft17_0]),rfl,upc _ _ _ _ (fun _ (z:Oks _ _)=>(ai (z.g 0 rfl) (z.g 1 rfl))) (.inr ⟨(a0,((Sum.inl t17.1):(Option Lk)⊕((Option Lp)⊕((Option Lp)⊕((Option (Lj×Lj))⊕(Option (Li×Int))))))),rfl,hs20⟩),(M.pm [] [[0,1]])⟩
  exact .at (l1 k k.le_refl (M.pm [1] [[0]]) h)
 refine .kn 42 c15<| .gq 5 ?_
 rcases ift h with ⟨c21,h⟩ | ⟨c21,h⟩
 ·refine .kn 42 c21<| .gq 4 ?_
  obtain ⟨t23,ht23,h⟩:=bs h
  refine .ca (Vi.calls (hr1.mono M.below) ht23) ?_
  rintro _ W22 ⟨vt23_0,Ft23_0,rfl,hRt23_0,M_⟩
  replace M:=M.cg M_
  refine .gq 12<| .vf 1 (.func (.func 59) #[vt23_0] #[]) M 1 rfl fun W24 M=> .gq 4 ?_
  have l2: ∀k_≤k,∀ {W:World} (M:Mem w W (Gs [⟨.pt g1,81,0,[.i a0,.func (.func 59) #[vt23_0] #[]]⟩] [Ft23_0])) (h:Q1.l2 k_ a0 t23=some r),RL 18 f18 (Q1.R r w) [1,0,1,1,1,1,1] [(6,.pt g1),(7,.i 0)] W:=by
   refine loopI (by intros;rename_i h;simp [Q1.l2] at h) fun k hk ih2 W M h=> ?_
   simp only [Q1.l2] at h
   refine .gq 14 ?_
   obtain ⟨Fq25,hfq25,M⟩:=M.fp 0
   have hs26:rPtr Rs_cipher_Cipher (andZ (Oks Fq25) (Oks Ft23_0)) (.pt g1) (a0,((Sum.inl t23.1):(Option Lk)⊕((Option Lp)⊕((Option Lp)⊕((Option (Lj×Lj))⊕(Option (Li×Int))))))):=⟨g1,_,rfl,hfq25.up (fun _ z=>z.1),_,_,rfl,rfl,((up_sum (up_fn 59 (up_opt (up_ptr up_Rs_des_Des))) (up_sum (up_fn 61 (up_opt (up_ptr up_Rs_idea_Idea))) (up_sum (up_fn 63 (up_opt (up_ptr up_Rs_twofish_Twofish))) (up_sum (up_fn 65 (up_opt (up_ptr up_Rs_aria_Aria))) (up_fn 67 (up_opt (up_ptr up_Rs_small_Small))))))) _ _ _ _ (fun _ z=>z.2) ⟨_,rfl,hRt23_0⟩)⟩
   obtain rfl:=sj h
   exact .ret func18 ⟨.pt g1,(List.flatten [Fq25,Ft23_0]),rfl,upc _ _ _ _ (fun _ (z:Oks _ _)=>(ai (z.g 0 rfl) (z.g 1 rfl))) (.inr ⟨(a0,((Sum.inl t23.1):(Option Lk)⊕((Option Lp)⊕((Option Lp)⊕((Option (Lj×Lj))⊕(Option (Li×Int))))))),rfl,hs26⟩),(M.pm [] [[0,1]])⟩
  exact .at (l2 k k.le_refl (M.pm [1] [[0]]) h)
 refine .kn 42 c21<| .gq 6 ?_
 rcases ift h with ⟨c27,h⟩ | ⟨c27,h⟩
 ·refine .kn 55 c27<| .gq 4 ?_
  obtain ⟨t29,ht29,h⟩:=bs h
  refine .ca (Vx.calls (hr1.mono M.below) ht29) ?_
  rintro _ W28 ⟨vt29_0,Ft29_0,rfl,hRt29_0,M_⟩
  replace M:=M.cg M_
  refine .gq 12<| .vf 1 (.func (.func 61) #[vt29_0] #[]) M 1 rfl fun W30 M=> .gq 4 ?_
  have l3: ∀k_≤k,∀ {W:World} (M:Mem w W (Gs [⟨.pt g1,81,0,[.i a0,.func (.func 61) #[vt29_0] #[]]⟩] [Ft29_0])) (h:Q1.l3 k_ a0 t29=some r),RL 18 f18 (Q1.R r w) [1,0,1,1,1,1,1] [(6,.pt g1),(7,.i 0)] W:=by
   refine loopI (by intros;rename_i h;simp [Q1.l3] at h) fun k hk ih3 W M h=> ?_
   simp only [Q1.l3] at h
   refine .gq 14 ?_
   obtain ⟨Fq31,hfq31,M⟩:=M.fp 0
   have hs32:rPtr Rs_cipher_Cipher (andZ (Oks Fq31) (Oks Ft29_0)) (.pt g1) (a0,((Sum.inr (Sum.inl t29.1)):(Option Lk)⊕((Option Lp)⊕((Option Lp)⊕((Option (Lj×Lj))⊕(Option (Li×Int))))))):=⟨g1,_,rfl,hfq31.up (fun _ z=>z.1),_,_,rfl,rfl,((up_sum (up_fn 59 (up_opt (up_ptr up_Rs_des_Des))) (up_sum (up_fn 61 (up_opt (up_ptr up_Rs_idea_Idea))) (up_sum (up_fn 63 (up_opt (up_ptr up_Rs_twofish_Twofish))) (up_sum (up_fn 65 (up_opt (up_ptr up_Rs_aria_Aria))) (up_fn 67 (up_opt (up_ptr up_Rs_small_Small))))))) _ _ _ _ (fun _ z=>z.2) ⟨_,rfl,hRt29_0⟩)⟩
   obtain rfl:=sj h
   exact .ret func18 ⟨.pt g1,(List.flatten [Fq31,Ft29_0]),rfl,upc _ _ _ _ (fun _ (z:Oks _ _)=>(ai (z.g 0 rfl) (z.g 1 rfl))) (.inr ⟨(a0,((Sum.inr (Sum.inl t29.1)):(Option Lk)⊕((Option Lp)⊕((Option Lp)⊕((Option (Lj×Lj))⊕(Option (Li×Int))))))),rfl,hs32⟩),(M.pm [] [[0,1]])⟩
  exact .at (l3 k k.le_refl (M.pm [1] [[0]]) h)
 refine .kn 55 c27<| .gq 6 ?_
 rcases ift h with ⟨c33,h⟩ | ⟨c33,h⟩
 ·refine .kn 67 c33<| .gq 4 ?_
  obtain ⟨t35,ht35,h⟩:=bs h
  refine .ca (Kv.calls (hr1.mono M.below) ht35) ?_
  rintro _ W34 ⟨vt35_0,Ft35_0,rfl,hRt35_0,M_⟩
  replace M:=M.cg M_
  refine .gq 12<| .vf 1 (.func (.func 63) #[vt35_0] #[]) M 1 rfl fun W36 M=> .gq 4 ?_
  have l4: ∀k_≤k,∀ {W:World} (M:Mem w W (Gs [⟨.pt g1,81,0,[.i a0,.func (.func 63) #[vt35_0] #[]]⟩] [Ft35_0])) (h:Q1.l4 k_ a0 t35=some r),RL 18 f18 (Q1.R r w) [1,0,1,1,1,1,1] [(6,.pt g1),(7,.i 0)] W:=by
   refine loopI (by intros;rename_i h;simp [Q1.l4] at h) fun k hk ih4 W M h=> ?_
   simp only [Q1.l4] at h
   refine .gq 14 ?_
   obtain ⟨Fq37,hfq37,M⟩:=M.fp 0
   have hs38:rPtr Rs_cipher_Cipher (andZ (Oks Fq37) (Oks Ft35_0)) (.pt g1) (a0,((Sum.inr (Sum.inr (Sum.inl t35.1))):(Option Lk)⊕((Option Lp)⊕((Option Lp)⊕((Option (Lj×Lj))⊕(Option (Li×Int))))))):=⟨g1,_,rfl,hfq37.up (fun _ z=>z.1),_,_,rfl,rfl,((up_sum (up_fn 59 (up_opt (up_ptr up_Rs_des_Des))) (up_sum (up_fn 61 (up_opt (up_ptr up_Rs_idea_Idea))) (up_sum (up_fn 63 (up_opt (up_ptr up_Rs_twofish_Twofish))) (up_sum (up_fn 65 (up_opt (up_ptr up_Rs_aria_Aria))) (up_fn 67 (up_opt (up_ptr up_Rs_small_Small))))))) _ _ _ _ (fun _ z=>z.2) ⟨_,rfl,hRt35_0⟩)⟩
   obtain rfl:=sj h
   exact .ret func18 ⟨.pt g1,(List.flatten [Fq37,Ft35_0]),rfl,upc _ _ _ _ (fun _ (z:Oks _ _)=>(ai (z.g 0 rfl) (z.g 1 rfl))) (.inr ⟨(a0,((Sum.inr (Sum.inr (Sum.inl t35.1))):(Option Lk)⊕((Option Lp)⊕((Option Lp)⊕((Option (Lj×Lj))⊕(Option (Li×Int))))))),rfl,hs38⟩),(M.pm [] [[0,1]])⟩
  exact .at (l4 k k.le_refl (M.pm [1] [[0]]) h)
 refine .kn 67 c33<| .gq 6 ?_
 rcases ift h with ⟨c39,h⟩ | ⟨c39,h⟩
 ·refine .kn 79 c39<| .gq 4 ?_
  obtain ⟨t41,ht41,h⟩:=bs h
  refine .ca (Qc.calls (hr1.mono M.below) (hG1.mono M.below) ht41) ?_
  rintro _ W40 ⟨vt41_0,Ft41_0,rfl,hRt41_0,M_⟩
  replace M:=M.cg M_
  refine .gq 12<| .vf 1 (.func (.func 65) #[vt41_0] #[]) M 1 rfl fun W42 M=> .gq 4 ?_
  have l5: ∀k_≤k,∀ {W:World} (M:Mem w W (Gs [⟨.pt g1,81,0,[.i a0,.func (.func 65) #[vt41_0] #[]]⟩] [Ft41_0])) (h:Q1.l5 k_ a0 t41=some r),RL 18 f18 (Q1.R r w) [1,0,1,1,1,1,1] [(6,.pt g1),(7,.i 0)] W:=by
   refine loopI (by intros;rename_i h;simp [Q1.l5] at h) fun k hk ih5 W M h=> ?_
   simp only [Q1.l5] at h
   refine .gq 14 ?_
   obtain ⟨Fq43,hfq43,M⟩:=M.fp 0
   have hs44:rPtr Rs_cipher_Cipher (andZ (Oks Fq43) (Oks Ft41_0)) (.pt g1) (a0,((Sum.inr (Sum.inr (Sum.inr (Sum.inl t41.1)))):(Option Lk)⊕((Option Lp)⊕((Option Lp)⊕((Option (Lj×Lj))⊕(Option (Li×Int))))))):=⟨g1,_,rfl,hfq43.up (fun _ z=>z.1),_,_,rfl,rfl,((up_sum (up_fn 59 (up_opt (up_ptr up_Rs_des_Des))) (up_sum (up_fn 61 (up_opt (up_ptr up_Rs_idea_Idea))) (up_sum (up_fn 63 (up_opt (up_ptr up_Rs_twofish_Twofish))) (up_sum (up_fn 65 (up_opt (up_ptr up_Rs_aria_Aria))) (up_fn 67 (up_opt (up_ptr up_Rs_small_Small))))))) _ _ _ _ (fun _ z=>z.2) ⟨_,rfl,hRt41_0⟩)⟩
   obtain rfl:=sj h
   exact .ret func18 ⟨.pt g1,(List.flatten [Fq43,Ft41_0]),rfl,upc _ _ _ _ (fun _ (z:Oks _ _)=>(ai (z.g 0 rfl) (z.g 1 rfl))) (.inr ⟨(a0,((Sum.inr (Sum.inr (Sum.inr (Sum.inl t41.1)))):(Option Lk)⊕((Option Lp)⊕((Option Lp)⊕((Option (Lj×Lj))⊕(Option (Li×Int))))))),rfl,hs44⟩),(M.pm [] [[0,1]])⟩
  exact .at (l5 k k.le_refl (M.pm [1] [[0]]) h)
 refine .kn 79 c39<| .gq 5 ?_
 obtain ⟨t46,ht46,h⟩:=bs h
 refine .ca (Kc.calls (hr1.mono M.below) ht46) ?_
 rintro _ W45 ⟨vt46_0,Ft46_0,rfl,hRt46_0,M_⟩
 replace M:=M.cg M_
 refine .gq 12<| .vf 1 (.func (.func 67) #[vt46_0] #[]) M 1 rfl fun W47 M=> .gq 4 ?_
 have l6: ∀k_≤k,∀ {W:World} (M:Mem w W (Gs [⟨.pt g1,81,0,[.i a0,.func (.func 67) #[vt46_0] #[]]⟩] [Ft46_0])) (h:Q1.l6 k_ a0 t46=some r),RL 18 f18 (Q1.R r w) [1,0,1,1,1,1,1] [(6,.pt g1),(7,.i 0)] W:=by
  refine loopI (by intros;rename_i h;simp [Q1.l6] at h) fun k hk ih6 W M h=> ?_
  simp only [Q1.l6] at h
  refine .gq 14 ?_
  obtain ⟨Fq48,hfq48,M⟩:=M.fp 0
  have hs49:rPtr Rs_cipher_Cipher (andZ (Oks Fq48) (Oks Ft46_0)) (.pt g1) (a0,((Sum.inr (Sum.inr (Sum.inr (Sum.inr t46.1)))):(Option Lk)⊕((Option Lp)⊕((Option Lp)⊕((Option (Lj×Lj))⊕(Option (Li×Int))))))):=⟨g1,_,rfl,hfq48.up (fun _ z=>z.1),_,_,rfl,rfl,((up_sum (up_fn 59 (up_opt (up_ptr up_Rs_des_Des))) (up_sum (up_fn 61 (up_opt (up_ptr up_Rs_idea_Idea))) (up_sum (up_fn 63 (up_opt (up_ptr up_Rs_twofish_Twofish))) (up_sum (up_fn 65 (up_opt (up_ptr up_Rs_aria_Aria))) (up_fn 67 (up_opt (up_ptr up_Rs_small_Small))))))) _ _ _ _ (fun _ z=>z.2) ⟨_,rfl,hRt46_0⟩)⟩
  obtain rfl:=sj h
  exact .ret func18 ⟨.pt g1,(List.flatten [Fq48,Ft46_0]),rfl,upc _ _ _ _ (fun _ (z:Oks _ _)=>(ai (z.g 0 rfl) (z.g 1 rfl))) (.inr ⟨(a0,((Sum.inr (Sum.inr (Sum.inr (Sum.inr t46.1)))):(Option Lk)⊕((Option Lp)⊕((Option Lp)⊕((Option (Lj×Lj))⊕(Option (Li×Int))))))),rfl,hs49⟩),(M.pm [] [[0,1]])⟩
 exact .at (l6 k k.le_refl (M.pm [1] [[0]]) h)
end Go.Scr.S
