/- Each function's call answers as its plain function. -/
import Derived.Test.YtdemmfohkhpklaaGreatDoorXf
import Derived.Test.YtdemmfohkhpklaaGreatDoorFp
set_option linter.unusedVariables false
set_option maxRecDepth 100000
namespace Go.Scr.A
open Go.Scr.S
open Go.Proofs.Tryz (prog f3 func3 f6 func6 f7 func7 f8 func8 f9 func9 f10 func10 f11 func11 f12 func12 f14 func14 f15 func15 f16 func16 f17 func17 f18 func18 f19 func19 f20 func20 f21 func21 f22 func22 f23 func23 f24 func24 f25 func25 f26 func26 f27 func27 f28 func28 f29 func29 f30 func30 f31 func31 f32 func32 f33 func33 f34 func34 f35 func35 f36 func36 f37 func37 f38 func38 f39 func39 f40 func40 f41 func41 f42 func42 f43 func43 f44 func44 f45 func45 f48 func48 f49 func49 f50 func50 f51 func51 f52 func52 f53 func53 f54 func54 f55 func55 f56 func56 f57 func57 f58 func58 f59 func59 f60 func60 f61 func61 f62 func62 f63 func63 f64 func64 f65 func65 f66 func66 f67 func67 f68 func68 f69 func69 f70 func70 f71 func71 f72 func72 f73 func73 f74 func74 f75 func75 f76 func76 f77 func77 f78 func78 f79 func79 f80 func80 f81 func81 f82 func82 f83 func83 f84 func84 f85 func85 f86 func86 f87 func87 f88 func88 f89 func89 f90 func90 f91 func91 f92 func92 f93 func93 f94 func94 f95 func95 f96 func96 f97 func97 f98 func98 f99 func99 f100 func100 f101 func101 f102 func102 f103 func103 f104 func104 f105 func105 f106 func106 f107 func107 f108 func108 f109 func109 f110 func110 f111 func111 f112 func112 f113 func113 f114 func114 f115 func115 f116 func116 f117 func117 f118 func118 f119 func119 f120 func120 f121 func121 f122 func122 f123 func123 f124 func124 f125 func125 f126 func126 f127 func127 f128 func128 f129 func129 f130 func130 f131 func131 f132 func132 f133 func133 f134 func134 f135 func135 f136 func136 f137 func137 f138 func138 f139 func139 f140 func140 f141 func141 f142 func142 f143 func143 f144 func144 f145 func145 f146 func146 f147 func147 f148 func148 f149 func149 f150 func150 f151 func151 f152 func152 f153 func153 f154 func154 f155 func155 f156 func156 f157 func157 f158 func158 f159 func159 f160 func160 f161 func161 f162 func162 f163 func163 f164 func164 f165 func165 f166 func166 f167 func167 f168 func168 f169 func169 f170 func170 f171 func171 f172 func172 f173 func173 f174 func174 f175 func175 f176 func176 f177 func177 f178 func178 f179 func179 f180 func180 f181 func181 f182 func182 f183 func183 f184 func184 f185 func185 f186 func186 f187 func187 f188 func188 f189 func189 f190 func190 f191 func191 f192 func192 f193 func193 f194 func194 f195 func195 f196 func196 f197 func197 f198 func198 f199 func199 f200 func200 f201 func201 f202 func202 f203 func203 f204 func204 f205 func205 f206 func206 f207 func207 f208 func208 f209 func209 f210 func210 f211 func211 f212 func212 f213 func213 f214 func214 f215 func215 f216 func216 f217 func217 f218 func218 f219 func219 f220 func220 f221 func221 f222 func222 f223 func223 f224 func224 f225 func225 f226 func226 f227 func227 f228 func228 f229 func229 f230 func230 f231 func231 f232 func232 f233 func233 f234 func234 f235 func235 f236 func236 f237 func237 f238 func238 f239 func239 f240 func240 f241 func241 f242 func242 f243 func243 f244 func244 f245 func245 f246 func246 f247 func247)
def _root_.Go.Scr.S.Tn.F:Tn→FuncId
 | .m0 _=>59
 | .m1 _=>61
 | .m2 _=>63
 | .m3 _=>65
 | .m4 _=>67
def _root_.Go.Scr.S.Tn.C:Tn→Ct
 | .m0 x=>bE [.obj (bE [.row (.T .u8 x) false]) none 1]
 | .m1 x=>bE [.obj (bE [.row (.N .i64 x.1) false,.row (.N .i64 x.2) false]) none 2]
 | .m2 x=>bE [.obj (bE [.row (.N .u32 x.1) false,.row (.N .u32 x.2) false]) none 2]
 | .m3 x=>bE [.obj (bE [.row (.N .u8 (rr x.1 0)) false,.row (.N .u8 (rr x.1 1)) false,.row (.N .u8 (rr x.1 2)) false,.row (.N .u8 (rr x.1 3)) false,.row (.R .u8 x.2) false]) none 5]
 | .m4 x=>bE [.obj (bE [.row (.N .u32 x.1) false,.c (.int .i64 x.2)]) none 2]
def ie.rv (r:Int):AV:= .c (.int .i64 r)
def ie.H (r:Int):List HE:=[]
theorem ie.ac {k:Nat} {a0:Int} {r:Int} (h:ie.f k a0=some r):dU 23 0 [.c (.int .i64 a0)] [] (ie.rv r) (ie.H r):=
 dV func23 fun Γ=>by unfold ie.f at h;exact (kn h (fun h=>rt h func23) fun h=>kn h (fun h=>rt h func23) fun h=>kn h (fun h=>rt h func23) fun h=>kn h (fun h=>rt h func23) fun h=>kn h (fun h=>rt h func23) fun h=>kn h (fun h=>rt h func23) fun h=>kn h (fun h=>rt h func23) fun h=>kn h (fun h=>rt h func23) fun h=>rt h func23)
def iK.rv (r:(List Int)):AV:= .own 0 none true
def iK.H (r:(List Int)):List HE:=[⟨0,false,3,0,.N .i64 r⟩]
theorem iK.ac {k:Nat} {a0:Int} {r:(List Int)} (h:iK.f k a0=some r):dU 57 0 [.c (.int .i64 a0)] [] (iK.rv r) (iK.H r):=
 dV func57 fun Γ=>by unfold iK.f at h;exact (kn h (fun h=>rt h func57) fun h=>kn h (fun h=>rt h func57) fun h=>kn h (fun h=>rt h func57) fun h=>kn h (fun h=>rt h func57) fun h=>kn h (fun h=>rt h func57) fun h=>kn h (fun h=>rt h func57) fun h=>kn h (fun h=>rt h func57) fun h=>kn h (fun h=>rt h func57) fun h=>rt h func57)
def cI.rv (r:Int):AV:= .c (.int .i64 r)
def cI.H (r:Int):List HE:=[]
theorem cI.ls {r:Int} (Γ:Cr prog gl 89 19 0 (cI.rv r) (cI.H r)): ∀k:Nat,(∀(a0:List Int) (a1:Int) (aZ:Int),cI.l0 k a0 a1 aZ=some r→GC Γ ⟨.it,pl f89 [1,0,1,0,0],[(0,.row (.N .i64 a0) false),(1,.c (.int .i64 a1)),(7,.c (.int .i64 (a0.length:Int))),(8,.c (.int .i64 aZ))],[],16⟩)
 | 0=>(fun _ _ _ h=>nomatch h)
 | k+1=>(fun a0 a1 aZ h=>by unfold cI.l0 at h;exact (kn h (fun h=>nd h fun h=>nd h fun h=>kn h (fun h=>rt h func89) fun h=>la ((cI.ls Γ k) _ _ _ h)) fun h=>rt h func89))
theorem cI.ac {k:Nat} {a0:List Int} {a1:Int} {r:Int} (h:cI.f k a0 a1=some r):dU 89 0 [.row (.N .i64 a0) false,.c (.int .i64 a1)] [] (cI.rv r) (cI.H r):=
 dV func89 fun Γ=>by unfold cI.f at h;exact (la ((cI.ls Γ k) _ _ _ h))
def eW.rv (r:Bool):AV:= .c (.bool r)
def eW.H (r:Bool):List HE:=[]
theorem eW.ac {k:Nat} {a0:List Int} {a1:Int} {r:Bool} (h:eW.f k a0 a1=some r):dU 56 0 [.row (.N .i64 a0) false,.c (.int .i64 a1)] [] (eW.rv r) (eW.H r):=
 dV func56 fun Γ=>by unfold eW.f at h;exact (bd h fun _ e h=>G.ca (cI.ac e)<|rt h func56)
def gJ.rv (r:(List Int)):AV:= .own 1 none false
def gJ.H (r:(List Int)):List HE:=[⟨1,false,3,0,.N .i64 r⟩]
theorem gJ.ls {r:(List Int)} (Γ:Cr prog gl 179 32 1 (gJ.rv r) (gJ.H r)): ∀k:Nat,(∀(a2:Int) (a3:Int) (a4:Int) (s7:List Int) (dd:Int) (iE:Int),gJ.l0 k a2 a3 a4 s7 dd iE=some r→GC Γ ⟨.it,pl f179 [1,1,0,1,0,0],[(0,.own 1 none false),(2,.c (.int .i64 a2)),(3,.c (.int .i64 a3)),(11,.c (.int .i64 dd)),(13,.c (.int .i64 a4)),(14,.c (.int .i64 iE))],[⟨1,false,3,0,.N .i64 s7⟩],16⟩)
 | 0=>(fun _ _ _ _ _ _ h=>nomatch h)
 | k+1=>(fun a2 a3 a4 s7 dd iE h=>by unfold gJ.l0 at h;exact (kn h (fun h=>nd h fun h=>kn h (fun h=>la ((gJ.ls Γ k) _ _ _ _ _ _ h)) fun h=>la ((gJ.ls Γ k) _ _ _ _ _ _ h)) fun h=>rt h func179))
theorem gJ.ac {k:Nat} {a0:List Int} {a1:Int} {a2:Int} {a3:Int} {a4:Int} {r:(List Int)} (h:gJ.f k a0 a1 a2 a3 a4=some r):dU 179 1 [.own 0 none false,.c (.int .i64 a1),.c (.int .i64 a2),.c (.int .i64 a3),.c (.int .i64 a4)] [⟨0,false,3,0,.N .i64 a0⟩] (gJ.rv r) (gJ.H r):=
 dV func179 fun Γ=>by unfold gJ.f at h;exact (la ((gJ.ls Γ k) _ _ _ _ _ _ h))
def j9.rv (r:(List Int)×(List Int)):AV:= .tup (bE [.own 0 none false,.own 1 none false])
def j9.H (r:(List Int)×(List Int)):List HE:=[⟨0,false,3,0,.N .i64 r.1⟩,⟨1,false,3,0,.N .i64 r.2⟩]
theorem j9.ac {k:Nat} {r:(List Int)×(List Int)} (h:j9.f k=some r):dU 135 0 [] [] (j9.rv r) (j9.H r):=
 dV func135 fun Γ=>by unfold j9.f at h;exact (bd h fun _ e h=>G.ca (gJ.ac e)<|bd h fun _ e h=>G.ca (gJ.ac e)<|nd h fun h=>nd h fun h=>lt h fun h=>rt h func135)
def aX.rv (r:(List Int)):AV:= .own 0 none false
def aX.H (r:(List Int)):List HE:=[⟨0,false,3,0,.N .i64 r⟩]
theorem aX.ac {k:Nat} {a0:List Int} {r:(List Int)} (h:aX.f k a0=some r):dU 136 0 [.row (.N .i64 a0) false] [] (aX.rv r) (aX.H r):=
 dV func136 fun Γ=>by unfold aX.f at h;exact (nq (m:=a0.length) (fun e=>by have e:=List.eq_nil_of_length_eq_zero e;subst e;exact rt (v:=[]) h func136)<|nd h fun h=>rt h func136)
def iY.rv (r:Int):AV:= .c (.int .i64 r)
def iY.H (r:Int):List HE:=[]
theorem iY.ac {k:Nat} {a0:List Int} {a1:Int} {r:Int} (h:iY.f k a0 a1=some r):dU 180 0 [.row (.N .u8 a0) false,.c (.int .i64 a1)] [] (iY.rv r) (iY.H r):=
 dV func180 fun Γ=>by unfold iY.f at h;exact (kn h (fun h=>kq (v:=true)<|rt h func180) fun h=>lt h fun h=>kn h (fun h=>rt h func180) fun h=>nd h fun h=>nd h fun h=>nd h fun h=>lt h fun h=>rt h func180)
def cJ.rv (r:(List Int)×Bool):AV:= .tup (bE [.own 0 none true,.c (.bool r.2)])
def cJ.H (r:(List Int)×Bool):List HE:=[⟨0,false,5,0,.N .u8 r.1⟩]
theorem cJ.ls {r:(List Int)×Bool} (Γ:Cr prog gl 137 55 0 (cJ.rv r) (cJ.H r)): ∀k:Nat,(∀(a0:List Int) (a1:List Int) (cX:List Int) (gL:Int),cJ.l0 k a0 a1 cX gL=some r→GC Γ ⟨.it,pl f137 [1,1,0,1,0,0],[(0,.row (.N .u8 a0) false),(1,.row (.N .i64 a1) false),(6,.own 0 none true),(15,.c (.int .i64 (a1.length:Int))),(16,.c (.int .i64 gL))],[⟨0,false,5,0,.N .u8 cX⟩],16⟩)
 | 0=>(fun _ _ _ _ h=>nomatch h)
 | k+1=>(fun a0 a1 cX gL h=>by unfold cJ.l0 at h;exact (kn h (fun h=>nd h fun h=>nd h fun h=>kn h (fun h=>kq (v:=true)<|rt h func137) fun h=>nd h fun h=>nd h fun h=>lt h fun h=>kn h (fun h=>rt h func137) fun h=>G.dr<|bv h fun h=>bv h fun h=>bv h fun h=>bv h fun h=>bd h fun _ e h=>D.ca (iY.ac e)<|bv h fun h=>lt h fun h=>bv h fun h=>bv h fun h=>D.fi<|la ((cJ.ls Γ k) _ _ _ _ h)) fun h=>rt h func137))
theorem cJ.ac {k:Nat} {a0:List Int} {a1:List Int} {r:(List Int)×Bool} (h:cJ.f k a0 a1=some r):dU 137 0 [.row (.N .u8 a0) false,.row (.N .i64 a1) false] [] (cJ.rv r) (cJ.H r):=
 dV func137 fun Γ=>by unfold cJ.f at h;exact (nd h fun h=>nd h fun h=>lt h fun h=>la ((cJ.ls Γ k) _ _ _ _ h))
def d9.rv (r:(List (List Int))×Int):AV:= .tup (bE [.own 0 none false,.c (.int .i64 r.2)])
def d9.H (r:(List (List Int))×Int):List HE:=[⟨0,false,22,0,.R .u8 r.1⟩]
theorem d9.ls {r:(List (List Int))×Int} (Γ:Cr prog gl 90 85 0 (d9.rv r) (d9.H r)): ∀k:Nat,(∀(a0:List Int) (eU:(List Int)×(List Int)) (aP:List Int) (cX:List (List Int)) (mo:Int),d9.l0 k a0 eU aP cX mo=some r→GC Γ ⟨.it,pl f90 [1,1,1,1,0,1,0,0],[(0,.row (.N .u8 a0) false),(4,.row (.N .i64 aP) false),(5,.own 0 none false),(6,.own 1 none false),(24,.c (.int .i64 mo))],[⟨0,false,3,0,.N .i64 eU.2⟩,⟨1,false,22,0,.R .u8 cX⟩],16⟩)∧(∀(a0:List Int) (eU:(List Int)×(List Int)) (mo:Int) (cX:List (List Int)) (lP:List Int) (qW:List Int) (py:Int),d9.l1 k a0 eU mo cX lP qW py=some r→GC Γ ⟨.it,pl f90 [1,1,1,1,0,1,0,0,1,1,0,0,1,1,1,1,1,1,0,1,0,0],[(0,.row (.N .u8 a0) false),(4,.row (.N .i64 lP) false),(5,.own 0 none false),(6,.own 1 none false),(11,.own 2 none false),(24,.c (.int .i64 mo)),(58,.own 0 none false),(59,.c (.int .i64 (eU.2.length:Int))),(60,.c (.int .i64 py))],[⟨0,false,3,0,.N .i64 eU.2⟩,⟨1,false,22,0,.R .u8 cX⟩,⟨2,false,3,0,.N .i64 qW⟩],16⟩)
 | 0=>⟨(fun _ _ _ _ _ h=>nomatch h),(fun _ _ _ _ _ _ _ h=>nomatch h)⟩
 | k+1=>⟨(fun a0 eU aP cX mo h=>by unfold d9.l0 at h;exact (kn h (fun h=>kn h (fun h=>kq (v:=true)<|kq (v:=true)<|G.dr<|bv h fun h=>bd h fun _ e h=>D.ca (aX.ac e)<|bv h fun h=>bd h fun _ e h=>D.ca (aX.ac e)<|D.fi<|G.dr<|bv h fun h=>bv h fun h=>bv h fun h=>bv h fun h=>bv h fun h=>bv h fun h=>bv h fun h=>bv h fun h=>bv h fun h=>bv h fun h=>bv h fun h=>D.fi<|la ((d9.ls Γ k).2 _ _ _ _ _ _ _ h)) fun h=>kn h (fun h=>kq (v:=true)<|G.dr<|bv h fun h=>bd h fun _ e h=>D.ca (aX.ac e)<|bv h fun h=>bd h fun _ e h=>D.ca (aX.ac e)<|D.fi<|G.dr<|bv h fun h=>bv h fun h=>bv h fun h=>bv h fun h=>bv h fun h=>bv h fun h=>bv h fun h=>bv h fun h=>bv h fun h=>bv h fun h=>bv h fun h=>D.fi<|la ((d9.ls Γ k).2 _ _ _ _ _ _ _ h)) fun h=>kn h (fun h=>G.dr<|bv h fun h=>bd h fun _ e h=>D.ca (aX.ac e)<|bv h fun h=>bd h fun _ e h=>D.ca (aX.ac e)<|D.fi<|G.dr<|bv h fun h=>bv h fun h=>bv h fun h=>bv h fun h=>bv h fun h=>bv h fun h=>bv h fun h=>bv h fun h=>bv h fun h=>bv h fun h=>bv h fun h=>D.fi<|la ((d9.ls Γ k).2 _ _ _ _ _ _ _ h)) fun h=>G.dr<|bv h fun h=>bd h fun _ e h=>D.ca (aX.ac e)<|bv h fun h=>bd h fun _ e h=>D.ca (aX.ac e)<|D.fi<|G.dr<|bv h fun h=>bv h fun h=>bv h fun h=>bv h fun h=>bv h fun h=>bv h fun h=>bv h fun h=>bv h fun h=>bv h fun h=>bv h fun h=>bv h fun h=>D.fi<|la ((d9.ls Γ k).2 _ _ _ _ _ _ _ h)) fun h=>rt h func90)),(fun a0 eU mo cX lP qW py h=>by unfold d9.l1 at h;exact (kn h (fun h=>nd h fun h=>nd h fun h=>nd h fun h=>nd h fun h=>nd h fun h=>lt h fun h=>la ((d9.ls Γ k).2 _ _ _ _ _ _ _ h)) fun h=>bd h fun _ e h=>G.cl (cJ.ac e)<|nd h fun h=>la ((d9.ls Γ k).1 _ _ _ _ _ h)))⟩
theorem d9.ac {k:Nat} {a0:List Int} {r:(List (List Int))×Int} (h:d9.f k a0=some r):dU 90 0 [.row (.N .u8 a0) false] [] (d9.rv r) (d9.H r):=
 dV func90 fun Γ=>by unfold d9.f at h;exact (kn h (fun h=>rt h func90) fun h=>bd h fun _ e h=>G.ca (j9.ac e)<|la ((d9.ls Γ k).1 _ _ _ _ _ h))
def gP.rv (r:(Option ((List (List (List Int)))))×Int):AV:= .tup (bE [oA r.1 fun x=> .obj (bE [.row (.T .u8 x) false]) none 1,.c (.int .i64 r.2)])
def gP.H (r:(Option ((List (List (List Int)))))×Int):List HE:=[]
theorem gP.ls {r:(Option ((List (List (List Int)))))×Int} (Γ:Cr prog gl 58 70 0 (gP.rv r) (gP.H r)): ∀k:Nat,(∀(a0:List Int) (x5h_0h_0:List (List (List Int))) (pz:Int),gP.l0 k a0 x5h_0h_0 pz=some r→GC Γ ⟨.it,pl f58 [1,1,1,1,0,1,0,0],[(0,.row (.N .u8 a0) false),(4,.c (.int .i64 (ak (Int.tdiv (a0.length:Int) 8)))),(5,.ptr 0 none 1),(26,.c (.int .i64 (ak (Int.tdiv (a0.length:Int) 8)))),(27,.c (.int .i64 pz))],[⟨0,false,131,1,bE [.own 1 none false]⟩,⟨1,false,40,0,.T .u8 x5h_0h_0⟩],16⟩)
 | 0=>(fun _ _ _ h=>nomatch h)
 | k+1=>(fun a0 x5h_0h_0 pz h=>by unfold gP.l0 at h;exact (kn h (fun h=>nd h fun h=>nd h fun h=>nd h fun h=>bd h fun _ e h=>G.ca (d9.ac e)<|nd h fun h=>la ((gP.ls Γ k) _ _ _ h)) fun h=>kn h (fun h=>G.dr<|bv h fun h=>bv h fun h=>D.fi<|rt h func58) fun h=>rt h func58))
theorem gP.ac {k:Nat} {a0:List Int} {r:(Option ((List (List (List Int)))))×Int} (h:gP.f k a0=some r):dU 58 0 [.row (.N .u8 a0) false] [] (gP.rv r) (gP.H r):=
 dV func58 fun Γ=>by unfold gP.f at h;exact (kn h (fun h=>kq (v:=true)<|kq (v:=true)<|rt h func58) fun h=>kn h (fun h=>kq (v:=true)<|rt h func58) fun h=>kn h (fun h=>rt h func58) fun h=>la ((gP.ls Γ k) _ _ _ h))
def i7.rv (r:Int):AV:= .c (.int .i64 r)
def i7.H (r:Int):List HE:=[]
theorem i7.ac {k:Nat} {a0:Int} {a1:Int} {r:Int} (h:i7.f k a0 a1=some r):dU 152 0 [.c (.int .i64 a0),.c (.int .i64 a1)] [] (i7.rv r) (i7.H r):=
 dV func152 fun Γ=>by unfold i7.f at h;exact (nb h fun h=>nb h fun h=>rt h func152)
def ew.rv (r:(List Int)):AV:= .own 0 none true
def ew.H (r:(List Int)):List HE:=[⟨0,false,5,0,.N .u8 r⟩]
theorem ew.ls {r:(List Int)} (Γ:Cr prog gl 141 62 0 (ew.rv r) (ew.H r)): ∀k:Nat,(∀(a0:List Int) (jn:Int) (y22_2:Int) (cN:List Int) (qd:Int),ew.l0 k a0 jn y22_2 cN qd=some r→GC Γ ⟨.it,pl f141 [1,1,1,1,0,1,0,0],[(0,.row (.N .u8 a0) false),(1,.c (.int .i64 jn)),(5,.own 0 none true),(22,.c (.int .i64 y22_2)),(23,.c (.int .i64 qd))],[⟨0,false,5,0,.N .u8 cN⟩],16⟩)
 | 0=>(fun _ _ _ _ _ h=>nomatch h)
 | k+1=>(fun a0 jn y22_2 cN qd h=>by unfold ew.l0 at h;exact (kn h (fun h=>G.dr<|Oh h fun h=>lt h fun h=>bv h fun h=>bv h fun h=>Oh h fun h=>lt h fun h=>bv h fun h=>bv h fun h=>D.fi<|lt h fun h=>nd h fun h=>nd h fun h=>nd h fun h=>la ((ew.ls Γ k) _ _ _ _ _ h)) fun h=>rt h func141))
theorem ew.ac {k:Nat} {a0:List Int} {a1:Int} {r:(List Int)} (h:ew.f k a0 a1=some r):dU 141 0 [.row (.N .u8 a0) false,.c (.int .i64 a1)] [] (ew.rv r) (ew.H r):=
 dV func141 fun Γ=>by unfold ew.f at h;exact (kn h (fun h=>rt h func141) fun h=>bd h fun _ e h=>G.ca (i7.ac e)<|nd h fun h=>nd h fun h=>lt h fun h=>la ((ew.ls Γ k) _ _ _ _ _ h))
def fy.rv (r:(List Int)):AV:= .own 0 none false
def fy.H (r:(List Int)):List HE:=[⟨0,false,3,0,.N .i64 r⟩]
theorem fy.ls {r:(List Int)} (Γ:Cr prog gl 97 29 0 (fy.rv r) (fy.H r)): ∀k:Nat,(∀(a0:List Int) (cF:List Int) (aP:Int),fy.l0 k a0 cF aP=some r→GC Γ ⟨.it,pl f97 [1,1,0,1,0,0],[(0,.row (.N .u8 a0) false),(3,.own 0 none false),(4,.c (.int .i64 aP))],[⟨0,false,3,0,.N .i64 cF⟩],16⟩)
 | 0=>(fun _ _ _ h=>nomatch h)
 | k+1=>(fun a0 cF aP h=>by unfold fy.l0 at h;exact (kn h (fun h=>G.dr<|bv h fun h=>bv h fun h=>bv h fun h=>bv h fun h=>lt h fun h=>bv h fun h=>D.fi<|la ((fy.ls Γ k) _ _ _ h)) fun h=>rt h func97))
theorem fy.ac {k:Nat} {a0:List Int} {r:(List Int)} (h:fy.f k a0=some r):dU 97 0 [.row (.N .u8 a0) false] [] (fy.rv r) (fy.H r):=
 dV func97 fun Γ=>by unfold fy.f at h;exact (la ((fy.ls Γ k) _ _ _ h))
def gf.rv (r:(List Int)×Int):AV:= .tup (bE [.own 0 none false,.c (.int .i64 r.2)])
def gf.H (r:(List Int)×Int):List HE:=[⟨0,false,3,0,.N .i64 r.1⟩]
theorem gf.ls {r:(List Int)×Int} (Γ:Cr prog gl 94 23 0 (gf.rv r) (gf.H r)): ∀k:Nat,(∀(a0:List Int) (dE:List Int) (cq:Int),gf.l0 k a0 dE cq=some r→GC Γ ⟨.it,pl f94 [1,1,1,0,1,0,0],[(0,.row (.N .u8 a0) false),(4,.own 0 none false),(5,.c (.int .i64 cq))],[⟨0,false,3,0,.N .i64 dE⟩],16⟩)
 | 0=>(fun _ _ _ h=>nomatch h)
 | k+1=>(fun a0 dE cq h=>by unfold gf.l0 at h;exact (kn h (fun h=>bd h fun _ e h=>G.ca (ew.ac e)<|bd h fun _ e h=>G.cl (fy.ac e)<|nd h fun h=>la ((gf.ls Γ k) _ _ _ h)) fun h=>nd h fun h=>bd h fun _ e h=>G.cl (aX.ac e)<|rt h func94))
theorem gf.ac {k:Nat} {a0:List Int} {r:(List Int)×Int} (h:gf.f k a0=some r):dU 94 0 [.row (.N .u8 a0) false] [] (gf.rv r) (gf.H r):=
 dV func94 fun Γ=>by unfold gf.f at h;exact (kn h (fun h=>rt h func94) fun h=>la ((gf.ls Γ k) _ _ _ h))
def kh.rv (r:Int):AV:= .c (.int .i64 r)
def kh.H (r:Int):List HE:=[]
theorem kh.ac {k:Nat} {a0:Int} {r:Int} (h:kh.f k a0=some r):dU 142 0 [.c (.int .i64 a0)] [] (kh.rv r) (kh.H r):=
 dV func142 fun Γ=>by unfold kh.f at h;exact (rt h func142)
def gX.rv (r:Int):AV:= .c (.int .i64 r)
def gX.H (r:Int):List HE:=[]
theorem gX.ac {k:Nat} {a0:Int} {a1:Int} {r:Int} (h:gX.f k a0 a1=some r):dU 144 0 [.c (.int .i64 a0),.c (.int .i64 a1)] [] (gX.rv r) (gX.H r):=
 dV func144 fun Γ=>by unfold gX.f at h;exact (kn h (fun h=>kn h (fun h=>rt h func144) fun h=>rt h func144) fun h=>kn h (fun h=>rt h func144) fun h=>rt h func144)
def ec.rv (r:Int):AV:= .c (.int .i64 r)
def ec.H (r:Int):List HE:=[]
theorem ec.ls {r:Int} (Γ:Cr prog gl 143 19 0 (ec.rv r) (ec.H r)): ∀k:Nat,(∀(gI:Int) (eY:Int) (aP:Int),ec.l0 k gI eY aP=some r→GC Γ ⟨.it,pl f143 [1,0,1,1],[(0,.c (.int .i64 gI)),(3,.c (.int .i64 eY)),(4,.c (.int .i64 aP))],[],16⟩)
 | 0=>(fun _ _ _ h=>nomatch h)
 | k+1=>(fun gI eY aP h=>by unfold ec.l0 at h;exact (kn h (fun h=>kn h (fun h=>bd h fun _ e h=>G.ca (gX.ac e)<|bd h fun _ e h=>G.ca (gX.ac e)<|la ((ec.ls Γ k) _ _ _ h)) fun h=>bd h fun _ e h=>G.ca (gX.ac e)<|la ((ec.ls Γ k) _ _ _ h)) fun h=>rt h func143))
theorem ec.ac {k:Nat} {a0:Int} {r:Int} (h:ec.f k a0=some r):dU 143 0 [.c (.int .i64 a0)] [] (ec.rv r) (ec.H r):=
 dV func143 fun Γ=>by unfold ec.f at h;exact (la ((ec.ls Γ k) _ _ _ h))
def cP.rv (r:(List Int)):AV:= .own 0 none false
def cP.H (r:(List Int)):List HE:=[⟨0,false,3,0,.N .i64 r⟩]
theorem cP.ls {r:(List Int)} (Γ:Cr prog gl 95 60 0 (cP.rv r) (cP.H r)): ∀k:Nat,(∀(a0:List Int) (cF:List Int) (aP:Int),cP.l0 k a0 cF aP=some r→GC Γ ⟨.it,pl f95 [1,1,0,1,0,0],[(0,.row (.N .i64 a0) false),(3,.own 0 none false),(4,.c (.int .i64 aP))],[⟨0,false,3,0,.N .i64 cF⟩],16⟩)
 | 0=>(fun _ _ _ h=>nomatch h)
 | k+1=>(fun a0 cF aP h=>by unfold cP.l0 at h;exact (kn h (fun h=>nd h fun h=>nd h fun h=>nd h fun h=>G.dr<|bv h fun h=>lt h fun h=>bd h fun _ e h=>D.ca (kh.ac e)<|bv h fun h=>lt h fun h=>bd h fun _ e h=>D.ca (kh.ac e)<|D.fi<|kn h (fun h=>kn h (fun h=>G.dr<|bv h fun h=>lt h fun h=>bd h fun _ e h=>D.ca (ec.ac e)<|bv h fun h=>lt h fun h=>bd h fun _ e h=>D.ca (ec.ac e)<|bv h fun h=>D.fi<|kn h (fun h=>nd h fun h=>nd h fun h=>nd h fun h=>nd h fun h=>la ((cP.ls Γ k) _ _ _ h)) fun h=>la ((cP.ls Γ k) _ _ _ h)) fun h=>G.dr<|bv h fun h=>lt h fun h=>bd h fun _ e h=>D.ca (ec.ac e)<|bv h fun h=>lt h fun h=>bd h fun _ e h=>D.ca (ec.ac e)<|bv h fun h=>D.fi<|kn h (fun h=>nd h fun h=>nd h fun h=>nd h fun h=>nd h fun h=>la ((cP.ls Γ k) _ _ _ h)) fun h=>la ((cP.ls Γ k) _ _ _ h)) fun h=>kq (v:=false)<|G.dr<|bv h fun h=>lt h fun h=>bd h fun _ e h=>D.ca (ec.ac e)<|bv h fun h=>lt h fun h=>bd h fun _ e h=>D.ca (ec.ac e)<|bv h fun h=>D.fi<|kn h (fun h=>nd h fun h=>nd h fun h=>nd h fun h=>nd h fun h=>la ((cP.ls Γ k) _ _ _ h)) fun h=>la ((cP.ls Γ k) _ _ _ h)) fun h=>rt h func95))
theorem cP.ac {k:Nat} {a0:List Int} {r:(List Int)} (h:cP.f k a0=some r):dU 95 0 [.row (.N .i64 a0) false] [] (cP.rv r) (cP.H r):=
 dV func95 fun Γ=>by unfold cP.f at h;exact (la ((cP.ls Γ k) _ _ _ h))
def ki.rv (r:(Option ((List Int)×(List Int)))×Int):AV:= .tup (bE [oA r.1 fun x=> .obj (bE [.row (.N .i64 x.1) false,.row (.N .i64 x.2) false]) none 2,.c (.int .i64 r.2)])
def ki.H (r:(Option ((List Int)×(List Int)))×Int):List HE:=[]
theorem ki.ac {k:Nat} {a0:List Int} {r:(Option ((List Int)×(List Int)))×Int} (h:ki.f k a0=some r):dU 60 0 [.row (.N .u8 a0) false] [] (ki.rv r) (ki.H r):=
 dV func60 fun Γ=>by unfold ki.f at h;exact (bd h fun _ e h=>G.ca (gf.ac e)<|kn h (fun h=>rt h func60) fun h=>bd h fun _ e h=>G.cl (cP.ac e)<|rt h func60)
def dQ.rv (r:(List Int)):AV:= .own 0 none false
def dQ.H (r:(List Int)):List HE:=[⟨0,false,5,0,.N .u8 r⟩]
theorem dQ.ls {r:(List Int)} (Γ:Cr prog gl 151 23 0 (dQ.rv r) (dQ.H r)): ∀k:Nat,(∀(a0:List Int) (cF:List Int) (aP:Int),dQ.l0 k a0 cF aP=some r→GC Γ ⟨.it,pl f151 [1,1,0,1,0,0],[(0,.row (.N .u8 a0) false),(3,.own 0 none false),(4,.c (.int .i64 aP))],[⟨0,false,5,0,.N .u8 cF⟩],16⟩)
 | 0=>(fun _ _ _ h=>nomatch h)
 | k+1=>(fun a0 cF aP h=>by unfold dQ.l0 at h;exact (kn h (fun h=>nd h fun h=>nd h fun h=>nd h fun h=>la ((dQ.ls Γ k) _ _ _ h)) fun h=>rt h func151))
theorem dQ.ac {k:Nat} {a0:List Int} {r:(List Int)} (h:dQ.f k a0=some r):dU 151 0 [.row (.N .u8 a0) false] [] (dQ.rv r) (dQ.H r):=
 dV func151 fun Γ=>by unfold dQ.f at h;exact (nd h fun h=>nd h fun h=>la ((dQ.ls Γ k) _ _ _ h))
def ez.rv (r:Int):AV:= .c (.int .u64 r)
def ez.H (r:Int):List HE:=[]
theorem ez.ls {r:Int} (Γ:Cr prog gl 189 20 0 (ez.rv r) (ez.H r)): ∀k:Nat,(∀(a0:List Int) (eY:Int) (aP:Int),ez.l0 k a0 eY aP=some r→GC Γ ⟨.it,pl f189 [1,0,1,1],[(0,.row (.N .u8 a0) false),(3,.c (.int .u64 eY)),(4,.c (.int .i64 aP))],[],16⟩)
 | 0=>(fun _ _ _ h=>nomatch h)
 | k+1=>(fun a0 eY aP h=>by unfold ez.l0 at h;exact (kn h (fun h=>nd h fun h=>nd h fun h=>la ((ez.ls Γ k) _ _ _ h)) fun h=>rt h func189))
theorem ez.ac {k:Nat} {a0:List Int} {r:Int} (h:ez.f k a0=some r):dU 189 0 [.row (.N .u8 a0) false] [] (ez.rv r) (ez.H r):=
 dV func189 fun Γ=>by unfold ez.f at h;exact (la ((ez.ls Γ k) _ _ _ h))
def iw.rv (r:Int×Bool):AV:= .tup (bE [.c (.int .u32 r.1),.c (.bool r.2)])
def iw.H (r:Int×Bool):List HE:=[]
theorem iw.ac {k:Nat} {a0:List Int} {r:Int×Bool} (h:iw.f k a0=some r):dU 150 0 [.row (.N .u8 a0) false] [] (iw.rv r) (iw.H r):=
 dV func150 fun Γ=>by unfold iw.f at h;exact (kn h (fun h=>rt h func150) fun h=>bd h fun _ e h=>G.ca (ez.ac e)<|rt h func150)
def fj.rv (r:Int×Bool):AV:= .tup (bE [.c (.int .u32 r.1),.c (.bool r.2)])
def fj.H (r:Int×Bool):List HE:=[]
theorem fj.ac {k:Nat} {a0:List Int} {r:Int×Bool} (h:fj.f k a0=some r):dU 99 0 [.row (.N .u8 a0) false] [] (fj.rv r) (fj.H r):=
 dV func99 fun Γ=>by unfold fj.f at h;exact (bd h fun _ e h=>G.ca (dQ.ac e)<|bd h fun _ e h=>G.cl (iw.ac e)<|rt h func99)
def dy.rv (r:Int):AV:= .c (.int .u8 r)
def dy.H (r:Int):List HE:=[]
theorem dy.ls {r:Int} (Γ:Cr prog gl 185 35 0 (dy.rv r) (dy.H r)): ∀k:Nat,(∀(a2:Int) (cB:Int) (aZ:Int) (dP:Int),dy.l0 k a2 cB aZ dP=some r→GC Γ ⟨.it,pl f185 [1,0,1,1],[(2,.c (.int .i64 a2)),(7,.c (.int .i64 cB)),(8,.c (.int .i64 aZ)),(9,.c (.int .i64 dP))],[],16⟩)
 | 0=>(fun _ _ _ _ h=>nomatch h)
 | k+1=>(fun a2 cB aZ dP h=>by unfold dy.l0 at h;exact (kn h (fun h=>rt h func185) fun h=>kn h (fun h=>kn h (fun h=>la ((dy.ls Γ k) _ _ _ _ h)) fun h=>la ((dy.ls Γ k) _ _ _ _ h)) fun h=>kn h (fun h=>la ((dy.ls Γ k) _ _ _ _ h)) fun h=>la ((dy.ls Γ k) _ _ _ _ h)))
theorem dy.ac {k:Nat} {a0:Int} {a1:Int} {a2:Int} {r:Int} (h:dy.f k a0 a1 a2=some r):dU 185 0 [.c (.int .u8 a0),.c (.int .u8 a1),.c (.int .i64 a2)] [] (dy.rv r) (dy.H r):=
 dV func185 fun Γ=>by unfold dy.f at h;exact (la ((dy.ls Γ k) _ _ _ _ h))
def ba.rv (r:Int):AV:= .c (.int .u32 r)
def ba.H (r:Int):List HE:=[]
theorem ba.ls {r:Int} (Γ:Cr prog gl 146 47 0 (ba.rv r) (ba.H r)): ∀k:Nat,(∀(a0:List Int) (cF:List Int) (gU:List (List Int)) (gL:Int),ba.l0 k a0 cF gU gL=some r→GC Γ ⟨.it,pl f146 [1,1,0,1,0,0],[(0,.row (.N .u8 a0) false),(3,.own 0 none true),(15,.agg (.R .u8 gU) 4),(16,.c (.int .i64 gL))],[⟨0,false,5,0,.N .u8 cF⟩],16⟩)∧(∀(a0:List Int) (gU:List (List Int)) (gL:Int) (iF:List Int) (pC:Int),ba.l1 k a0 gU gL iF pC=some r→GC Γ ⟨.it,pl f146 [1,1,0,1,0,0,1,1,0,0,1,1,0,0],[(0,.row (.N .u8 a0) false),(3,.own 0 none true),(4,.c (.int .i64 gL)),(15,.agg (.R .u8 gU) 4),(16,.c (.int .i64 gL)),(20,.row (.N .u8 (rr gU gL)) false),(21,.c (.int .i64 ((rr gU gL).length:Int))),(22,.c (.int .i64 pC))],[⟨0,false,5,0,.N .u8 iF⟩],16⟩)
 | 0=>⟨(fun _ _ _ _ h=>nomatch h),(fun _ _ _ _ _ h=>nomatch h)⟩
 | k+1=>⟨(fun a0 cF gU gL h=>by unfold ba.l0 at h;exact (kn h (fun h=>nd h fun h=>nd h fun h=>la ((ba.ls Γ k).2 _ _ _ _ _ h)) fun h=>bd h fun _ e h=>G.cl (fj.ac e)<|rt h func146)),(fun a0 gU gL iF pC h=>by unfold ba.l1 at h;exact (kn h (fun h=>nd h fun h=>nd h fun h=>G.dr<|bv h fun h=>bv h fun h=>bv h fun h=>bv h fun h=>bd h fun _ e h=>D.ca (dy.ac e)<|bv h fun h=>bv h fun h=>D.fi<|la ((ba.ls Γ k).2 _ _ _ _ _ h)) fun h=>la ((ba.ls Γ k).1 _ _ _ _ h)))⟩
theorem ba.ac {k:Nat} {a0:List Int} {r:Int} (h:ba.f k a0=some r):dU 146 0 [.row (.N .u8 a0) false] [] (ba.rv r) (ba.H r):=
 dV func146 fun Γ=>by unfold ba.f at h;exact (la ((ba.ls Γ k).1 _ _ _ _ h))
def aw.rv (r:(List Int)):AV:= .tup (.nil)
def aw.H (r:(List Int)):List HE:=[⟨0,false,150,0,.N .u32 r⟩]
theorem aw.ls {r:(List Int)} (Γ:Cr prog gl 147 28 1 (aw.rv r) (aw.H r)): ∀k:Nat,(∀(dH:Int) (eY:Int) (h0_0:List Int),aw.l0 k dH eY h0_0=some r→GC Γ ⟨.it,pl f147 [1,0,0],[(0,.own 0 none false),(2,.c (.int .i64 dH)),(3,.c (.int .i64 eY))],[⟨0,false,150,0,.N .u32 h0_0⟩],16⟩)
 | 0=>(fun _ _ _ h=>nomatch h)
 | k+1=>(fun dH eY h0_0 h=>by unfold aw.l0 at h;exact (kn h (fun h=>G.dr<|bv h fun h=>bv h fun h=>bv h fun h=>bv h fun h=>bv h fun h=>bv h fun h=>bv h fun h=>bv h fun h=>D.fi<|la ((aw.ls Γ k) _ _ _ h)) fun h=>rt h func147))
theorem aw.ac {k:Nat} {a0:List Int} {r:(List Int)} (h:aw.f k a0=some r):dU 147 1 [.own 0 none false] [⟨0,false,150,0,.N .u32 a0⟩] (aw.rv r) (aw.H r):=
 dV func147 fun Γ=>by unfold aw.f at h;exact (la ((aw.ls Γ k) _ _ _ h))
def dW.rv (r:(List Int)):AV:= .own 0 none true
def dW.H (r:(List Int)):List HE:=[⟨0,false,5,0,.N .u8 r⟩]
theorem dW.ls {r:(List Int)} (Γ:Cr prog gl 190 22 0 (dW.rv r) (dW.H r)): ∀k:Nat,(∀(gI:Int) (cN:List Int) (dh:Int),dW.l0 k gI cN dh=some r→GC Γ ⟨.it,pl f190 [1,0,1,1,1],[(0,.c (.int .u64 gI)),(5,.own 0 none true),(6,.c (.int .i64 dh))],[⟨0,false,5,0,.N .u8 cN⟩],16⟩)
 | 0=>(fun _ _ _ h=>nomatch h)
 | k+1=>(fun gI cN dh h=>by unfold dW.l0 at h;exact (kn h (fun h=>nd h fun h=>nd h fun h=>la ((dW.ls Γ k) _ _ _ h)) fun h=>rt h func190))
theorem dW.ac {k:Nat} {a0:Int} {a1:Int} {r:(List Int)} (h:dW.f k a0 a1=some r):dU 190 0 [.c (.int .u64 a0),.c (.int .i64 a1)] [] (dW.rv r) (dW.H r):=
 dV func190 fun Γ=>by unfold dW.f at h;exact (nd h fun h=>nd h fun h=>la ((dW.ls Γ k) _ _ _ h))
def fX.rv (r:(List Int)):AV:= .own 0 none true
def fX.H (r:(List Int)):List HE:=[⟨0,false,5,0,.N .u8 r⟩]
theorem fX.ac {k:Nat} {a0:Int} {r:(List Int)} (h:fX.f k a0=some r):dU 153 0 [.c (.int .u32 a0)] [] (fX.rv r) (fX.H r):=
 dV func153 fun Γ=>by unfold fX.f at h;exact (bd h fun _ e h=>G.ca (dW.ac e)<|rt h func153)
def dX.rv (r:(List Int)):AV:= .own 0 none false
def dX.H (r:(List Int)):List HE:=[⟨0,false,5,0,.N .u8 r⟩]
theorem dX.ac {k:Nat} {a0:Int} {r:(List Int)} (h:dX.f k a0=some r):dU 103 0 [.c (.int .u32 a0)] [] (dX.rv r) (dX.H r):=
 dV func103 fun Γ=>by unfold dX.f at h;exact (bd h fun _ e h=>G.ca (fX.ac e)<|bd h fun _ e h=>G.cl (dQ.ac e)<|rt h func103)
def iH.rv (r:(List Int)):AV:= .agg (.N .i64 r) 4
def iH.H (r:(List Int)):List HE:=[]
theorem iH.ac {k:Nat} {a0:Int} {r:(List Int)} (h:iH.f k a0=some r):dU 186 0 [.c (.int .i64 a0)] [] (iH.rv r) (iH.H r):=
 dV func186 fun Γ=>by unfold iH.f at h;exact (kn h (fun h=>rt h func186) fun h=>kn h (fun h=>rt h func186) fun h=>kn h (fun h=>rt h func186) fun h=>kn h (fun h=>rt h func186) fun h=>rt h func186)
def jy.rv (r:(List ByteArray)):AV:= .agg (.S r) 4
def jy.H (r:(List ByteArray)):List HE:=[]
theorem jy.ac {k:Nat} {a0:Int} {r:(List ByteArray)} (h:jy.f k a0=some r):dU 214 0 [.c (.int .i64 a0)] [] (jy.rv r) (jy.H r):=
 dV func214 fun Γ=>by unfold jy.f at h;exact (kn h (fun h=>lt h fun h=>rt h func214) fun h=>lt h fun h=>rt h func214)
def iL.rv (r:Int):AV:= .c (.int .u8 r)
def iL.H (r:Int):List HE:=[]
theorem iL.ac {k:Nat} {a0:Int} {r:Int} (h:iL.f k a0=some r):dU 215 0 [.c (.int .u8 a0)] [] (iL.rv r) (iL.H r):=
 dV func215 fun Γ=>by unfold iL.f at h;exact (kn h (fun h=>rt h func215) fun h=>rt h func215)
def gD.rv (r:Int):AV:= .c (.int .u8 r)
def gD.H (r:Int):List HE:=[]
theorem gD.ls {r:Int} (Γ:Cr prog gl 187 53 0 (gD.rv r) (gD.H r)): ∀k:Nat,(∀(hQ:(List ByteArray)) (dh:Int) (cB:Int) (aZ:Int),gD.l0 k hQ dh cB aZ=some r→GC Γ ⟨.it,pl f187 [1,1,1,0,1,0,0],[(5,.ptr 0 none 4),(6,.c (.int .u8 dh)),(7,.c (.int .u8 cB)),(8,.c (.int .i64 aZ))],[⟨0,false,254,4,.S hQ⟩],16⟩)
 | 0=>(fun _ _ _ _ h=>nomatch h)
 | k+1=>(fun hQ dh cB aZ h=>by unfold gD.l0 at h;exact (kn h (fun h=>lt h fun h=>G.dr<|bv h fun h=>bv h fun h=>bv h fun h=>bv h fun h=>bd h fun _ e h=>D.ca (iL.ac e)<|bv h fun h=>bv h fun h=>bv h fun h=>bv h fun h=>lt h fun h=>bd h fun _ e h=>D.ca (iL.ac e)<|D.fi<|la ((gD.ls Γ k) _ _ _ _ h)) fun h=>rt h func187))
theorem gD.ac {k:Nat} {a0:Int} {a1:Int} {r:Int} (h:gD.f k a0 a1=some r):dU 187 0 [.c (.int .i64 a0),.c (.int .u8 a1)] [] (gD.rv r) (gD.H r):=
 dV func187 fun Γ=>by unfold gD.f at h;exact (bd h fun _ e h=>G.ca (jy.ac e)<|la ((gD.ls Γ k) _ _ _ _ h))
def bw.rv (r:(List Int)×Bool):AV:= .tup (bE [.own 0 none true,.c (.bool r.2)])
def bw.H (r:(List Int)×Bool):List HE:=[⟨0,false,5,0,.N .u8 r.1⟩]
theorem bw.ls {r:(List Int)×Bool} (Γ:Cr prog gl 108 35 0 (bw.rv r) (bw.H r)): ∀k:Nat,(∀(a0:List Int) (a1:List Int) (cX:List Int) (jE:Int),bw.l0 k a0 a1 cX jE=some r→GC Γ ⟨.it,pl f108 [1,1,1,0,1,0,0],[(0,.row (.N .u8 a0) false),(1,.row (.N .u8 a1) false),(6,.own 0 none true),(17,.c (.int .i64 (a0.length:Int))),(18,.c (.int .i64 jE))],[⟨0,false,5,0,.N .u8 cX⟩],16⟩)
 | 0=>(fun _ _ _ _ h=>nomatch h)
 | k+1=>(fun a0 a1 cX jE h=>by unfold bw.l0 at h;exact (kn h (fun h=>G.dr<|bv h fun h=>bv h fun h=>bv h fun h=>bv h fun h=>bv h fun h=>bv h fun h=>D.fi<|la ((bw.ls Γ k) _ _ _ _ h)) fun h=>rt h func108))
theorem bw.ac {k:Nat} {a0:List Int} {a1:List Int} {r:(List Int)×Bool} (h:bw.f k a0 a1=some r):dU 108 0 [.row (.N .u8 a0) false,.row (.N .u8 a1) false] [] (bw.rv r) (bw.H r):=
 dV func108 fun Γ=>by unfold bw.f at h;exact (kn h (fun h=>rt h func108) fun h=>nd h fun h=>nd h fun h=>la ((bw.ls Γ k) _ _ _ _ h))
def jT.rv (r:(List Int)):AV:= .agg (.N .u8 r) 16
def jT.H (r:(List Int)):List HE:=[]
theorem jT.ac {k:Nat} {r:(List Int)} (h:jT.f k=some r):dU 188 0 [] [] (jT.rv r) (jT.H r):=
 dV func188 fun Γ=>by unfold jT.f at h;exact (rt h func188)
def aY.rv (r:Int):AV:= .c (.int .u32 r)
def aY.H (r:Int):List HE:=[]
theorem aY.ls {r:Int} (Γ:Cr prog gl 148 82 0 (aY.rv r) (aY.H r)): ∀k:Nat,(∀(a1:List Int) (cN:List Int) (dh:Int),aY.l0 k a1 cN dh=some r→GC Γ ⟨.it,pl f148 [1,0,1,1,1],[(1,.row (.N .u32 a1) false),(5,.own 0 none false),(6,.c (.int .i64 dh))],[⟨0,false,5,0,.N .u8 cN⟩],16⟩)∧(∀(a1:List Int) (dh:Int) (jS:(List Int)) (kL:List Int) (nJ:Int),aY.l1 k a1 dh jS kL nJ=some r→GC Γ ⟨.it,pl f148 [1,0,1,1,1,0,1,0,0],[(1,.row (.N .u32 a1) false),(5,.own 0 none false),(6,.c (.int .i64 dh)),(22,.agg (.N .i64 jS) 4),(23,.c (.int .i64 nJ))],[⟨0,false,5,0,.N .u8 kL⟩],16⟩)∧(∀(nK:(List Int)) (kL:List Int) (vz:List Int) (kV:Int),aY.l2 k nK kL vz kV=some r→GC Γ ⟨.it,pl f148 [1,0,1,1,1,1,1,1,0,1,0,0],[(5,.own 0 none false),(9,.own 1 none true),(52,.agg (.N .u8 nK) 16),(53,.c (.int .i64 kV))],[⟨0,false,5,0,.N .u8 kL⟩,⟨1,false,5,0,.N .u8 vz⟩],16⟩)∧(∀(nK:(List Int)) (kV:Int) (kL:List Int) (rD:List Int) (vB:List Int) (pE:Int),aY.l3 k nK kV kL rD vB pE=some r→GC Γ ⟨.it,pl f148 [1,0,1,1,1,1,1,1,0,1,0,0,1,1,0,0,1,1,0,0],[(5,.own 0 none false),(9,.own 1 none true),(10,.c (.int .i64 kV)),(52,.agg (.N .u8 nK) 16),(53,.c (.int .i64 kV)),(57,.agg (.N .u8 vB) 4),(58,.c (.int .i64 pE))],[⟨0,false,5,0,.N .u8 kL⟩,⟨1,false,5,0,.N .u8 rD⟩],16⟩)
 | 0=>⟨(fun _ _ _ h=>nomatch h),(fun _ _ _ _ _ h=>nomatch h),(fun _ _ _ _ h=>nomatch h),(fun _ _ _ _ _ _ h=>nomatch h)⟩
 | k+1=>⟨(fun a1 cN dh h=>by unfold aY.l0 at h;exact (bd h fun _ e h=>G.ca (iH.ac e)<|la ((aY.ls Γ k).2.1 _ _ _ _ _ h))),(fun a1 dh jS kL nJ h=>by unfold aY.l1 at h;exact (kn h (fun h=>nd h fun h=>nd h fun h=>nd h fun h=>nd h fun h=>bd h fun _ e h=>G.ca (gD.ac e)<|nd h fun h=>nd h fun h=>la ((aY.ls Γ k).2.1 _ _ _ _ _ h)) fun h=>kn h (fun h=>nd h fun h=>nd h fun h=>bd h fun _ e h=>G.ca (dX.ac e)<|bd h fun _ e h=>G.cl (bw.ac e)<|la ((aY.ls Γ k).1 _ _ _ h)) fun h=>bd h fun _ e h=>G.ca (jT.ac e)<|la ((aY.ls Γ k).2.2.1 _ _ _ _ h))),(fun nK kL vz kV h=>by unfold aY.l2 at h;exact (kn h (fun h=>nd h fun h=>nd h fun h=>la ((aY.ls Γ k).2.2.2 _ _ _ _ _ _ h)) fun h=>bd h fun _ e h=>G.cl (fj.ac e)<|rt h func148)),(fun nK kV kL rD vB pE h=>by unfold aY.l3 at h;exact (kn h (fun h=>nd h fun h=>nd h fun h=>G.dr<|bv h fun h=>bv h fun h=>bv h fun h=>bv h fun h=>bd h fun _ e h=>D.ca (dy.ac e)<|bv h fun h=>bv h fun h=>D.fi<|la ((aY.ls Γ k).2.2.2 _ _ _ _ _ _ h)) fun h=>la ((aY.ls Γ k).2.2.1 _ _ _ _ h)))⟩
theorem aY.ac {k:Nat} {a0:Int} {a1:List Int} {r:Int} (h:aY.f k a0 a1=some r):dU 148 0 [.c (.int .u32 a0),.row (.N .u32 a1) false] [] (aY.rv r) (aY.H r):=
 dV func148 fun Γ=>by unfold aY.f at h;exact (bd h fun _ e h=>G.ca (dX.ac e)<|la ((aY.ls Γ k).1 _ _ _ h))
def bF.rv (r:Int):AV:= .c (.int .u32 r)
def bF.H (r:Int):List HE:=[]
theorem bF.ac {k:Nat} {a0:Int} {a1:Int} {r:Int} (h:bF.f k a0 a1=some r):dU 102 0 [.c (.int .u32 a0),.c (.int .i64 a1)] [] (bF.rv r) (bF.H r):=
 dV func102 fun Γ=>by unfold bF.f at h;exact (bd h fun _ e h=>G.ca (i7.ac e)<|nd h fun h=>nd h fun h=>lt h fun h=>rt h func102)
def bI.rv (r:(List Int)):AV:= .own 0 none false
def bI.H (r:(List Int)):List HE:=[⟨0,false,150,0,.N .u32 r⟩]
theorem bI.ac {k:Nat} {a0:List Int} {r:(List Int)} (h:bI.f k a0=some r):dU 149 0 [.row (.N .u32 a0) false] [] (bI.rv r) (bI.H r):=
 dV func149 fun Γ=>by unfold bI.f at h;exact (nq (m:=a0.length) (fun e=>by have e:=List.eq_nil_of_length_eq_zero e;subst e;exact rt (v:=[]) h func149)<|nd h fun h=>rt h func149)
def bm.rv (r:(List Int)×(List Int)×Int):AV:= .tup (bE [.own 0 none false,.own 1 none false,.c (.int .i64 r.2.2)])
def bm.H (r:(List Int)×(List Int)×Int):List HE:=[⟨0,false,150,0,.N .u32 r.1⟩,⟨1,false,150,0,.N .u32 r.2.1⟩]
theorem bm.ls {r:(List Int)×(List Int)×Int} (Γ:Cr prog gl 98 93 0 (bm.rv r) (bm.H r)): ∀k:Nat,(∀(cF:List Int) (cN:List Int) (cX:List Int) (cB:List Int),bm.l0 k cF cN cX cB=some r→GC Γ ⟨.it,pl f98 [1,0,1,1,0,1,0,0],[(2,.c (.slice none 0 0)),(3,.own 0 none false),(5,.own 1 none false),(6,.own 2 none false),(7,.row (.N .u8 cB) false)],[⟨0,false,150,0,.N .u32 cF⟩,⟨1,false,150,0,.N .u32 cN⟩,⟨2,false,150,0,.N .u32 cX⟩],16⟩)∧(∀(pF:(List Int)) (cN:List Int) (cX:List Int) (uF:List Int) (iZ:Int),bm.l1 k pF cN cX uF iZ=some r→GC Γ ⟨.it,pl f98 [1,0,1,1,1,1,1,1],[(2,.own 0 none false),(3,.own 1 none false),(5,.own 2 none false),(6,.own 3 none false),(12,.c (.int .u32 iZ))],[⟨0,false,150,0,.N .u32 uF⟩,⟨1,false,150,0,.N .u32 pF⟩,⟨2,false,150,0,.N .u32 cN⟩,⟨3,false,150,0,.N .u32 cX⟩],16⟩)
 | 0=>⟨(fun _ _ _ _ h=>nomatch h),(fun _ _ _ _ _ h=>nomatch h)⟩
 | k+1=>⟨(fun cF cN cX cB h=>by unfold bm.l0 at h;exact (kn h (fun h=>nd h fun h=>bd h fun _ e h=>G.ca (fj.ac e)<|nd h fun h=>bd h fun _ e h=>G.ca (fj.ac e)<|G.dr<|bv h fun h=>bv h fun h=>bv h fun h=>bd h fun _ e h=>D.ca (ba.ac e)<|bv h fun h=>D.fi<|nd h fun h=>la ((bm.ls Γ k).1 _ _ _ _ h)) fun h=>bd h fun _ e h=>G.ca (aw.ac e)<|la ((bm.ls Γ k).2 _ _ _ _ _ h))),(fun pF cN cX uF iZ h=>by unfold bm.l1 at h;exact (bd h fun _ e h=>G.cl (aY.ac e)<|bd h fun _ e h=>G.cl (aY.ac e)<|bd h fun _ e h=>G.ca (bF.ac e)<|bd h fun _ e h=>G.ca (bF.ac e)<|nd h fun h=>kn h (fun h=>la ((bm.ls Γ k).2 _ _ _ _ _ h)) fun h=>bd h fun _ e h=>G.cl (bI.ac e)<|bd h fun _ e h=>G.cl (bI.ac e)<|rt h func98))⟩
theorem bm.ac {k:Nat} {a0:List Int} {r:(List Int)×(List Int)×Int} (h:bm.f k a0=some r):dU 98 0 [.row (.N .u8 a0) false] [] (bm.rv r) (bm.H r):=
 dV func98 fun Γ=>by unfold bm.f at h;exact (kn h (fun h=>kn h (fun h=>kn h (fun h=>rt h func98) fun h=>la ((bm.ls Γ k).1 _ _ _ _ h)) fun h=>kq (v:=false)<|la ((bm.ls Γ k).1 _ _ _ _ h)) fun h=>kq (v:=false)<|kq (v:=false)<|la ((bm.ls Γ k).1 _ _ _ _ h))
def iz.rv (r:(Option ((List Int)×(List Int)))×Int):AV:= .tup (bE [oA r.1 fun x=> .obj (bE [.row (.N .u32 x.1) false,.row (.N .u32 x.2) false]) none 2,.c (.int .i64 r.2)])
def iz.H (r:(Option ((List Int)×(List Int)))×Int):List HE:=[]
theorem iz.ac {k:Nat} {a0:List Int} {r:(Option ((List Int)×(List Int)))×Int} (h:iz.f k a0=some r):dU 62 0 [.row (.N .u8 a0) false] [] (iz.rv r) (iz.H r):=
 dV func62 fun Γ=>by unfold iz.f at h;exact (bd h fun _ e h=>G.ca (bm.ac e)<|kn h (fun h=>rt h func62) fun h=>rt h func62)
def kj.rv (r:Bool):AV:= .c (.bool r)
def kj.H (r:Bool):List HE:=[]
theorem kj.ac {k:Nat} {a0:List Int} {r:Bool} (h:kj.f k a0=some r):dU 104 0 [.row (.N .u8 a0) false] [] (kj.rv r) (kj.H r):=
 dV func104 fun Γ=>by unfold kj.f at h;exact (kn h (fun h=>kn h (fun h=>rt h func104) fun h=>rt h func104) fun h=>kq (v:=false)<|rt h func104)
def fE.rv (r:Int):AV:= .c (.int .u8 r)
def fE.H (r:Int):List HE:=[]
theorem fE.ls {r:Int} (Γ:Cr prog gl 192 24 0 (fE.rv r) (fE.H r)): ∀k:Nat,(∀(a2:Int) (gI:Int) (di:Int) (cB:Int),fE.l0 k a2 gI di cB=some r→GC Γ ⟨.it,pl f192 [1,0,1,1],[(0,.c (.int .u8 gI)),(1,.c (.int .i64 di)),(2,.c (.int .i64 a2)),(7,.c (.int .u8 cB))],[],16⟩)
 | 0=>(fun _ _ _ _ h=>nomatch h)
 | k+1=>(fun a2 gI di cB h=>by unfold fE.l0 at h;exact (kn h (fun h=>rt h func192) fun h=>kn h (fun h=>bd h fun _ e h=>G.ca (dy.ac e)<|bd h fun _ e h=>G.ca (dy.ac e)<|la ((fE.ls Γ k) _ _ _ _ h)) fun h=>bd h fun _ e h=>G.ca (dy.ac e)<|la ((fE.ls Γ k) _ _ _ _ h)))
theorem fE.ac {k:Nat} {a0:Int} {a1:Int} {a2:Int} {r:Int} (h:fE.f k a0 a1 a2=some r):dU 192 0 [.c (.int .u8 a0),.c (.int .i64 a1),.c (.int .i64 a2)] [] (fE.rv r) (fE.H r):=
 dV func192 fun Γ=>by unfold fE.f at h;exact (la ((fE.ls Γ k) _ _ _ _ h))
def fM.rv (r:Int):AV:= .c (.int .i64 r)
def fM.H (r:Int):List HE:=[]
theorem fM.ac {k:Nat} {a0:Int} {r:Int} (h:fM.f k a0=some r):dU 216 0 [.c (.int .u8 a0)] [] (fM.rv r) (fM.H r):=
 dV func216 fun Γ=>by unfold fM.f at h;exact (nd h fun h=>nd h fun h=>lt h fun h=>rt h func216)
def fg.rv (r:Int):AV:= .c (.int .u8 r)
def fg.H (r:Int):List HE:=[]
theorem fg.ls {r:Int} (Γ:Cr prog gl 191 27 0 (fg.rv r) (fg.H r)): ∀k:Nat,(∀(a0:Int) (a1:List Int) (dH:Int) (b9:Int),fg.l0 k a0 a1 dH b9=some r→GC Γ ⟨.it,pl f191 [1,0,1,0,0],[(0,.c (.int .u8 a0)),(2,.c (.int .u8 dH)),(9,.agg (.N .u8 a1) 8),(10,.c (.int .i64 b9))],[],16⟩)
 | 0=>(fun _ _ _ _ h=>nomatch h)
 | k+1=>(fun a0 a1 dH b9 h=>by unfold fg.l0 at h;exact (kn h (fun h=>nd h fun h=>nd h fun h=>bd h fun _ e h=>G.ca (fM.ac e)<|kn h (fun h=>nd h fun h=>nd h fun h=>la ((fg.ls Γ k) _ _ _ _ h)) fun h=>la ((fg.ls Γ k) _ _ _ _ h)) fun h=>rt h func191))
theorem fg.ac {k:Nat} {a0:Int} {a1:List Int} {a2:Int} {r:Int} (h:fg.f k a0 a1 a2=some r):dU 191 0 [.c (.int .u8 a0),.agg (.N .u8 a1) 8,.c (.int .u8 a2)] [] (fg.rv r) (fg.H r):=
 dV func191 fun Γ=>by unfold fg.f at h;exact (la ((fg.ls Γ k) _ _ _ _ h))
def gh.rv (r:(List Int)):AV:= .own 0 none true
def gh.H (r:(List Int)):List HE:=[⟨0,false,5,0,.N .u8 r⟩]
theorem gh.ls {r:(List Int)} (Γ:Cr prog gl 154 30 0 (gh.rv r) (gh.H r)): ∀k:Nat,(∀(a0:Int) (a1:Int) (a2:List Int) (a3:Int) (iM:List Int) (iU:Int) (iE:Int),gh.l0 k a0 a1 a2 a3 iM iU iE=some r→GC Γ ⟨.it,pl f154 [1,1,0,1,0,0],[(0,.c (.int .i64 a0)),(1,.c (.int .i64 a1)),(3,.c (.int .u8 a3)),(6,.ptr 0 none 8),(9,.own 1 none true),(13,.c (.int .i64 iU)),(14,.c (.int .i64 iE))],[⟨0,false,212,8,.N .u8 a2⟩,⟨1,false,5,0,.N .u8 iM⟩],16⟩)
 | 0=>(fun _ _ _ _ _ _ _ h=>nomatch h)
 | k+1=>(fun a0 a1 a2 a3 iM iU iE h=>by unfold gh.l0 at h;exact (kn h (fun h=>G.dr<|bd h fun _ e h=>D.ca (fE.ac e)<|bd h fun _ e h=>D.ca (fg.ac e)<|bv h fun h=>bv h fun h=>D.fi<|la ((gh.ls Γ k) _ _ _ _ _ _ _ h)) fun h=>rt h func154))
theorem gh.ac {k:Nat} {a0:Int} {a1:Int} {a2:List Int} {a3:Int} {r:(List Int)} (h:gh.f k a0 a1 a2 a3=some r):dU 154 0 [.c (.int .i64 a0),.c (.int .i64 a1),.agg (.N .u8 a2) 8,.c (.int .u8 a3)] [] (gh.rv r) (gh.H r):=
 dV func154 fun Γ=>by unfold gh.f at h;exact (la ((gh.ls Γ k) _ _ _ _ _ _ _ h))
def gR.rv (r:(List Bool)):AV:= .agg (.B r) 256
def gR.H (r:(List Bool)):List HE:=[]
theorem gR.ls {r:(List Bool)} (Γ:Cr prog gl 217 15 0 (gR.rv r) (gR.H r)): ∀k:Nat,(∀(a0:List Int) (gS:List Bool) (cB:Int),gR.l0 k a0 gS cB=some r→GC Γ ⟨.it,pl f217 [1,0,1,0,0],[(2,.ptr 0 none 256),(5,.row (.N .u8 a0) false),(6,.c (.int .i64 (a0.length:Int))),(7,.c (.int .i64 cB))],[⟨0,false,257,256,.B gS⟩],16⟩)
 | 0=>(fun _ _ _ h=>nomatch h)
 | k+1=>(fun a0 gS cB h=>by unfold gR.l0 at h;exact (kn h (fun h=>nd h fun h=>nd h fun h=>nd h fun h=>nd h fun h=>la ((gR.ls Γ k) _ _ _ h)) fun h=>rt h func217))
theorem gR.ac {k:Nat} {a0:List Int} {r:(List Bool)} (h:gR.f k a0=some r):dU 217 0 [.row (.N .u8 a0) false] [] (gR.rv r) (gR.H r):=
 dV func217 fun Γ=>by unfold gR.f at h;exact (la ((gR.ls Γ k) _ _ _ h))
def jz.rv (r:Bool):AV:= .c (.bool r)
def jz.H (r:Bool):List HE:=[]
theorem jz.ls {r:Bool} (Γ:Cr prog gl 193 20 0 (jz.rv r) (jz.H r)): ∀k:Nat,(∀(a0:List Int) (cF:List Bool) (b9:Int),jz.l0 k a0 cF b9=some r→GC Γ ⟨.it,pl f193 [1,1,1,0,1,0,0],[(0,.row (.N .u8 a0) false),(3,.ptr 0 none 256),(9,.c (.int .i64 (a0.length:Int))),(10,.c (.int .i64 b9))],[⟨0,false,257,256,.B cF⟩],16⟩)
 | 0=>(fun _ _ _ h=>nomatch h)
 | k+1=>(fun a0 cF b9 h=>by unfold jz.l0 at h;exact (kn h (fun h=>nd h fun h=>nd h fun h=>la ((jz.ls Γ k) _ _ _ h)) fun h=>G.dr<|bd h fun _ e h=>D.ca (gR.ac e)<|D.fi<|rt h func193))
theorem jz.ac {k:Nat} {a0:List Int} {r:Bool} (h:jz.f k a0=some r):dU 193 0 [.row (.N .u8 a0) false] [] (jz.rv r) (jz.H r):=
 dV func193 fun Γ=>by unfold jz.f at h;exact (kn h (fun h=>rt h func193) fun h=>la ((jz.ls Γ k) _ _ _ h))
def gC.rv (r:(List Int)×Bool):AV:= .tup (bE [.own 0 none true,.c (.bool r.2)])
def gC.H (r:(List Int)×Bool):List HE:=[⟨0,false,5,0,.N .u8 r.1⟩]
theorem gC.ls {r:(List Int)×Bool} (Γ:Cr prog gl 155 27 0 (gC.rv r) (gC.H r)): ∀k:Nat,(∀(a0:List Int) (dE:List Int) (gU:Int),gC.l0 k a0 dE gU=some r→GC Γ ⟨.it,pl f155 [1,1,1,0,1,0,0],[(4,.own 0 none true),(13,.row (.N .u8 a0) false),(14,.c (.int .i64 (a0.length:Int))),(15,.c (.int .i64 gU))],[⟨0,false,5,0,.N .u8 dE⟩],16⟩)
 | 0=>(fun _ _ _ h=>nomatch h)
 | k+1=>(fun a0 dE gU h=>by unfold gC.l0 at h;exact (kn h (fun h=>nd h fun h=>nd h fun h=>nd h fun h=>nd h fun h=>la ((gC.ls Γ k) _ _ _ h)) fun h=>rt h func155))
theorem gC.ac {k:Nat} {a0:List Int} {r:(List Int)×Bool} (h:gC.f k a0=some r):dU 155 0 [.row (.N .u8 a0) false] [] (gC.rv r) (gC.H r):=
 dV func155 fun Γ=>by unfold gC.f at h;exact (bd h fun _ e h=>G.ca (jz.ac e)<|kn h (fun h=>rt h func155) fun h=>nd h fun h=>nd h fun h=>la ((gC.ls Γ k) _ _ _ h))
def km.rv (r:(List (List Int))):AV:= .agg (.R .u8 r) 4
def km.H (r:(List (List Int))):List HE:=[]
theorem km.ac {k:Nat} {r:(List (List Int))} (h:km.f k=some r):dU 105 0 [] [] (km.rv r) (km.H r):=
 dV func105 fun Γ=>by unfold km.f at h;exact (bd h fun _ e h=>G.ca (gh.ac e)<|bd h fun _ e h=>G.ca (gh.ac e)<|bd h fun _ e h=>G.ca (gC.ac e)<|lt h fun h=>bd h fun _ e h=>G.ca (gC.ac e)<|rt h func105)
def eG.rv (r:(List Int)):AV:= .own 0 none true
def eG.H (r:(List Int)):List HE:=[⟨0,false,5,0,.N .u8 r⟩]
theorem eG.ac {k:Nat} {a0:Int} {r:(List Int)} (h:eG.f k a0=some r):dU 194 0 [.c (.int .u64 a0)] [] (eG.rv r) (eG.H r):=
 dV func194 fun Γ=>by unfold eG.f at h;exact (bd h fun _ e h=>G.ca (dW.ac e)<|rt h func194)
def ke.rv (r:(List (List Int))):AV:= .agg (.R .u8 r) 3
def ke.H (r:(List (List Int))):List HE:=[]
theorem ke.ac {k:Nat} {r:(List (List Int))} (h:ke.f k=some r):dU 156 0 [] [] (ke.rv r) (ke.H r):=
 dV func156 fun Γ=>by unfold ke.f at h;exact (lt h fun h=>G.lp<|kq (v:=true)<|nd h fun h=>nd h fun h=>G.dr<|bd h fun _ e h=>D.ca (eG.ac e)<|bd h fun _ e h=>D.ca (eG.ac e)<|bv h fun h=>bv h fun h=>bv h fun h=>D.fi<|G.lp<|kq (v:=true)<|nd h fun h=>nd h fun h=>G.dr<|bd h fun _ e h=>D.ca (eG.ac e)<|bd h fun _ e h=>D.ca (eG.ac e)<|bv h fun h=>bv h fun h=>bv h fun h=>D.fi<|G.lp<|kq (v:=true)<|nd h fun h=>nd h fun h=>G.dr<|bd h fun _ e h=>D.ca (eG.ac e)<|bd h fun _ e h=>D.ca (eG.ac e)<|bv h fun h=>bv h fun h=>bv h fun h=>D.fi<|G.lp<|kq (v:=false)<|rt h func156)
def bz.rv (r:(List Int)):AV:= .own 0 none true
def bz.H (r:(List Int)):List HE:=[⟨0,false,5,0,.N .u8 r⟩]
theorem bz.ls {r:(List Int)} (Γ:Cr prog gl 109 36 0 (bz.rv r) (bz.H r)): ∀k:Nat,(∀(a0:List (List Int)) (a1:Int) (a2:List Int) (dC:List Int) (gU:Int),bz.l0 k a0 a1 a2 dC gU=some r→GC Γ ⟨.it,pl f109 [1,1,0,1,0,0],[(1,.c (.int .i64 a1)),(3,.ptr 0 none 4),(7,.own 1 none true),(13,.row (.N .u8 a2) false),(14,.c (.int .i64 (a2.length:Int))),(15,.c (.int .i64 gU))],[⟨0,false,161,4,.R .u8 a0⟩,⟨1,false,5,0,.N .u8 dC⟩],16⟩)
 | 0=>(fun _ _ _ _ _ h=>nomatch h)
 | k+1=>(fun a0 a1 a2 dC gU h=>by unfold bz.l0 at h;exact (kn h (fun h=>nd h fun h=>nd h fun h=>nd h fun h=>nd h fun h=>lt h fun h=>nd h fun h=>nd h fun h=>nd h fun h=>nd h fun h=>la ((bz.ls Γ k) _ _ _ _ _ h)) fun h=>rt h func109))
theorem bz.ac {k:Nat} {a0:List (List Int)} {a1:Int} {a2:List Int} {r:(List Int)} (h:bz.f k a0 a1 a2=some r):dU 109 0 [.agg (.R .u8 a0) 4,.c (.int .i64 a1),.row (.N .u8 a2) false] [] (bz.rv r) (bz.H r):=
 dV func109 fun Γ=>by unfold bz.f at h;exact (nd h fun h=>nd h fun h=>la ((bz.ls Γ k) _ _ _ _ _ h))
def lj.rv (r:(List Int)):AV:= .agg (.N .i64 r) 7
def lj.H (r:(List Int)):List HE:=[]
theorem lj.ac {k:Nat} {a0:Int} {r:(List Int)} (h:lj.f k a0=some r):dU 157 0 [.c (.int .i64 a0)] [] (lj.rv r) (lj.H r):=
 dV func157 fun Γ=>by unfold lj.f at h;exact (kn h (fun h=>rt h func157) fun h=>kn h (fun h=>rt h func157) fun h=>kn h (fun h=>rt h func157) fun h=>kn h (fun h=>rt h func157) fun h=>kn h (fun h=>rt h func157) fun h=>kn h (fun h=>rt h func157) fun h=>kn h (fun h=>rt h func157) fun h=>kn h (fun h=>rt h func157) fun h=>kn h (fun h=>rt h func157) fun h=>kn h (fun h=>rt h func157) fun h=>kn h (fun h=>rt h func157) fun h=>kn h (fun h=>rt h func157) fun h=>kn h (fun h=>rt h func157) fun h=>kn h (fun h=>rt h func157) fun h=>kn h (fun h=>rt h func157) fun h=>rt h func157)
def fJ.rv (r:(List Int)×Bool):AV:= .tup (bE [.own 0 none true,.c (.bool r.2)])
def fJ.H (r:(List Int)×Bool):List HE:=[⟨0,false,5,0,.N .u8 r.1⟩]
theorem fJ.ls {r:(List Int)×Bool} (Γ:Cr prog gl 110 35 0 (fJ.rv r) (fJ.H r)): ∀k:Nat,(∀(a0:List Int) (dE:List Int) (iU:Int) (iE:Int),fJ.l0 k a0 dE iU iE=some r→GC Γ ⟨.it,pl f110 [1,1,1,0,1,0,0],[(0,.row (.N .u8 a0) false),(4,.own 0 none true),(13,.c (.int .i64 iU)),(14,.c (.int .i64 iE))],[⟨0,false,5,0,.N .u8 dE⟩],16⟩)∧(∀(a0:List Int) (jU:(List Int)) (iU:Int) (iE:Int) (jK:List Int) (qe:Int),fJ.l1 k a0 jU iU iE jK qe=some r→GC Γ ⟨.it,pl f110 [1,1,1,0,1,0,0,1,1,0,0,1,1,0,0],[(0,.row (.N .u8 a0) false),(4,.own 0 none true),(5,.c (.int .i64 iE)),(13,.c (.int .i64 iU)),(14,.c (.int .i64 iE)),(18,.agg (.N .i64 jU) 7),(19,.c (.int .i64 qe))],[⟨0,false,5,0,.N .u8 jK⟩],16⟩)
 | 0=>⟨(fun _ _ _ _ h=>nomatch h),(fun _ _ _ _ _ _ h=>nomatch h)⟩
 | k+1=>⟨(fun a0 dE iU iE h=>by unfold fJ.l0 at h;exact (kn h (fun h=>bd h fun _ e h=>G.ca (lj.ac e)<|la ((fJ.ls Γ k).2 _ _ _ _ _ _ h)) fun h=>rt h func110)),(fun a0 jU iU iE jK qe h=>by unfold fJ.l1 at h;exact (kn h (fun h=>nd h fun h=>nd h fun h=>G.dr<|bv h fun h=>bv h fun h=>bv h fun h=>bv h fun h=>bv h fun h=>bv h fun h=>D.fi<|la ((fJ.ls Γ k).2 _ _ _ _ _ _ h)) fun h=>la ((fJ.ls Γ k).1 _ _ _ _ h)))⟩
theorem fJ.ac {k:Nat} {a0:List Int} {r:(List Int)×Bool} (h:fJ.f k a0=some r):dU 110 0 [.row (.N .u8 a0) false] [] (fJ.rv r) (fJ.H r):=
 dV func110 fun Γ=>by unfold fJ.f at h;exact (kn h (fun h=>rt h func110) fun h=>la ((fJ.ls Γ k).1 _ _ _ _ h))
def eg.rv (r:(List Int)):AV:= .own 0 none true
def eg.H (r:(List Int)):List HE:=[⟨0,false,5,0,.N .u8 r⟩]
theorem eg.ac {k:Nat} {a0:List (List Int)} {a1:Int} {a2:List Int} {a3:List Int} {r:(List Int)} (h:eg.f k a0 a1 a2 a3=some r):dU 107 0 [.agg (.R .u8 a0) 4,.c (.int .i64 a1),.row (.N .u8 a2) false,.row (.N .u8 a3) false] [] (eg.rv r) (eg.H r):=
 dV func107 fun Γ=>by unfold eg.f at h;exact (bd h fun _ e h=>G.ca (bw.ac e)<|bd h fun _ e h=>G.cl (bz.ac e)<|bd h fun _ e h=>G.cl (fJ.ac e)<|rt h func107)
def cU.rv (r:(List (List Int))):AV:= .own 0 none false
def cU.H (r:(List (List Int))):List HE:=[⟨0,false,22,0,.R .u8 r⟩]
theorem cU.ls {r:(List (List Int))} (Γ:Cr prog gl 106 102 0 (cU.rv r) (cU.H r)): ∀k:Nat,(∀(qf:(List Int)×Bool) (y44_4:List Int) (ou:(List Int)×Bool) (pi:(List Int)×Bool) (cq:Int) (qX:List (List Int)) (iV:Int),cU.l0 k qf y44_4 ou pi cq qX iV=some r→GC Γ ⟨.it,pl f106 [1,0,1,1,1,1,1,1,1,1,1,1,1],[(5,.c (.int .i64 cq)),(7,.ptr 0 none 4),(10,.own 1 none false),(11,.ptr 2 none 5),(12,.c (.int .i64 iV))],[⟨0,false,160,4,.R .u8 [y44_4,qf.1,ou.1,pi.1]⟩,⟨1,false,22,0,.R .u8 qX⟩,⟨2,false,215,5,.N .i64 ([(-19),(-31),61,31,19]:List Int)⟩],16⟩)
 | 0=>(fun _ _ _ _ _ _ _ h=>nomatch h)
 | k+1=>(fun qf y44_4 ou pi cq qX iV h=>by unfold cU.l0 at h;exact (G.dr<|bv h fun h=>bv h fun h=>bv h fun h=>bv h fun h=>lt h fun h=>bv h fun h=>bv h fun h=>lt h fun h=>bd h fun _ e h=>D.ca (ew.ac e)<|bd h fun _ e h=>D.cl (bw.ac e)<|D.fi<|nd h fun h=>kn h (fun h=>la ((cU.ls Γ k) _ _ _ _ _ _ _ h)) fun h=>rt h func106))
theorem cU.ac {k:Nat} {a0:List (List Int)} {a1:List Int} {r:(List (List Int))} (h:cU.f k a0 a1=some r):dU 106 0 [.agg (.R .u8 a0) 4,.row (.N .u8 a1) false] [] (cU.rv r) (cU.H r):=
 dV func106 fun Γ=>by unfold cU.f at h;exact (bd h fun _ e h=>G.ca (ke.ac e)<|lt h fun h=>nd h fun h=>lt h fun h=>G.lp<|kq (v:=true)<|G.dr<|bv h fun h=>bv h fun h=>lt h fun h=>lt h fun h=>bv h fun h=>bv h fun h=>bd h fun _ e h=>D.cl (eg.ac e)<|bv h fun h=>bv h fun h=>D.fi<|nd h fun h=>nd h fun h=>lt h fun h=>bd h fun _ e h=>G.cl (bw.ac e)<|nd h fun h=>nd h fun h=>nd h fun h=>nd h fun h=>G.lp<|kq (v:=true)<|G.dr<|bv h fun h=>bv h fun h=>lt h fun h=>bv h fun h=>bv h fun h=>bd h fun _ e h=>D.cl (eg.ac e)<|bv h fun h=>bv h fun h=>D.fi<|nd h fun h=>nd h fun h=>bd h fun _ e h=>G.cl (bw.ac e)<|nd h fun h=>nd h fun h=>nd h fun h=>nd h fun h=>G.lp<|kq (v:=true)<|G.dr<|bv h fun h=>bv h fun h=>lt h fun h=>bv h fun h=>bv h fun h=>bd h fun _ e h=>D.cl (eg.ac e)<|bv h fun h=>bv h fun h=>D.fi<|nd h fun h=>nd h fun h=>bd h fun _ e h=>G.cl (bw.ac e)<|nd h fun h=>nd h fun h=>nd h fun h=>nd h fun h=>G.lp<|kq (v:=false)<|la ((cU.ls Γ k) _ _ _ _ _ _ _ h))
def jV.rv (r:(Option ((List (List Int))×(List (List Int))))×Int):AV:= .tup (bE [oA r.1 fun x=> .obj (bE [.row (.N .u8 (rr x.1 0)) false,.row (.N .u8 (rr x.1 1)) false,.row (.N .u8 (rr x.1 2)) false,.row (.N .u8 (rr x.1 3)) false,.row (.R .u8 x.2) false]) none 5,.c (.int .i64 r.2)])
def jV.H (r:(Option ((List (List Int))×(List (List Int))))×Int):List HE:=[]
theorem jV.ac {k:Nat} {a0:List Int} {r:(Option ((List (List Int))×(List (List Int))))×Int} (h:jV.f k a0=some r):dU 64 0 [.row (.N .u8 a0) false] [] (jV.rv r) (jV.H r):=
 dV func64 fun Γ=>by unfold jV.f at h;exact (bd h fun _ e h=>G.ca (kj.ac e)<|kn h (fun h=>rt h func64) fun h=>bd h fun _ e h=>G.ca (km.ac e)<|G.dr<|bd h fun _ e h=>D.ca (cU.ac e)<|D.fi<|rt h func64)
def cY.rv (r:(List Int)):AV:= .own 0 none false
def cY.H (r:(List Int)):List HE:=[⟨0,false,150,0,.N .u32 r⟩]
theorem cY.ls {r:(List Int)} (Γ:Cr prog gl 111 31 0 (cY.rv r) (cY.H r)): ∀k:Nat,(∀(a1:Bool) (gI:List Int) (cN:List Int),cY.l0 k a1 gI cN=some r→GC Γ ⟨.it,pl f111 [1,1,0,0,0],[(0,.row (.N .u8 gI) false),(1,.c (.bool a1)),(5,.own 0 none false)],[⟨0,false,150,0,.N .u32 cN⟩],16⟩)
 | 0=>(fun _ _ _ h=>nomatch h)
 | k+1=>(fun a1 gI cN h=>by unfold cY.l0 at h;exact (kn h (fun h=>nd h fun h=>bd h fun _ e h=>G.ca (iw.ac e)<|kn h (fun h=>nd h fun h=>bd h fun _ e h=>G.ca (fj.ac e)<|nd h fun h=>nd h fun h=>la ((cY.ls Γ k) _ _ _ h)) fun h=>nd h fun h=>nd h fun h=>la ((cY.ls Γ k) _ _ _ h)) fun h=>rt h func111))
theorem cY.ac {k:Nat} {a0:List Int} {a1:Bool} {r:(List Int)} (h:cY.f k a0 a1=some r):dU 111 0 [.row (.N .u8 a0) false,.c (.bool a1)] [] (cY.rv r) (cY.H r):=
 dV func111 fun Γ=>by unfold cY.f at h;exact (la ((cY.ls Γ k) _ _ _ h))
def dk.rv (r:(List Int)):AV:= .own 1 none false
def dk.H (r:(List Int)):List HE:=[⟨1,false,150,0,.N .u32 r⟩]
theorem dk.ls {r:(List Int)} (Γ:Cr prog gl 112 65 1 (dk.rv r) (dk.H r)): ∀k:Nat,(∀(a0:List Int) (cF:List Int),dk.l0 k a0 cF=some r→GC Γ ⟨.it,pl f112 [1,0,1,0,0,0],[(0,.own 1 none false),(3,.own 2 none false)],[⟨1,false,150,0,.N .u32 a0⟩,⟨2,false,150,0,.N .u32 cF⟩],16⟩)∧(∀(nN:List Int) (iF:List Int) (lP:Int) (mF:Int) (ju:Int),dk.l1 k nN iF lP mF ju=some r→GC Γ ⟨.it,pl f112 [1,0,1,1,1,1,1],[(0,.own 1 none false),(3,.own 2 none false),(4,.c (.int .u32 lP)),(5,.c (.int .u32 mF)),(6,.c (.int .i64 ju))],[⟨1,false,150,0,.N .u32 nN⟩,⟨2,false,150,0,.N .u32 iF⟩],16⟩)
 | 0=>⟨(fun _ _ h=>nomatch h),(fun _ _ _ _ _ h=>nomatch h)⟩
 | k+1=>⟨(fun a0 cF h=>by unfold dk.l0 at h;exact (kn h (fun h=>nd h fun h=>nd h fun h=>lt h fun h=>nd h fun h=>la ((dk.ls Γ k).1 _ _ h)) fun h=>la ((dk.ls Γ k).2 _ _ _ _ _ h))),(fun nN iF lP mF ju h=>by unfold dk.l1 at h;exact (G.dr<|Oh h fun h=>D.fi<|nd h fun h=>nd h fun h=>bd h fun _ e h=>G.ca (bF.ac e)<|nd h fun h=>nd h fun h=>nd h fun h=>nd h fun h=>lt h fun h=>bd h fun _ e h=>G.ca (bF.ac e)<|nd h fun h=>nd h fun h=>kn h (fun h=>la ((dk.ls Γ k).2 _ _ _ _ _ h)) fun h=>rt h func112))⟩
theorem dk.ac {k:Nat} {a0:List Int} {r:(List Int)} (h:dk.f k a0=some r):dU 112 1 [.own 0 none false] [⟨0,false,150,0,.N .u32 a0⟩] (dk.rv r) (dk.H r):=
 dV func112 fun Γ=>by unfold dk.f at h;exact (la ((dk.ls Γ k).1 _ _ h))
def ig.rv (r:(Option ((List Int)×Int))×Int):AV:= .tup (bE [oA r.1 fun x=> .obj (bE [.row (.N .u32 x.1) false,.c (.int .i64 x.2)]) none 2,.c (.int .i64 r.2)])
def ig.H (r:(Option ((List Int)×Int))×Int):List HE:=[]
theorem ig.ac {k:Nat} {a0:Int} {a1:List Int} {r:(Option ((List Int)×Int))×Int} (h:ig.f k a0 a1=some r):dU 66 0 [.c (.int .i64 a0),.row (.N .u8 a1) false] [] (ig.rv r) (ig.H r):=
 dV func66 fun Γ=>by unfold ig.f at h;exact (kn h (fun h=>kn h (fun h=>rt h func66) fun h=>bd h fun _ e h=>G.ca (cY.ac e)<|kn h (fun h=>bd h fun _ e h=>G.ca (dk.ac e)<|rt h func66) fun h=>rt h func66) fun h=>kn h (fun h=>kn h (fun h=>rt h func66) fun h=>bd h fun _ e h=>G.ca (cY.ac e)<|kn h (fun h=>bd h fun _ e h=>G.ca (dk.ac e)<|rt h func66) fun h=>rt h func66) fun h=>kn h (fun h=>kn h (fun h=>rt h func66) fun h=>bd h fun _ e h=>G.ca (cY.ac e)<|kn h (fun h=>bd h fun _ e h=>G.ca (dk.ac e)<|rt h func66) fun h=>rt h func66) fun h=>rt h func66)
def eJ.rv (r:(Option (Int×Tn))×Int):AV:= .tup (bE [oA r.1 fun x=> .obj (bE [.c (.int .i64 x.1),.fs (Tn.F x.2) (Tn.C x.2)]) none 2,.c (.int .i64 r.2)])
def eJ.H (r:(Option (Int×Tn))×Int):List HE:=[]
theorem eJ.ac {k:Nat} {a0:Int} {a1:List Int} {r:(Option (Int×Tn))×Int} (h:eJ.f k a0 a1=some r):dU 18 0 [.c (.int .i64 a0),.row (.N .u8 a1) false] [] (eJ.rv r) (eJ.H r):=
 dV func18 fun Γ=>by unfold eJ.f at h;exact (bd h fun _ e h=>G.ca (ie.ac e)<|kn h (fun h=>rt h func18) fun h=>bd h fun _ e h=>G.ca (iK.ac e)<|bd h fun _ e h=>G.cl (eW.ac e)<|kn h (fun h=>G.lp<|kq (v:=true)<|rt h func18) fun h=>kn h (fun h=>bd h fun r e h=>match r,e,h with | ⟨none,_⟩,e,h=>G.ca (gP.ac e)<|nomatch h | ⟨some _,_⟩,e,h=>G.ca (gP.ac e)<|G.lp<|kq (v:=false)<|rt h func18) fun h=>kn h (fun h=>bd h fun r e h=>match r,e,h with | ⟨none,_⟩,e,h=>G.ca (gP.ac e)<|nomatch h | ⟨some _,_⟩,e,h=>G.ca (gP.ac e)<|G.lp<|kq (v:=false)<|rt h func18) fun h=>kn h (fun h=>bd h fun r e h=>match r,e,h with | ⟨none,_⟩,e,h=>G.ca (ki.ac e)<|nomatch h | ⟨some _,_⟩,e,h=>G.ca (ki.ac e)<|G.lp<|kq (v:=false)<|rt h func18) fun h=>kn h (fun h=>bd h fun r e h=>match r,e,h with | ⟨none,_⟩,e,h=>G.ca (iz.ac e)<|nomatch h | ⟨some _,_⟩,e,h=>G.ca (iz.ac e)<|G.lp<|kq (v:=false)<|rt h func18) fun h=>kn h (fun h=>bd h fun r e h=>match r,e,h with | ⟨none,_⟩,e,h=>G.ca (jV.ac e)<|nomatch h | ⟨some _,_⟩,e,h=>G.ca (jV.ac e)<|G.lp<|kq (v:=false)<|rt h func18) fun h=>bd h fun r e h=>match r,e,h with | ⟨none,_⟩,e,h=>G.ca (ig.ac e)<|nomatch h | ⟨some _,_⟩,e,h=>G.ca (ig.ac e)<|G.lp<|kq (v:=false)<|rt h func18)
def iS.rv (r:Int):AV:= .c (.int .i64 r)
def iS.H (r:Int):List HE:=[]
theorem iS.ac {k:Nat} {a0:Int} {r:Int} (h:iS.f k a0=some r):dU 27 0 [.c (.int .i64 a0)] [] (iS.rv r) (iS.H r):=
 dV func27 fun Γ=>by unfold iS.f at h;exact (kn h (fun h=>rt h func27) fun h=>kn h (fun h=>rt h func27) fun h=>kn h (fun h=>rt h func27) fun h=>kn h (fun h=>rt h func27) fun h=>kn h (fun h=>rt h func27) fun h=>kn h (fun h=>rt h func27) fun h=>kn h (fun h=>rt h func27) fun h=>kn h (fun h=>rt h func27) fun h=>kn h (fun h=>rt h func27) fun h=>rt h func27)
def aO.rv (r:Int):AV:= .c (.int .i64 r)
def aO.H (r:Int):List HE:=[]
theorem aO.ac {k:Nat} {a0:Int×Tn} {r:Int} (h:aO.f k a0=some r):dU 30 0 [.obj (bE [.c (.int .i64 a0.1),.fs (Tn.F a0.2) (Tn.C a0.2)]) none 2] [] (aO.rv r) (aO.H r):=
 dV func30 fun Γ=>by unfold aO.f at h;exact (bd h fun _ e h=>G.ca (ie.ac e)<|rt h func30)
def i9.rv (r:(Option (Int×Tn))×Int):AV:= .tup (bE [oA r.1 fun x=> .obj (bE [.c (.int .i64 x.1),.fs (Tn.F x.2) (Tn.C x.2)]) none 2,.c (.int .i64 r.2)])
def i9.H (r:(Option (Int×Tn))×Int):List HE:=[]
theorem i9.ac {k:Nat} {a0:Int×Int×Int×Bool} {a1:List Int} {a2:List Int} {r:(Option (Int×Tn))×Int} (h:i9.f k a0 a1 a2=some r):dU 26 0 [.agg (bE [.c (.int .i64 a0.1),.c (.int .i64 a0.2.1),.c (.int .i64 a0.2.2.1),.c (.bool a0.2.2.2)]) 4,.row (.N .u8 a1) false,.row (.N .u8 a2) false] [] (i9.rv r) (i9.H r):=
 dV func26 fun Γ=>by unfold i9.f at h;exact (bd h fun r e h=>match r,e,h with | ⟨none,_⟩,e,h=>G.ca (eJ.ac e)<|kn h (fun h=>rt h func26) fun h=>bd h fun _ e h=>G.ca (iS.ac e)<|nomatch h | ⟨some _,_⟩,e,h=>G.ca (eJ.ac e)<|kn h (fun h=>rt h func26) fun h=>bd h fun _ e h=>G.ca (iS.ac e)<|bd h fun _ e h=>G.ca (aO.ac e)<|kn h (fun h=>kn h (fun h=>rt h func26) fun h=>kn h (fun h=>rt h func26) fun h=>kn h (fun h=>rt h func26) fun h=>kn h (fun h=>kn h (fun h=>rt h func26) fun h=>kn h (fun h=>rt h func26) fun h=>rt h func26) fun h=>kq (v:=false)<|kn h (fun h=>rt h func26) fun h=>rt h func26) fun h=>kn h (fun h=>rt h func26) fun h=>kn h (fun h=>rt h func26) fun h=>kn h (fun h=>rt h func26) fun h=>kn h (fun h=>kn h (fun h=>rt h func26) fun h=>kn h (fun h=>rt h func26) fun h=>rt h func26) fun h=>kq (v:=false)<|kn h (fun h=>rt h func26) fun h=>rt h func26)
def an.rv (r:(List Int)):AV:= .own 0 none false
def an.H (r:(List Int)):List HE:=[⟨0,false,5,0,.N .u8 r⟩]
theorem an.ac {k:Nat} {a0:List Int} {r:(List Int)} (h:an.f k a0=some r):dU 44 0 [.row (.N .u8 a0) false] [] (an.rv r) (an.H r):=
 dV func44 fun Γ=>by unfold an.f at h;exact (nq (m:=a0.length) (fun e=>by have e:=List.eq_nil_of_length_eq_zero e;subst e;exact rt (v:=[]) h func44)<|nd h fun h=>rt h func44)
def ij.rv (r:((Int×Tn)×Int×Bool×(List Int)×(List Int)×(List Int))×Int):AV:= .tup (bE [.ptr 0 none 6,.c (.int .i64 r.2)])
def ij.H (r:((Int×Tn)×Int×Bool×(List Int)×(List Int)×(List Int))×Int):List HE:=[⟨0,false,100,6,bE [.obj (bE [.c (.int .i64 r.1.1.1),.fs (Tn.F r.1.1.2) (Tn.C r.1.1.2)]) none 2,.c (.int .i64 r.1.2.1),.c (.bool r.1.2.2.1),.row (.N .u8 r.1.2.2.2.1) false,.row (.N .u8 r.1.2.2.2.2.1) false,.c (.slice none 0 0)]⟩]
theorem ij.ac {k:Nat} {a0:Int×Tn} {a1:Int} {a2:Bool} {a3:List Int} {r:((Int×Tn)×Int×Bool×(List Int)×(List Int)×(List Int))×Int} (h:ij.f k a0 a1 a2 a3=some r):dU 29 0 [.obj (bE [.c (.int .i64 a0.1),.fs (Tn.F a0.2) (Tn.C a0.2)]) none 2,.c (.int .i64 a1),.c (.bool a2),.row (.N .u8 a3) false] [] (ij.rv r) (ij.H r):=
 dV func29 fun Γ=>by unfold ij.f at h;exact (bd h fun _ e h=>G.ca (aO.ac e)<|kn h (fun h=>kn h (fun h=>nomatch h) fun h=>bd h fun _ e h=>G.ca (an.ac e)<|rt h func29) fun h=>kn h (fun h=>kn h (fun h=>nomatch h) fun h=>bd h fun _ e h=>G.ca (an.ac e)<|rt h func29) fun h=>kn h (fun h=>kn h (fun h=>nomatch h) fun h=>bd h fun _ e h=>G.ca (an.ac e)<|rt h func29) fun h=>kn h (fun h=>kn h (fun h=>nomatch h) fun h=>bd h fun _ e h=>G.ca (an.ac e)<|rt h func29) fun h=>kn h (fun h=>kn h (fun h=>nomatch h) fun h=>bd h fun _ e h=>G.ca (an.ac e)<|rt h func29) fun h=>kn h (fun h=>kn h (fun h=>nomatch h) fun h=>bd h fun _ e h=>G.ca (an.ac e)<|rt h func29) fun h=>nomatch h)
def dz.rv (r:Int):AV:= .c (.int .i64 r)
def dz.H (r:Int):List HE:=[]
theorem dz.ac {k:Nat} {a0:(Int×Tn)×Int×Bool×(List Int)×(List Int)×(List Int)} {r:Int} (h:dz.f k a0=some r):dU 50 0 [.obj (bE [.obj (bE [.c (.int .i64 a0.1.1),.fs (Tn.F a0.1.2) (Tn.C a0.1.2)]) none 2,.c (.int .i64 a0.2.1),.c (.bool a0.2.2.1),.row (.N .u8 a0.2.2.2.1) false,.row (.N .u8 a0.2.2.2.2.1) false,.row (.N .u8 a0.2.2.2.2.2) false]) none 6] [] (dz.rv r) (dz.H r):=
 dV func50 fun Γ=>by unfold dz.f at h;exact (kn h (fun h=>bd h fun _ e h=>G.ca (aO.ac e)<|rt h func50) fun h=>kn h (fun h=>bd h fun _ e h=>G.ca (aO.ac e)<|rt h func50) fun h=>rt h func50)
def bX.rv (r:(List (List Int))):AV:= .own 0 none false
def bX.H (r:(List (List Int))):List HE:=[⟨0,false,22,0,.R .u8 r⟩]
theorem bX.ac {k:Nat} {a0:List (List Int)} {r:(List (List Int))} (h:bX.f k a0=some r):dU 91 0 [.row (.R .u8 a0) false] [] (bX.rv r) (bX.H r):=
 dV func91 fun Γ=>by unfold bX.f at h;exact (nq (m:=a0.length) (fun e=>by have e:=List.eq_nil_of_length_eq_zero e;subst e;exact rt (v:=[]) h func91)<|nd h fun h=>rt h func91)
def aI.rv (r:(List (List Int))):AV:= .tup (.nil)
def aI.H (r:(List (List Int))):List HE:=[⟨0,false,22,0,.R .u8 r⟩]
theorem aI.ls {r:(List (List Int))} (Γ:Cr prog gl 92 28 1 (aI.rv r) (aI.H r)): ∀k:Nat,(∀(dH:Int) (eY:Int) (h0_0:List (List Int)),aI.l0 k dH eY h0_0=some r→GC Γ ⟨.it,pl f92 [1,0,0],[(0,.own 0 none false),(2,.c (.int .i64 dH)),(3,.c (.int .i64 eY))],[⟨0,false,22,0,.R .u8 h0_0⟩],16⟩)
 | 0=>(fun _ _ _ h=>nomatch h)
 | k+1=>(fun dH eY h0_0 h=>by unfold aI.l0 at h;exact (kn h (fun h=>G.dr<|bv h fun h=>bv h fun h=>bv h fun h=>bv h fun h=>bv h fun h=>bv h fun h=>bv h fun h=>bv h fun h=>D.fi<|la ((aI.ls Γ k) _ _ _ h)) fun h=>rt h func92))
theorem aI.ac {k:Nat} {a0:List (List Int)} {r:(List (List Int))} (h:aI.f k a0=some r):dU 92 1 [.own 0 none false] [⟨0,false,22,0,.R .u8 a0⟩] (aI.rv r) (aI.H r):=
 dV func92 fun Γ=>by unfold aI.f at h;exact (la ((aI.ls Γ k) _ _ _ h))
def gV.rv (r:(List Int)):AV:= .own 0 none false
def gV.H (r:(List Int)):List HE:=[⟨0,false,3,0,.N .i64 r⟩]
theorem gV.ls {r:(List Int)} (Γ:Cr prog gl 138 15 0 (gV.rv r) (gV.H r)): ∀k:Nat,(∀(gY:List Int) (dE:List Int) (cq:Int) (dh:Int),gV.l0 k gY dE cq dh=some r→GC Γ ⟨.it,pl f138 [1,1,0,1,0,0],[(1,.own 0 none false),(4,.own 1 none true),(5,.c (.int .i64 cq)),(6,.c (.int .i64 dh))],[⟨0,false,3,0,.N .i64 gY⟩,⟨1,false,3,0,.N .i64 dE⟩],16⟩)
 | 0=>(fun _ _ _ _ h=>nomatch h)
 | k+1=>(fun gY dE cq dh h=>by unfold gV.l0 at h;exact (kn h (fun h=>nd h fun h=>nd h fun h=>bd h fun _ e h=>G.ca (gJ.ac e)<|la ((gV.ls Γ k) _ _ _ _ h)) fun h=>rt h func138))
theorem gV.ac {k:Nat} {r:(List Int)} (h:gV.f k=some r):dU 138 0 [] [] (gV.rv r) (gV.H r):=
 dV func138 fun Γ=>by unfold gV.f at h;exact (la ((gV.ls Γ k) _ _ _ _ h))
def iA.rv (r:(List Int)):AV:= .own 0 none false
def iA.H (r:(List Int)):List HE:=[⟨0,false,3,0,.N .i64 r⟩]
theorem iA.ls {r:(List Int)} (Γ:Cr prog gl 181 20 0 (iA.rv r) (iA.H r)): ∀k:Nat,(∀(gY:List Int) (eY:Int),iA.l0 k gY eY=some r→GC Γ ⟨.it,pl f181 [1,1,0,1,0,0],[(1,.own 0 none false),(3,.c (.int .i64 eY))],[⟨0,false,3,0,.N .i64 gY⟩],16⟩)
 | 0=>(fun _ _ h=>nomatch h)
 | k+1=>(fun gY eY h=>by unfold iA.l0 at h;exact (kn h (fun h=>lt h fun h=>nd h fun h=>lt h fun h=>la ((iA.ls Γ k) _ _ h)) fun h=>rt h func181))
theorem iA.ac {k:Nat} {r:(List Int)} (h:iA.f k=some r):dU 181 0 [] [] (iA.rv r) (iA.H r):=
 dV func181 fun Γ=>by unfold iA.f at h;exact (la ((iA.ls Γ k) _ _ h))
def ja.rv (r:ByteArray):AV:= .c (.string r)
def ja.H (r:ByteArray):List HE:=[]
theorem ja.ac {k:Nat} {a0:Int} {a1:Int} {r:ByteArray} (h:ja.f k a0 a1=some r):dU 183 0 [.c (.int .i64 a0),.c (.int .i64 a1)] [] (ja.rv r) (ja.H r):=
 dV func183 fun Γ=>by unfold ja.f at h;exact (kn h (fun h=>lt h fun h=>nd h fun h=>nd h fun h=>rt h func183) fun h=>kn h (fun h=>lt h fun h=>nd h fun h=>nd h fun h=>rt h func183) fun h=>kn h (fun h=>lt h fun h=>nd h fun h=>nd h fun h=>rt h func183) fun h=>kn h (fun h=>lt h fun h=>nd h fun h=>nd h fun h=>rt h func183) fun h=>kn h (fun h=>lt h fun h=>nd h fun h=>nd h fun h=>rt h func183) fun h=>kn h (fun h=>lt h fun h=>nd h fun h=>nd h fun h=>rt h func183) fun h=>kn h (fun h=>lt h fun h=>nd h fun h=>nd h fun h=>rt h func183) fun h=>lt h fun h=>nd h fun h=>nd h fun h=>rt h func183)
def jX.rv (r:Int):AV:= .c (.int .u8 r)
def jX.H (r:Int):List HE:=[]
theorem jX.ac {k:Nat} {a0:Int} {r:Int} (h:jX.f k a0=some r):dU 182 0 [.c (.int .u8 a0)] [] (jX.rv r) (jX.H r):=
 dV func182 fun Γ=>by unfold jX.f at h;exact (kn h (fun h=>rt h func182) fun h=>rt h func182)
def kN.rv (r:(List Int)):AV:= .own 0 none true
def kN.H (r:(List Int)):List HE:=[⟨0,false,3,0,.N .i64 r⟩]
theorem kN.ac {k:Nat} {r:(List Int)} (h:kN.f k=some r):dU 184 0 [] [] (kN.rv r) (kN.H r):=
 dV func184 fun Γ=>by unfold kN.f at h;exact (rt h func184)
def i5.rv (r:(List Int)×Bool):AV:= .tup (bE [.own 0 none true,.c (.bool r.2)])
def i5.H (r:(List Int)×Bool):List HE:=[⟨0,false,5,0,.N .u8 r.1⟩]
theorem i5.ls {r:(List Int)×Bool} (Γ:Cr prog gl 139 86 0 (i5.rv r) (i5.H r)): ∀k:Nat,(∀(jP:(List Int)×Bool) (gx:List Int) (dP:Int),i5.l0 k jP gx dP=some r→GC Γ ⟨.it,pl f139 [1,0,1,1,1,1,1,1],[(6,.own 0 none true),(8,.own 1 none true),(9,.c (.int .i64 dP))],[⟨0,false,5,0,.N .u8 jP.1⟩,⟨1,false,5,0,.N .u8 gx⟩],16⟩)∧(∀(dP:Int) (jP:(List Int)×Bool) (oQ:Int) (ta:Int) (gx:List Int) (iZ:Int) (uH:Int),i5.l1 k dP jP oQ ta gx iZ uH=some r→GC Γ ⟨.it,pl f139 [1,0,1,1,1,1,1,1,1,1,1,0,1,0,0],[(6,.own 0 none true),(8,.own 1 none true),(9,.c (.int .i64 dP)),(10,.c (.int .i64 (ak ((ak (6*dP))+1)))),(11,.c (.int .i64 (ak ((ak (2*oQ))+ta)))),(12,.c (.int .i64 iZ)),(13,.c (.int .i64 uH))],[⟨0,false,5,0,.N .u8 jP.1⟩,⟨1,false,5,0,.N .u8 gx⟩],16⟩)
 | 0=>⟨(fun _ _ _ h=>nomatch h),(fun _ _ _ _ _ _ _ h=>nomatch h)⟩
 | k+1=>⟨(fun jP gx dP h=>by unfold i5.l0 at h;exact (bd h fun _ e h=>G.cl (iY.ac e)<|bd h fun _ e h=>G.cl (iY.ac e)<|la ((i5.ls Γ k).2 _ _ _ _ _ _ _ h))),(fun dP jP oQ ta gx iZ uH h=>by unfold i5.l1 at h;exact (kn h (fun h=>bd h fun _ e h=>G.cl (iY.ac e)<|la ((i5.ls Γ k).2 _ _ _ _ _ _ _ h)) fun h=>G.dr<|bv h fun h=>bv h fun h=>bd h fun _ e h=>D.ca (ja.ac e)<|bv h fun h=>bv h fun h=>bd h fun _ e h=>D.ca (jX.ac e)<|bv h fun h=>lt h fun h=>bv h fun h=>bv h fun h=>D.fi<|kn h (fun h=>la ((i5.ls Γ k).1 _ _ _ h)) fun h=>bd h fun _ e h=>G.ca (kN.ac e)<|bd h fun _ e h=>G.cl (cJ.ac e)<|rt h func139))⟩
theorem i5.ac {k:Nat} {a0:List Int} {a1:List Int} {r:(List Int)×Bool} (h:i5.f k a0 a1=some r):dU 139 0 [.row (.N .u8 a0) false,.row (.N .u8 a1) false] [] (i5.rv r) (i5.H r):=
 dV func139 fun Γ=>by unfold i5.f at h;exact (kn h (fun h=>kq (v:=true)<|rt h func139) fun h=>kn h (fun h=>rt h func139) fun h=>bd h fun _ e h=>G.ca (iA.ac e)<|bd h fun _ e h=>G.cl (cJ.ac e)<|bd h fun _ e h=>G.cl (bw.ac e)<|la ((i5.ls Γ k).1 _ _ _ h))
def fF.rv (r:(List Int)×Bool):AV:= .tup (bE [.own 0 none true,.c (.bool r.2)])
def fF.H (r:(List Int)×Bool):List HE:=[⟨0,false,3,0,.N .i64 r.1⟩]
theorem fF.ls {r:(List Int)×Bool} (Γ:Cr prog gl 140 50 0 (fF.rv r) (fF.H r)): ∀k:Nat,(∀(a0:List Int) (dE:List Int) (iU:Int),fF.l0 k a0 dE iU=some r→GC Γ ⟨.it,pl f140 [1,1,0,1,0,0],[(0,.row (.N .i64 a0) false),(4,.own 0 none true),(12,.c (.int .i64 (a0.length:Int))),(13,.c (.int .i64 iU))],[⟨0,false,3,0,.N .i64 dE⟩],16⟩)
 | 0=>(fun _ _ _ h=>nomatch h)
 | k+1=>(fun a0 dE iU h=>by unfold fF.l0 at h;exact (kn h (fun h=>nd h fun h=>nd h fun h=>kn h (fun h=>kq (v:=true)<|kq (v:=true)<|rt h func140) fun h=>kn h (fun h=>kq (v:=true)<|rt h func140) fun h=>nd h fun h=>nd h fun h=>kn h (fun h=>rt h func140) fun h=>nd h fun h=>nd h fun h=>la ((fF.ls Γ k) _ _ _ h)) fun h=>nd h fun h=>nd h fun h=>lt h fun h=>lt h fun h=>rt h func140))
theorem fF.ac {k:Nat} {a0:List Int} {r:(List Int)×Bool} (h:fF.f k a0=some r):dU 140 0 [.row (.N .i64 a0) false] [] (fF.rv r) (fF.H r):=
 dV func140 fun Γ=>by unfold fF.f at h;exact (nd h fun h=>nd h fun h=>la ((fF.ls Γ k) _ _ _ h))
def ep.rv (r:(List Int)):AV:= .own 0 none false
def ep.H (r:(List Int)):List HE:=[⟨0,false,5,0,.N .u8 r⟩]
theorem ep.ac {k:Nat} {a1:Int} {r:(List Int)} (h:ep.f k a1=some r):dU 72 0 [.c (.slice none 0 0),.c (.int .i64 a1)] [] (ep.rv r) (ep.H r):=
 dV func72 fun Γ=>by unfold ep.f at h;exact (kn h (fun h=>nomatch h) fun h=>kn h (fun h=>nd h fun h=>nd h fun h=>nd h fun h=>nd h fun h=>nd h fun h=>nd h fun h=>rb (t:=4)<|rt h func72) fun h=>rt h func72)
def ai.rv (r:(List Int)):AV:= .own 0 none false
def ai.H (r:(List Int)):List HE:=[⟨0,false,5,0,.N .u8 r⟩]
theorem ai.ls {r:(List Int)} (Γ:Cr prog gl 32 36 0 (ai.rv r) (ai.H r)): ∀k:Nat,(∀(a0:List (List Int)) (eY:Int) (dd:Int),ai.l0 k a0 eY dd=some r→GC Γ ⟨.it,pl f32 [1,1,0,1,0,0],[(0,.row (.R .u8 a0) false),(3,.c (.int .i64 eY)),(9,.row (.R .u8 a0) false),(10,.c (.int .i64 (a0.length:Int))),(11,.c (.int .i64 dd))],[],16⟩)∧(∀(a0:List (List Int)) (nO:List Int) (lN:Int),ai.l1 k a0 nO lN=some r→GC Γ ⟨.it,pl f32 [1,1,1,1,0,1,0,0],[(6,.own 0 none false),(25,.row (.R .u8 a0) false),(26,.c (.int .i64 (a0.length:Int))),(27,.c (.int .i64 lN))],[⟨0,false,5,0,.N .u8 nO⟩],16⟩)
 | 0=>⟨(fun _ _ _ h=>nomatch h),(fun _ _ _ h=>nomatch h)⟩
 | k+1=>⟨(fun a0 eY dd h=>by unfold ai.l0 at h;exact (kn h (fun h=>nd h fun h=>nd h fun h=>kn h (fun h=>nomatch h) fun h=>la ((ai.ls Γ k).1 _ _ _ h)) fun h=>bd h fun _ e h=>G.ca (ep.ac e)<|la ((ai.ls Γ k).2 _ _ _ h))),(fun a0 nO lN h=>by unfold ai.l1 at h;exact (kn h (fun h=>nd h fun h=>nd h fun h=>nd h fun h=>la ((ai.ls Γ k).2 _ _ _ h)) fun h=>rt h func32))⟩
theorem ai.ac {k:Nat} {a0:List (List Int)} {r:(List Int)} (h:ai.f k a0=some r):dU 32 0 [.row (.R .u8 a0) false] [] (ai.rv r) (ai.H r):=
 dV func32 fun Γ=>by unfold ai.f at h;exact (la ((ai.ls Γ k).1 _ _ _ h))
def fK.rv (r:(List Int)):AV:= .own 0 none true
def fK.H (r:(List Int)):List HE:=[⟨0,false,5,0,.N .u8 r⟩]
theorem fK.ls {r:(List Int)} (Γ:Cr prog gl 93 62 0 (fK.rv r) (fK.H r)): ∀k:Nat,(∀(a1:List (List Int)) (jd:(List Int)) (dh:List Int) (cB:List Int) (aZ:Int),fK.l0 k a1 jd dh cB aZ=some r→GC Γ ⟨.it,pl f93 [1,0,1,1,1,1,1],[(1,.row (.R .u8 a1) false),(5,.own 0 none false),(6,.row (.N .u8 dh) false),(7,.row (.N .u8 cB) false),(8,.c (.int .i64 aZ))],[⟨0,false,3,0,.N .i64 jd⟩],16⟩)
 | 0=>(fun _ _ _ _ _ h=>nomatch h)
 | k+1=>(fun a1 jd dh cB aZ h=>by unfold fK.l0 at h;exact (kn h (fun h=>nd h fun h=>nd h fun h=>bd h fun _ e h=>G.ca (i5.ac e)<|bd h fun _ e h=>G.cl (bw.ac e)<|la ((fK.ls Γ k) _ _ _ _ _ h)) fun h=>bd h fun _ e h=>G.cl (fF.ac e)<|bd h fun _ e h=>G.cl (ai.ac e)<|bd h fun _ e h=>G.cl (cJ.ac e)<|rt h func93))
theorem fK.ac {k:Nat} {a0:List Int} {a1:List (List Int)} {r:(List Int)} (h:fK.f k a0 a1=some r):dU 93 0 [.row (.N .u8 a0) false,.row (.R .u8 a1) false] [] (fK.rv r) (fK.H r):=
 dV func93 fun Γ=>by unfold fK.f at h;exact (bd h fun _ e h=>G.ca (gV.ac e)<|bd h fun _ e h=>G.cl (cJ.ac e)<|G.dr<|bv h fun h=>bv h fun h=>D.fi<|la ((fK.ls Γ k) _ _ _ _ _ h))
def bR.rv (r:(List Int)×Int):AV:= .tup (bE [.row (.N .u8 r.1) false,.c (.int .i64 r.2)])
def bR.H (r:(List Int)×Int):List HE:=[]
theorem bR.ls {r:(List Int)×Int} (Γ:Cr prog gl 59 58 0 (bR.rv r) (bR.H r)): ∀k:Nat,(∀(a0:(List (List (List Int)))) (a2:Bool) (di:List Int) (jp:Int),bR.l0 k a0 a2 di jp=some r→GC Γ ⟨.it,pl f59 [1,1,0,1,0,0],[(0,.obj (bE [.row (.T .u8 a0) false]) none 1),(1,.row (.N .u8 di) false),(2,.c (.bool a2)),(18,.c (.int .i64 (a0.length:Int))),(19,.c (.int .i64 jp))],[],16⟩)
 | 0=>(fun _ _ _ _ h=>nomatch h)
 | k+1=>(fun a0 a2 di jp h=>by unfold bR.l0 at h;exact (kn h (fun h=>nd h fun h=>nd h fun h=>kn h (fun h=>G.dr<|bv h fun h=>bv h fun h=>lt h fun h=>D.fi<|kn h (fun h=>bd h fun _ e h=>G.ca (bX.ac e)<|bd h fun _ e h=>G.ca (aI.ac e)<|bd h fun _ e h=>G.cl (fK.ac e)<|la ((bR.ls Γ k) _ _ _ _ h)) fun h=>bd h fun _ e h=>G.ca (fK.ac e)<|la ((bR.ls Γ k) _ _ _ _ h)) fun h=>kn h (fun h=>bd h fun _ e h=>G.ca (bX.ac e)<|bd h fun _ e h=>G.ca (aI.ac e)<|bd h fun _ e h=>G.cl (fK.ac e)<|la ((bR.ls Γ k) _ _ _ _ h)) fun h=>bd h fun _ e h=>G.ca (fK.ac e)<|la ((bR.ls Γ k) _ _ _ _ h)) fun h=>rt h func59))
theorem bR.ac {k:Nat} {a0:(List (List (List Int)))} {a1:List Int} {a2:Bool} {r:(List Int)×Int} (h:bR.f k a0 a1 a2=some r):dU 59 0 [.obj (bE [.row (.T .u8 a0) false]) none 1,.row (.N .u8 a1) false,.c (.bool a2)] [] (bR.rv r) (bR.H r):=
 dV func59 fun Γ=>by unfold bR.f at h;exact (kn h (fun h=>rt h func59) fun h=>la ((bR.ls Γ k) _ _ _ _ h))
def jj.rv (r:Int):AV:= .c (.int .i64 r)
def jj.H (r:Int):List HE:=[]
theorem jj.ac {k:Nat} {a0:Int} {a1:Int} {r:Int} (h:jj.f k a0 a1=some r):dU 145 0 [.c (.int .i64 a0),.c (.int .i64 a1)] [] (jj.rv r) (jj.H r):=
 dV func145 fun Γ=>by unfold jj.f at h;exact (rt h func145)
def fo.rv (r:(List Int)):AV:= .own 0 none true
def fo.H (r:(List Int)):List HE:=[⟨0,false,3,0,.N .i64 r⟩]
theorem fo.ls {r:(List Int)} (Γ:Cr prog gl 96 89 0 (fo.rv r) (fo.H r)): ∀k:Nat,(∀(di:List Int) (cq:Int) (dh:Int) (cB:Int) (aZ:Int),fo.l0 k di cq dh cB aZ=some r→GC Γ ⟨.it,pl f96 [1,0,1,1],[(1,.row (.N .i64 di) false),(5,.c (.int .i64 cq)),(6,.c (.int .i64 dh)),(7,.c (.int .i64 cB)),(8,.c (.int .i64 aZ))],[],16⟩)
 | 0=>(fun _ _ _ _ _ h=>nomatch h)
 | k+1=>(fun di cq dh cB aZ h=>by unfold fo.l0 at h;exact (G.dr<|bv h fun h=>bd h fun _ e h=>D.ca (gX.ac e)<|bv h fun h=>bd h fun _ e h=>D.ca (jj.ac e)<|bv h fun h=>bd h fun _ e h=>D.ca (jj.ac e)<|bv h fun h=>bd h fun _ e h=>D.ca (gX.ac e)<|D.fi<|kn h (fun h=>nd h fun h=>bd h fun _ e h=>G.ca (gX.ac e)<|G.dr<|bd h fun _ e h=>D.ca (jj.ac e)<|bv h fun h=>bd h fun _ e h=>D.ca (gX.ac e)<|D.fi<|bd h fun _ e h=>G.ca (jj.ac e)<|nd h fun h=>kn h (fun h=>la ((fo.ls Γ k) _ _ _ _ _ h)) fun h=>la ((fo.ls Γ k) _ _ _ _ _ h)) fun h=>rt h func96))
theorem fo.ac {k:Nat} {a0:List Int} {a1:List Int} {r:(List Int)} (h:fo.f k a0 a1=some r):dU 96 0 [.row (.N .i64 a0) false,.row (.N .i64 a1) false] [] (fo.rv r) (fo.H r):=
 dV func96 fun Γ=>by unfold fo.f at h;exact (G.dr<|bv h fun h=>bv h fun h=>bv h fun h=>bv h fun h=>D.fi<|la ((fo.ls Γ k) _ _ _ _ _ h))
def bO.rv (r:(List Int)×Int):AV:= .tup (bE [.own 0 none false,.c (.int .i64 r.2)])
def bO.H (r:(List Int)×Int):List HE:=[⟨0,false,5,0,.N .u8 r.1⟩]
theorem bO.ls {r:(List Int)×Int} (Γ:Cr prog gl 61 44 0 (bO.rv r) (bO.H r)): ∀k:Nat,(∀(iM:List Int) (ov:List Int) (vI:Int) (pJ:Int),bO.l0 k iM ov vI pJ=some r→GC Γ ⟨.it,pl f61 [1,1,1,1,1,0,1,0,0],[(9,.own 0 none false),(28,.own 1 none true),(29,.c (.int .i64 vI)),(30,.c (.int .i64 pJ))],[⟨0,false,5,0,.N .u8 iM⟩,⟨1,false,3,0,.N .i64 ov⟩],16⟩)
 | 0=>(fun _ _ _ _ h=>nomatch h)
 | k+1=>(fun iM ov vI pJ h=>by unfold bO.l0 at h;exact (kn h (fun h=>nd h fun h=>nd h fun h=>nd h fun h=>lt h fun h=>la ((bO.ls Γ k) _ _ _ _ h)) fun h=>rt h func61))
theorem bO.ac {k:Nat} {a0:(List Int)×(List Int)} {a1:List Int} {a2:Bool} {r:(List Int)×Int} (h:bO.f k a0 a1 a2=some r):dU 61 0 [.obj (bE [.row (.N .i64 a0.1) false,.row (.N .i64 a0.2) false]) none 2,.row (.N .u8 a1) false,.c (.bool a2)] [] (bO.rv r) (bO.H r):=
 dV func61 fun Γ=>by unfold bO.f at h;exact (kn h (fun h=>rt h func61) fun h=>kn h (fun h=>bd h fun _ e h=>G.ca (fy.ac e)<|bd h fun _ e h=>G.cl (fo.ac e)<|la ((bO.ls Γ k) _ _ _ _ h)) fun h=>bd h fun _ e h=>G.ca (fy.ac e)<|bd h fun _ e h=>G.cl (fo.ac e)<|la ((bO.ls Γ k) _ _ _ _ h))
def az.rv (r:(List Int)):AV:= .agg (.N .u32 r) 4
def az.H (r:(List Int)):List HE:=[]
theorem az.ls {r:(List Int)} (Γ:Cr prog gl 100 27 0 (az.rv r) (az.H r)): ∀k:Nat,(∀(a0:(List Int)×(List Int)) (a2:Int) (dE:List Int) (aZ:Int),az.l0 k a0 a2 dE aZ=some r→GC Γ ⟨.it,pl f100 [1,0,1,0,0],[(0,.obj (bE [.row (.N .u32 a0.1) false,.row (.N .u32 a0.2) false]) none 2),(2,.c (.int .i64 a2)),(4,.ptr 0 none 4),(6,.ptr 1 none 4),(8,.c (.int .i64 aZ))],[⟨0,false,151,4,.N .u32 dE⟩,⟨1,false,151,4,.N .u32 (List.replicate 4 0)⟩],16⟩)
 | 0=>(fun _ _ _ _ h=>nomatch h)
 | k+1=>(fun a0 a2 dE aZ h=>by unfold az.l0 at h;exact (kn h (fun h=>G.dr<|bv h fun h=>bv h fun h=>bv h fun h=>bv h fun h=>bv h fun h=>bv h fun h=>D.fi<|la ((az.ls Γ k) _ _ _ _ h)) fun h=>rt h func100))
theorem az.ac {k:Nat} {a0:(List Int)×(List Int)} {a1:List Int} {a2:Int} {r:(List Int)} (h:az.f k a0 a1 a2=some r):dU 100 0 [.obj (bE [.row (.N .u32 a0.1) false,.row (.N .u32 a0.2) false]) none 2,.agg (.N .u32 a1) 4,.c (.int .i64 a2)] [] (az.rv r) (az.H r):=
 dV func100 fun Γ=>by unfold az.f at h;exact (la ((az.ls Γ k) _ _ _ _ h))
def dT.rv (r:Int×Int):AV:= .tup (bE [.c (.int .u32 r.1),.c (.int .u32 r.2)])
def dT.H (r:Int×Int):List HE:=[]
theorem dT.ac {k:Nat} {a0:(List Int)×(List Int)} {a1:Int} {a2:Int} {a3:Int} {r:Int×Int} (h:dT.f k a0 a1 a2 a3=some r):dU 101 0 [.obj (bE [.row (.N .u32 a0.1) false,.row (.N .u32 a0.2) false]) none 2,.c (.int .u32 a1),.c (.int .u32 a2),.c (.int .i64 a3)] [] (dT.rv r) (dT.H r):=
 dV func101 fun Γ=>by unfold dT.f at h;exact (G.dr<|bd h fun _ e h=>D.ca (aY.ac e)<|bd h fun _ e h=>D.ca (bF.ac e)<|bd h fun _ e h=>D.ca (aY.ac e)<|D.fi<|G.dr<|bv h fun h=>bv h fun h=>lt h fun h=>bv h fun h=>bv h fun h=>lt h fun h=>D.fi<|rt h func101)
def am.rv (r:(List Int)×Int):AV:= .tup (bE [.own 0 none false,.c (.int .i64 r.2)])
def am.H (r:(List Int)×Int):List HE:=[⟨0,false,5,0,.N .u8 r.1⟩]
theorem am.ls {r:(List Int)×Int} (Γ:Cr prog gl 63 138 0 (am.rv r) (am.H r)): ∀k:Nat,(∀(a0:(List Int)×(List Int)) (a1:List Int) (a2:Bool) (gx:List Int) (nP:Int),am.l0 k a0 a1 a2 gx nP=some r→GC Γ ⟨.it,pl f63 [1,1,1,0,1,0,0],[(0,.obj (bE [.row (.N .u32 a0.1) false,.row (.N .u32 a0.2) false]) none 2),(1,.row (.N .u8 a1) false),(2,.c (.bool a2)),(8,.ptr 0 none 4),(22,.c (.int .i64 nP))],[⟨0,false,151,4,.N .u32 gx⟩],16⟩)∧(∀(a0:(List Int)×(List Int)) (eZ:List Int) (iu:Int),am.l1 k a0 eZ iu=some r→GC Γ ⟨.it,pl f63 [1,1,1,1,0,1,0,1,0,1,0,0],[(0,.obj (bE [.row (.N .u32 a0.1) false,.row (.N .u32 a0.2) false]) none 2),(8,.ptr 0 none 4),(10,.c (.int .i64 iu))],[⟨0,false,151,4,.N .u32 eZ⟩],16⟩)∧(∀(a0:(List Int)×(List Int)) (jL:List Int) (uJ:Int),am.l2 k a0 jL uJ=some r→GC Γ ⟨.it,pl f63 [1,1,1,1,0,1,1,1,0,1,0,0],[(0,.obj (bE [.row (.N .u32 a0.1) false,.row (.N .u32 a0.2) false]) none 2),(8,.ptr 0 none 4),(87,.c (.int .i64 uJ))],[⟨0,false,151,4,.N .u32 jL⟩],16⟩)∧(∀(qY:List Int) (sK:List Int) (pk:Int),am.l3 k qY sK pk=some r→GC Γ ⟨.it,pl f63 [1,1,1,1,1,1,0,1,0,0],[(16,.own 0 none false),(128,.agg (.N .u32 sK) 4),(129,.c (.int .i64 pk))],[⟨0,false,5,0,.N .u8 qY⟩],16⟩)
 | 0=>⟨(fun _ _ _ _ _ h=>nomatch h),(fun _ _ _ h=>nomatch h),(fun _ _ _ h=>nomatch h),(fun _ _ _ h=>nomatch h)⟩
 | k+1=>⟨(fun a0 a1 a2 gx nP h=>by unfold am.l0 at h;exact (kn h (fun h=>nd h fun h=>nd h fun h=>nd h fun h=>bd h fun _ e h=>G.ca (fj.ac e)<|nd h fun h=>nd h fun h=>la ((am.ls Γ k).1 _ _ _ _ _ h)) fun h=>kn h (fun h=>bd h fun _ e h=>G.ca (az.ac e)<|la ((am.ls Γ k).2.1 _ _ _ h)) fun h=>bd h fun _ e h=>G.ca (az.ac e)<|la ((am.ls Γ k).2.2.1 _ _ _ h))),(fun a0 eZ iu h=>by unfold am.l1 at h;exact (kn h (fun h=>bd h fun _ e h=>G.ca (dT.ac e)<|G.dr<|bd h fun _ e h=>D.ca (bF.ac e)<|bd h fun _ e h=>D.ca (bF.ac e)<|D.fi<|la ((am.ls Γ k).2.1 _ _ _ h)) fun h=>bd h fun _ e h=>G.ca (az.ac e)<|la ((am.ls Γ k).2.2.2 _ _ _ h))),(fun a0 jL uJ h=>by unfold am.l2 at h;exact (kn h (fun h=>bd h fun _ e h=>G.ca (dT.ac e)<|G.dr<|bd h fun _ e h=>D.ca (bF.ac e)<|bd h fun _ e h=>D.ca (bF.ac e)<|D.fi<|la ((am.ls Γ k).2.2.1 _ _ _ h)) fun h=>bd h fun _ e h=>G.ca (az.ac e)<|la ((am.ls Γ k).2.2.2 _ _ _ h))),(fun qY sK pk h=>by unfold am.l3 at h;exact (kn h (fun h=>nd h fun h=>nd h fun h=>bd h fun _ e h=>G.ca (dX.ac e)<|nd h fun h=>la ((am.ls Γ k).2.2.2 _ _ _ h)) fun h=>rt h func63))⟩
theorem am.ac {k:Nat} {a0:(List Int)×(List Int)} {a1:List Int} {a2:Bool} {r:(List Int)×Int} (h:am.f k a0 a1 a2=some r):dU 63 0 [.obj (bE [.row (.N .u32 a0.1) false,.row (.N .u32 a0.2) false]) none 2,.row (.N .u8 a1) false,.c (.bool a2)] [] (am.rv r) (am.H r):=
 dV func63 fun Γ=>by unfold am.f at h;exact (kn h (fun h=>rt h func63) fun h=>la ((am.ls Γ k).1 _ _ _ _ _ h))
def aG.rv (r:(List Int)×Int):AV:= .tup (bE [.own 0 none true,.c (.int .i64 r.2)])
def aG.H (r:(List Int)×Int):List HE:=[⟨0,false,5,0,.N .u8 r.1⟩]
theorem aG.ls {r:(List Int)×Int} (Γ:Cr prog gl 65 134 0 (aG.rv r) (aG.H r)): ∀k:Nat,(∀(a0:(List (List Int))×(List (List Int))) (a1:List Int),aG.l0 k a0 a1=some r→GC Γ ⟨.it,pl f65 [1,0,1,1,1,1,1,1,1,1,1],[(0,.obj (bE [.row (.N .u8 (rr a0.1 0)) false,.row (.N .u8 (rr a0.1 1)) false,.row (.N .u8 (rr a0.1 2)) false,.row (.N .u8 (rr a0.1 3)) false,.row (.R .u8 a0.2) false]) none 5),(1,.row (.N .u8 a1) false),(8,.c (.int .i64 (ak ((a0.2.length:Int)-1))))],[],16⟩)∧(∀(a0:(List (List Int))×(List (List Int))) (jF:List Int) (je:Int),aG.l1 k a0 jF je=some r→GC Γ ⟨.it,pl f65 [1,0,1,1,1,1,0,0,0],[(0,.obj (bE [.row (.N .u8 (rr a0.1 0)) false,.row (.N .u8 (rr a0.1 1)) false,.row (.N .u8 (rr a0.1 2)) false,.row (.N .u8 (rr a0.1 3)) false,.row (.R .u8 a0.2) false]) none 5),(1,.row (.N .u8 jF) false),(8,.c (.int .i64 (ak ((a0.2.length:Int)-1)))),(9,.c (.int .i64 je))],[],16⟩)∧(∀(a0:(List (List Int))×(List (List Int))) (vK:List Int) (vd:Int),aG.l2 k a0 vK vd=some r→GC Γ ⟨.it,pl f65 [1,0,1,1,1,1,1,1,1,1,1,1,1,0,1,0,0],[(0,.obj (bE [.row (.N .u8 (rr a0.1 0)) false,.row (.N .u8 (rr a0.1 1)) false,.row (.N .u8 (rr a0.1 2)) false,.row (.N .u8 (rr a0.1 3)) false,.row (.R .u8 a0.2) false]) none 5),(1,.own 0 none true),(9,.c (.int .i64 vd))],[⟨0,false,5,0,.N .u8 vK⟩],16⟩)
 | 0=>⟨(fun _ _ h=>nomatch h),(fun _ _ _ h=>nomatch h),(fun _ _ _ h=>nomatch h)⟩
 | k+1=>⟨(fun a0 a1 h=>by unfold aG.l0 at h;exact (nd h fun h=>nd h fun h=>bd h fun _ e h=>G.ca (bw.ac e)<|G.dr<|bd h fun _ e h=>D.cl (bz.ac e)<|bv h fun h=>bv h fun h=>bd h fun _ e h=>D.cl (bw.ac e)<|D.fi<|la ((aG.ls Γ k).2.2 _ _ _ h))),(fun a0 jF je h=>by unfold aG.l1 at h;exact (kn h (fun h=>G.dr<|bv h fun h=>bv h fun h=>bd h fun _ e h=>D.ca (eg.ac e)<|D.fi<|la ((aG.ls Γ k).2.1 _ _ _ h)) fun h=>nd h fun h=>nd h fun h=>bd h fun _ e h=>G.ca (bw.ac e)<|G.dr<|bd h fun _ e h=>D.cl (bz.ac e)<|bv h fun h=>bv h fun h=>bd h fun _ e h=>D.cl (bw.ac e)<|D.fi<|rt h func65)),(fun a0 vK vd h=>by unfold aG.l2 at h;exact (kn h (fun h=>bd h fun _ e h=>G.cl (fJ.ac e)<|G.dr<|bd h fun _ e h=>D.cl (bz.ac e)<|bv h fun h=>bv h fun h=>bd h fun _ e h=>D.cl (bw.ac e)<|D.fi<|la ((aG.ls Γ k).2.2 _ _ _ h)) fun h=>rt h func65))⟩
theorem aG.ac {k:Nat} {a0:(List (List Int))×(List (List Int))} {a1:List Int} {a2:Bool} {r:(List Int)×Int} (h:aG.f k a0 a1 a2=some r):dU 65 0 [.obj (bE [.row (.N .u8 (rr a0.1 0)) false,.row (.N .u8 (rr a0.1 1)) false,.row (.N .u8 (rr a0.1 2)) false,.row (.N .u8 (rr a0.1 3)) false,.row (.R .u8 a0.2) false]) none 5,.row (.N .u8 a1) false,.c (.bool a2)] [] (aG.rv r) (aG.H r):=
 dV func65 fun Γ=>by unfold aG.f at h;exact (kn h (fun h=>rt h func65) fun h=>kn h (fun h=>la ((aG.ls Γ k).1 _ _ h)) fun h=>la ((aG.ls Γ k).2.1 _ _ _ h))
def fY.rv (r:Int):AV:= .c (.int .u32 r)
def fY.H (r:Int):List HE:=[]
theorem fY.ac {k:Nat} {a0:Int} {a1:Int} {r:Int} (h:fY.f k a0 a1=some r):dU 158 0 [.c (.int .u32 a0),.c (.int .u32 a1)] [] (fY.rv r) (fY.H r):=
 dV func158 fun Γ=>by unfold fY.f at h;exact (lt h fun h=>rt h func158)
def bC.rv (r:Int×Int):AV:= .tup (bE [.c (.int .u32 r.1),.c (.int .u32 r.2)])
def bC.H (r:Int×Int):List HE:=[]
theorem bC.ls {r:Int×Int} (Γ:Cr prog gl 113 82 0 (bC.rv r) (bC.H r)): ∀k:Nat,(∀(a0:(List Int)×Int) (a3:Bool) (di:Int) (dH:Int) (b9:Int) (dd:Int),bC.l0 k a0 a3 di dH b9 dd=some r→GC Γ ⟨.it,pl f113 [1,0,1,1,1],[(0,.obj (bE [.row (.N .u32 a0.1) false,.c (.int .i64 a0.2)]) none 2),(1,.c (.int .u32 di)),(2,.c (.int .u32 dH)),(3,.c (.bool a3)),(10,.c (.int .u32 b9)),(11,.c (.int .i64 dd))],[],16⟩)
 | 0=>(fun _ _ _ _ _ _ h=>nomatch h)
 | k+1=>(fun a0 a3 di dH b9 dd h=>by unfold bC.l0 at h;exact (kn h (fun h=>rt h func113) fun h=>kn h (fun h=>nd h fun h=>nd h fun h=>bd h fun _ e h=>G.ca (fY.ac e)<|nd h fun h=>nd h fun h=>lt h fun h=>bd h fun _ e h=>G.ca (fY.ac e)<|la ((bC.ls Γ k) _ _ _ _ _ _ h)) fun h=>nd h fun h=>nd h fun h=>bd h fun _ e h=>G.ca (fY.ac e)<|nd h fun h=>nd h fun h=>lt h fun h=>bd h fun _ e h=>G.ca (fY.ac e)<|la ((bC.ls Γ k) _ _ _ _ _ _ h)))
theorem bC.ac {k:Nat} {a0:(List Int)×Int} {a1:Int} {a2:Int} {a3:Bool} {r:Int×Int} (h:bC.f k a0 a1 a2 a3=some r):dU 113 0 [.obj (bE [.row (.N .u32 a0.1) false,.c (.int .i64 a0.2)]) none 2,.c (.int .u32 a1),.c (.int .u32 a2),.c (.bool a3)] [] (bC.rv r) (bC.H r):=
 dV func113 fun Γ=>by unfold bC.f at h;exact (kn h (fun h=>la ((bC.ls Γ k) _ _ _ _ _ _ h)) fun h=>la ((bC.ls Γ k) _ _ _ _ _ _ h))
def eh.rv (r:(List Int)):AV:= .own 0 none false
def eh.H (r:(List Int)):List HE:=[⟨0,false,5,0,.N .u8 r⟩]
theorem eh.ac {k:Nat} {a0:Int} {a1:Int} {a2:Bool} {r:(List Int)} (h:eh.f k a0 a1 a2=some r):dU 116 0 [.c (.int .u32 a0),.c (.int .u32 a1),.c (.bool a2)] [] (eh.rv r) (eh.H r):=
 dV func116 fun Γ=>by unfold eh.f at h;exact (kn h (fun h=>bd h fun _ e h=>G.ca (dX.ac e)<|bd h fun _ e h=>G.ca (dX.ac e)<|bd h fun _ e h=>G.cl (ai.ac e)<|rt h func116) fun h=>bd h fun _ e h=>G.ca (fX.ac e)<|bd h fun _ e h=>G.ca (fX.ac e)<|bd h fun _ e h=>G.cl (ai.ac e)<|rt h func116)
def em.rv (r:(List Int)):AV:= .own 0 none false
def em.H (r:(List Int)):List HE:=[⟨0,false,150,0,.N .u32 r⟩]
theorem em.ac {k:Nat} {a1:Int} {r:(List Int)} (h:em.f k a1=some r):dU 195 0 [.c (.slice none 0 0),.c (.int .i64 a1)] [] (em.rv r) (em.H r):=
 dV func195 fun Γ=>by unfold em.f at h;exact (kn h (fun h=>nomatch h) fun h=>kn h (fun h=>nd h fun h=>nd h fun h=>nd h fun h=>nd h fun h=>nd h fun h=>nd h fun h=>rb (t:=4)<|rt h func195) fun h=>rt h func195)
def aC.rv (r:(List Int)):AV:= .own 0 none false
def aC.H (r:(List Int)):List HE:=[⟨0,false,150,0,.N .u32 r⟩]
theorem aC.ls {r:(List Int)} (Γ:Cr prog gl 159 36 0 (aC.rv r) (aC.H r)): ∀k:Nat,(∀(a0:List (List Int)) (eY:Int) (dd:Int),aC.l0 k a0 eY dd=some r→GC Γ ⟨.it,pl f159 [1,1,0,1,0,0],[(0,.row (.R .u32 a0) false),(3,.c (.int .i64 eY)),(9,.row (.R .u32 a0) false),(10,.c (.int .i64 (a0.length:Int))),(11,.c (.int .i64 dd))],[],16⟩)∧(∀(a0:List (List Int)) (nO:List Int) (lN:Int),aC.l1 k a0 nO lN=some r→GC Γ ⟨.it,pl f159 [1,1,1,1,0,1,0,0],[(6,.own 0 none false),(25,.row (.R .u32 a0) false),(26,.c (.int .i64 (a0.length:Int))),(27,.c (.int .i64 lN))],[⟨0,false,150,0,.N .u32 nO⟩],16⟩)
 | 0=>⟨(fun _ _ _ h=>nomatch h),(fun _ _ _ h=>nomatch h)⟩
 | k+1=>⟨(fun a0 eY dd h=>by unfold aC.l0 at h;exact (kn h (fun h=>nd h fun h=>nd h fun h=>kn h (fun h=>nomatch h) fun h=>la ((aC.ls Γ k).1 _ _ _ h)) fun h=>bd h fun _ e h=>G.ca (em.ac e)<|la ((aC.ls Γ k).2 _ _ _ h))),(fun a0 nO lN h=>by unfold aC.l1 at h;exact (kn h (fun h=>nd h fun h=>nd h fun h=>nd h fun h=>la ((aC.ls Γ k).2 _ _ _ h)) fun h=>rt h func159))⟩
theorem aC.ac {k:Nat} {a0:List (List Int)} {r:(List Int)} (h:aC.f k a0=some r):dU 159 0 [.row (.R .u32 a0) false] [] (aC.rv r) (aC.H r):=
 dV func159 fun Γ=>by unfold aC.f at h;exact (la ((aC.ls Γ k).1 _ _ _ h))
def jM.rv (r:(List ByteArray)):AV:= .agg (.S r) 8
def jM.H (r:(List ByteArray)):List HE:=[]
theorem jM.ac {k:Nat} {r:(List ByteArray)} (h:jM.f k=some r):dU 196 0 [] [] (jM.rv r) (jM.H r):=
 dV func196 fun Γ=>by unfold jM.f at h;exact (lt h fun h=>rt h func196)
def jr.rv (r:Int):AV:= .c (.int .u32 r)
def jr.H (r:Int):List HE:=[]
theorem jr.ac {k:Nat} {a0:Int} {r:Int} (h:jr.f k a0=some r):dU 197 0 [.c (.int .u8 a0)] [] (jr.rv r) (jr.H r):=
 dV func197 fun Γ=>by unfold jr.f at h;exact (kn h (fun h=>rt h func197) fun h=>rt h func197)
def iD.rv (r:Int):AV:= .c (.int .u32 r)
def iD.H (r:Int):List HE:=[]
theorem iD.ls {r:Int} (Γ:Cr prog gl 160 32 0 (iD.rv r) (iD.H r)): ∀k:Nat,(∀(a0:Int) (a1:Int) (kF:(List ByteArray)) (cq:Int) (iV:Int),iD.l0 k a0 a1 kF cq iV=some r→GC Γ ⟨.it,pl f160 [1,1,1,0,1,0,0],[(0,.c (.int .u32 (fv (a0+a1)))),(5,.c (.int .u32 cq)),(11,.agg (.S kF) 8),(12,.c (.int .i64 iV))],[],16⟩)
 | 0=>(fun _ _ _ _ _ h=>nomatch h)
 | k+1=>(fun a0 a1 kF cq iV h=>by unfold iD.l0 at h;exact (kn h (fun h=>nd h fun h=>nd h fun h=>nd h fun h=>nd h fun h=>nd h fun h=>lt h fun h=>bd h fun _ e h=>G.ca (jr.ac e)<|nd h fun h=>la ((iD.ls Γ k) _ _ _ _ _ h)) fun h=>bd h fun _ e h=>G.ca (bF.ac e)<|rt h func160))
theorem iD.ac {k:Nat} {a0:Int} {a1:Int} {r:Int} (h:iD.f k a0 a1=some r):dU 160 0 [.c (.int .u32 a0),.c (.int .u32 a1)] [] (iD.rv r) (iD.H r):=
 dV func160 fun Γ=>by unfold iD.f at h;exact (bd h fun _ e h=>G.ca (jM.ac e)<|la ((iD.ls Γ k) _ _ _ _ _ h))
def bU.rv (r:Int×Int):AV:= .tup (bE [.c (.int .u32 r.1),.c (.int .u32 r.2)])
def bU.H (r:Int×Int):List HE:=[]
theorem bU.ls {r:Int×Int} (Γ:Cr prog gl 114 54 0 (bU.rv r) (bU.H r)): ∀k:Nat,(∀(di:Int) (dH:Int) (qZ:List Int) (vL:Int) (rG:Int),bU.l0 k di dH qZ vL rG=some r→GC Γ ⟨.it,pl f114 [1,1,1,1,1,0,1,0,0],[(1,.c (.int .u32 di)),(2,.c (.int .u32 dH)),(39,.own 0 none false),(40,.c (.int .i64 vL)),(41,.c (.int .i64 rG))],[⟨0,false,150,0,.N .u32 qZ⟩],16⟩)
 | 0=>(fun _ _ _ _ _ h=>nomatch h)
 | k+1=>(fun di dH qZ vL rG h=>by unfold bU.l0 at h;exact (kn h (fun h=>nd h fun h=>nd h fun h=>bd h fun _ e h=>G.ca (iD.ac e)<|la ((bU.ls Γ k) _ _ _ _ _ h)) fun h=>rt h func114))
theorem bU.ac {k:Nat} {a0:(List Int)×Int} {a1:Int} {a2:Int} {a3:Bool} {r:Int×Int} (h:bU.f k a0 a1 a2 a3=some r):dU 114 0 [.obj (bE [.row (.N .u32 a0.1) false,.c (.int .i64 a0.2)]) none 2,.c (.int .u32 a1),.c (.int .u32 a2),.c (.bool a3)] [] (bU.rv r) (bU.H r):=
 dV func114 fun Γ=>by unfold bU.f at h;exact (bd h fun _ e h=>G.ca (bI.ac e)<|bd h fun _ e h=>G.ca (aw.ac e)<|G.dr<|bd h fun _ e h=>D.cl (aC.ac e)<|D.fi<|kn h (fun h=>bd h fun _ e h=>G.ca (aw.ac e)<|la ((bU.ls Γ k) _ _ _ _ _ h)) fun h=>la ((bU.ls Γ k) _ _ _ _ _ h))
def bp.rv (r:Int×Int):AV:= .tup (bE [.c (.int .u32 r.1),.c (.int .u32 r.2)])
def bp.H (r:Int×Int):List HE:=[]
theorem bp.ls {r:Int×Int} (Γ:Cr prog gl 115 101 0 (bp.rv r) (bp.H r)): ∀k:Nat,(∀(a0:(List Int)×Int) (di:Int) (dH:Int) (dd:Int),bp.l0 k a0 di dH dd=some r→GC Γ ⟨.it,pl f115 [1,1,0,1,0,1,0,1,0,0],[(1,.c (.int .u32 di)),(2,.c (.int .u32 dH)),(10,.row (.N .u32 a0.1) false),(11,.c (.int .i64 dd))],[],16⟩)∧(∀(a0:(List Int)×Int) (jF:Int) (lQ:Int) (iZ:Int),bp.l1 k a0 jF lQ iZ=some r→GC Γ ⟨.it,pl f115 [1,1,1,0,1,0,0],[(1,.c (.int .u32 jF)),(2,.c (.int .u32 lQ)),(10,.row (.N .u32 a0.1) false),(12,.c (.int .i64 iZ))],[],16⟩)
 | 0=>⟨(fun _ _ _ _ h=>nomatch h),(fun _ _ _ _ h=>nomatch h)⟩
 | k+1=>⟨(fun a0 di dH dd h=>by unfold bp.l0 at h;exact (kn h (fun h=>G.dr<|bd h fun _ e h=>D.ca (bF.ac e)<|bv h fun h=>bv h fun h=>D.fi<|G.dr<|bd h fun _ e h=>D.ca (bF.ac e)<|bv h fun h=>bv h fun h=>D.fi<|la ((bp.ls Γ k).1 _ _ _ _ h)) fun h=>rt h func115)),(fun a0 jF lQ iZ h=>by unfold bp.l1 at h;exact (kn h (fun h=>nd h fun h=>nd h fun h=>bd h fun _ e h=>G.ca (bF.ac e)<|nd h fun h=>nd h fun h=>bd h fun _ e h=>G.ca (bF.ac e)<|la ((bp.ls Γ k).2 _ _ _ _ h)) fun h=>G.dr<|bv h fun h=>bv h fun h=>D.fi<|rt h func115))⟩
theorem bp.ac {k:Nat} {a0:(List Int)×Int} {a1:Int} {a2:Int} {a3:Bool} {r:Int×Int} (h:bp.f k a0 a1 a2 a3=some r):dU 115 0 [.obj (bE [.row (.N .u32 a0.1) false,.c (.int .i64 a0.2)]) none 2,.c (.int .u32 a1),.c (.int .u32 a2),.c (.bool a3)] [] (bp.rv r) (bp.H r):=
 dV func115 fun Γ=>by unfold bp.f at h;exact (kn h (fun h=>G.dr<|bv h fun h=>bv h fun h=>D.fi<|la ((bp.ls Γ k).1 _ _ _ _ h)) fun h=>la ((bp.ls Γ k).2 _ _ _ _ h))
def cZ.rv (r:(List Int)×Int):AV:= .tup (bE [.own 0 none false,.c (.int .i64 r.2)])
def cZ.H (r:(List Int)×Int):List HE:=[⟨0,false,5,0,.N .u8 r.1⟩]
theorem cZ.ac {k:Nat} {a0:(List Int)×Int} {a1:List Int} {a2:Bool} {r:(List Int)×Int} (h:cZ.f k a0 a1 a2=some r):dU 67 0 [.obj (bE [.row (.N .u32 a0.1) false,.c (.int .i64 a0.2)]) none 2,.row (.N .u8 a1) false,.c (.bool a2)] [] (cZ.rv r) (cZ.H r):=
 dV func67 fun Γ=>by unfold cZ.f at h;exact (kn h (fun h=>rt h func67) fun h=>bd h fun _ e h=>G.ca (cY.ac e)<|G.dr<|bv h fun h=>bv h fun h=>D.fi<|kn h (fun h=>bd h fun _ e h=>G.ca (bC.ac e)<|bd h fun _ e h=>G.ca (eh.ac e)<|rt h func67) fun h=>kn h (fun h=>bd h fun _ e h=>G.ca (bU.ac e)<|bd h fun _ e h=>G.ca (eh.ac e)<|rt h func67) fun h=>kn h (fun h=>bd h fun _ e h=>G.ca (bp.ac e)<|bd h fun _ e h=>G.ca (eh.ac e)<|rt h func67) fun h=>bd h fun _ e h=>G.ca (eh.ac e)<|rt h func67)
def bK.rv (r:(List Int)×Int):AV:= .tup (bE [.row (.N .u8 r.1) false,.c (.int .i64 r.2)])
def bK.H (r:(List Int)×Int):List HE:=[]
theorem bK.ac {k:Nat} {a0:Int×Tn} {a1:List Int} {r:(List Int)×Int} (h:bK.f k a0 a1=some r):dU 21 0 [.obj (bE [.c (.int .i64 a0.1),.fs (Tn.F a0.2) (Tn.C a0.2)]) none 2,.row (.N .u8 a1) false] [] (bK.rv r) (bK.H r):=
 by obtain ⟨Qh,DY⟩:=a0;exact dV func21 fun Γ=>by unfold bK.f at h;exact (match DY,h with | .m0 z_1,h=>bd h fun _ e h=>G.ca (bR.ac e)<|rt h func21 | .m1 z_3,h=>bd h fun _ e h=>G.ca (bO.ac e)<|rt h func21 | .m2 z_5,h=>bd h fun _ e h=>G.ca (am.ac e)<|rt h func21 | .m3 z_7,h=>bd h fun _ e h=>G.ca (aG.ac e)<|rt h func21 | .m4 z_9,h=>bd h fun _ e h=>G.ca (cZ.ac e)<|rt h func21)
def gg.rv (r:(List Int)):AV:= .own 0 none false
def gg.H (r:(List Int)):List HE:=[⟨0,false,5,0,.N .u8 r⟩]
theorem gg.ls {r:(List Int)} (Γ:Cr prog gl 162 28 0 (gg.rv r) (gg.H r)): ∀k:Nat,(∀(cF:List Int) (aP:Int),gg.l0 k cF aP=some r→GC Γ ⟨.it,pl f162 [1,0,1,1,1],[(3,.own 0 none false),(4,.c (.int .i64 aP))],[⟨0,false,5,0,.N .u8 cF⟩],16⟩)
 | 0=>(fun _ _ h=>nomatch h)
 | k+1=>(fun cF aP h=>by unfold gg.l0 at h;exact (kn h (fun h=>nd h fun h=>nd h fun h=>nd h fun h=>nd h fun h=>lt h fun h=>nd h fun h=>nd h fun h=>kn h (fun h=>la ((gg.ls Γ k) _ _ h)) fun h=>rt h func162) fun h=>rt h func162))
theorem gg.ac {k:Nat} {a0:List Int} {r:(List Int)} (h:gg.f k a0=some r):dU 162 0 [.row (.N .u8 a0) false] [] (gg.rv r) (gg.H r):=
 dV func162 fun Γ=>by unfold gg.f at h;exact (nd h fun h=>nd h fun h=>nd h fun h=>la ((gg.ls Γ k) _ _ h))
def fb.rv (r:((Int×Tn)×Int×Bool×(List Int)×(List Int)×(List Int))):AV:= .tup (.nil)
def fb.H (r:((Int×Tn)×Int×Bool×(List Int)×(List Int)×(List Int))):List HE:=[⟨0,false,100,6,bE [.obj (bE [.c (.int .i64 r.1.1),.fs (Tn.F r.1.2) (Tn.C r.1.2)]) none 2,.c (.int .i64 r.2.1),.c (.bool r.2.2.1),.row (.N .u8 r.2.2.2.1) false,.row (.N .u8 r.2.2.2.2.1) false,.c (.slice none 0 0)]⟩]
theorem fb.ac {k:Nat} {a0:(Int×Tn)×Int×Bool×(List Int)×(List Int)×(List Int)} {r:((Int×Tn)×Int×Bool×(List Int)×(List Int)×(List Int))} (h:fb.f k a0=some r):dU 120 1 [.ptr 0 none 6] [⟨0,false,100,6,bE [.obj (bE [.c (.int .i64 a0.1.1),.fs (Tn.F a0.1.2) (Tn.C a0.1.2)]) none 2,.c (.int .i64 a0.2.1),.c (.bool a0.2.2.1),.row (.N .u8 a0.2.2.2.1) false,.row (.N .u8 a0.2.2.2.2.1) false,.any]⟩] (fb.rv r) (fb.H r):=
 dV func120 fun Γ=>by unfold fb.f at h;exact (G.dr<|bd h fun _ e h=>D.ca (bK.ac e)<|D.fi<|kn h (fun h=>bd h fun _ e h=>G.ca (an.ac e)<|rt h func120) fun h=>kn h (fun h=>bd h fun _ e h=>G.ca (gg.ac e)<|rt h func120) fun h=>rt h func120)
def dL.rv (r:Int×((Int×Tn)×Int×Bool×(List Int)×(List Int)×(List Int))×Bool):AV:= .c (.int .u8 r.1)
def dL.H (r:Int×((Int×Tn)×Int×Bool×(List Int)×(List Int)×(List Int))×Bool):List HE:=[⟨0,false,100,6,bE [.obj (bE [.c (.int .i64 r.2.1.1.1),.fs (Tn.F r.2.1.1.2) (Tn.C r.2.1.1.2)]) none 2,.c (.int .i64 r.2.1.2.1),.c (.bool r.2.1.2.2.1),.row (.N .u8 r.2.1.2.2.2.1) false,.row (.N .u8 r.2.1.2.2.2.2.1) false,gA r.2.2 (.own 2 none false)]⟩]++gH r.2.2 [⟨2,false,5,0,.N .u8 r.2.1.2.2.2.2.2⟩]
theorem dL.ac {k:Nat} {a0:(Int×Tn)×Int×Bool×(List Int)×(List Int)×(List Int)} {a1:Int} {r:Int×((Int×Tn)×Int×Bool×(List Int)×(List Int)×(List Int))×Bool} (h:dL.f k a0 a1=some r):dU 73 2 [.ptr 0 none 6,.c (.int .u8 a1)] [⟨0,false,100,6,bE [.obj (bE [.c (.int .i64 a0.1.1),.fs (Tn.F a0.1.2) (Tn.C a0.1.2)]) none 2,.c (.int .i64 a0.2.1),.c (.bool a0.2.2.1),.row (.N .u8 a0.2.2.2.1) false,.row (.N .u8 a0.2.2.2.2.1) false,.own 1 none false]⟩,⟨1,false,5,0,.N .u8 a0.2.2.2.2.2⟩] (dL.rv r) (dL.H r):=
 dV func73 fun Γ=>by unfold dL.f at h;exact (kn h (fun h=>bd h fun _ e h=>G.ca (fb.ac e)<|nd h fun h=>nd h fun h=>kn h (fun h=>nd h fun h=>kn h (fun h=>nd h fun h=>bd h fun _ e h=>G.ca (an.ac e)<|nd h fun h=>rt h func73) fun h=>kn h (fun h=>kn h (fun h=>rt h func73) fun h=>rt h func73) fun h=>rt h func73) fun h=>nd h fun h=>kn h (fun h=>nd h fun h=>bd h fun _ e h=>G.ca (an.ac e)<|nd h fun h=>rt h func73) fun h=>kn h (fun h=>kn h (fun h=>rt h func73) fun h=>rt h func73) fun h=>rt h func73) fun h=>nd h fun h=>nd h fun h=>kn h (fun h=>nd h fun h=>kn h (fun h=>nd h fun h=>bd h fun _ e h=>G.ca (an.ac e)<|nd h fun h=>rt h func73) fun h=>kn h (fun h=>kn h (fun h=>rt h func73) fun h=>rt h func73) fun h=>rt h func73) fun h=>nd h fun h=>lt h fun h=>kn h (fun h=>nd h fun h=>bd h fun _ e h=>G.ca (an.ac e)<|nd h fun h=>rt h func73) fun h=>kn h (fun h=>kn h (fun h=>rt h func73) fun h=>rt h func73) fun h=>rt h func73)
def bV.rv (r:(List Int)×Int):AV:= .tup (bE [.row (.N .u8 r.1) false,.c (.int .i64 r.2)])
def bV.H (r:(List Int)×Int):List HE:=[]
theorem bV.ac {k:Nat} {a0:Int×Tn} {a1:List Int} {r:(List Int)×Int} (h:bV.f k a0 a1=some r):dU 22 0 [.obj (bE [.c (.int .i64 a0.1),.fs (Tn.F a0.2) (Tn.C a0.2)]) none 2,.row (.N .u8 a1) false] [] (bV.rv r) (bV.H r):=
 by obtain ⟨Qh,DY⟩:=a0;exact dV func22 fun Γ=>by unfold bV.f at h;exact (match DY,h with | .m0 z_1,h=>bd h fun _ e h=>G.ca (bR.ac e)<|rt h func22 | .m1 z_3,h=>bd h fun _ e h=>G.ca (bO.ac e)<|rt h func22 | .m2 z_5,h=>bd h fun _ e h=>G.ca (am.ac e)<|rt h func22 | .m3 z_7,h=>bd h fun _ e h=>G.ca (aG.ac e)<|rt h func22 | .m4 z_9,h=>bd h fun _ e h=>G.ca (cZ.ac e)<|rt h func22)
def fp.rv (r:(List Int)×((Int×Tn)×Int×Bool×(List Int)×(List Int)×(List Int))):AV:= .row (.N .u8 r.1) false
def fp.H (r:(List Int)×((Int×Tn)×Int×Bool×(List Int)×(List Int)×(List Int))):List HE:=[⟨0,false,100,6,bE [.obj (bE [.c (.int .i64 r.2.1.1),.fs (Tn.F r.2.1.2) (Tn.C r.2.1.2)]) none 2,.c (.int .i64 r.2.2.1),.c (.bool r.2.2.2.1),.row (.N .u8 r.2.2.2.2.1) false,.row (.N .u8 r.2.2.2.2.2.1) false,.c (.slice none 0 0)]⟩]
theorem fp.ac {k:Nat} {a0:(Int×Tn)×Int×Bool×(List Int)×(List Int)×(List Int)} {a1:List Int} {r:(List Int)×((Int×Tn)×Int×Bool×(List Int)×(List Int)×(List Int))} (h:fp.f k a0 a1=some r):dU 74 1 [.ptr 0 none 6,.row (.N .u8 a1) false] [⟨0,false,100,6,bE [.obj (bE [.c (.int .i64 a0.1.1),.fs (Tn.F a0.1.2) (Tn.C a0.1.2)]) none 2,.c (.int .i64 a0.2.1),.c (.bool a0.2.2.1),.row (.N .u8 a0.2.2.2.1) false,.row (.N .u8 a0.2.2.2.2.1) false,.c (.slice none 0 0)]⟩] (fp.rv r) (fp.H r):=
 dV func74 fun Γ=>by unfold fp.f at h;exact (kn h (fun h=>kn h (fun h=>bd h fun _ e h=>G.ca (bV.ac e)<|rt h func74) fun h=>kn h (fun h=>bd h fun _ e h=>G.ca (bK.ac e)<|rt h func74) fun h=>kn h (fun h=>bd h fun _ e h=>G.ca (bV.ac e)<|bd h fun _ e h=>G.ca (bw.ac e)<|bd h fun _ e h=>G.ca (an.ac e)<|rt h func74) fun h=>bd h fun _ e h=>G.ca (bw.ac e)<|bd h fun _ e h=>G.ca (bK.ac e)<|bd h fun _ e h=>G.ca (an.ac e)<|rt h func74) fun h=>kq (v:=false)<|kn h (fun h=>bd h fun _ e h=>G.ca (bK.ac e)<|rt h func74) fun h=>kn h (fun h=>bd h fun _ e h=>G.ca (bV.ac e)<|bd h fun _ e h=>G.ca (bw.ac e)<|bd h fun _ e h=>G.ca (an.ac e)<|rt h func74) fun h=>bd h fun _ e h=>G.ca (bw.ac e)<|bd h fun _ e h=>G.ca (bK.ac e)<|bd h fun _ e h=>G.ca (an.ac e)<|rt h func74)
def fc.rv (r:Int×((Int×Tn)×Int×Bool×(List Int)×(List Int)×(List Int))×Bool):AV:= .c (.int .u8 r.1)
def fc.H (r:Int×((Int×Tn)×Int×Bool×(List Int)×(List Int)×(List Int))×Bool):List HE:=[⟨0,false,100,6,bE [.obj (bE [.c (.int .i64 r.2.1.1.1),.fs (Tn.F r.2.1.1.2) (Tn.C r.2.1.1.2)]) none 2,.c (.int .i64 r.2.1.2.1),.c (.bool r.2.1.2.2.1),.row (.N .u8 r.2.1.2.2.2.1) false,.row (.N .u8 r.2.1.2.2.2.2.1) false,gA r.2.2 (.own 1 none false)]⟩]++gH r.2.2 [⟨1,false,5,0,.N .u8 r.2.1.2.2.2.2.2⟩]
theorem fc.ac {k:Nat} {a0:(Int×Tn)×Int×Bool×(List Int)×(List Int)×(List Int)} {a1:Int} {r:Int×((Int×Tn)×Int×Bool×(List Int)×(List Int)×(List Int))×Bool} (h:fc.f k a0 a1=some r):dU 73 1 [.ptr 0 none 6,.c (.int .u8 a1)] [⟨0,false,100,6,bE [.obj (bE [.c (.int .i64 a0.1.1),.fs (Tn.F a0.1.2) (Tn.C a0.1.2)]) none 2,.c (.int .i64 a0.2.1),.c (.bool a0.2.2.1),.row (.N .u8 a0.2.2.2.1) false,.row (.N .u8 a0.2.2.2.2.1) false,.any]⟩] (fc.rv r) (fc.H r):=
 dV func73 fun Γ=>by unfold fc.f at h;exact (kn h (fun h=>bd h fun _ e h=>G.ca (fb.ac e)<|nd h fun h=>nd h fun h=>kn h (fun h=>nd h fun h=>kn h (fun h=>nd h fun h=>bd h fun _ e h=>G.ca (an.ac e)<|nd h fun h=>rt h func73) fun h=>kn h (fun h=>kn h (fun h=>rt h func73) fun h=>rt h func73) fun h=>rt h func73) fun h=>nd h fun h=>kn h (fun h=>nd h fun h=>bd h fun _ e h=>G.ca (an.ac e)<|nd h fun h=>rt h func73) fun h=>kn h (fun h=>kn h (fun h=>rt h func73) fun h=>rt h func73) fun h=>rt h func73) fun h=>nd h fun h=>nd h fun h=>kn h (fun h=>nomatch h) fun h=>nomatch h)
def ax.rv (r:(List Int)×Int):AV:= .tup (bE [.own 1 none false,.c (.int .i64 r.2)])
def ax.H (r:(List Int)×Int):List HE:=[⟨1,false,5,0,.N .u8 r.1⟩]
theorem ax.ls {r:(List Int)×Int} (Γ:Cr prog gl 33 44 1 (ax.rv r) (ax.H r)): ∀k:Nat,(∀(fm:Int) (x0h_0_0_0:Int) (x0h_0_1_0:Tn) (x0h_1_0:Int) (x0h_2_0:Bool) (x0h_3_0:List Int) (x0h_4_0:List Int) (di:List Int) (dC:List Int),ax.l0 k fm x0h_0_0_0 x0h_0_1_0 x0h_1_0 x0h_2_0 x0h_3_0 x0h_4_0 di dC=some r→GC Γ ⟨.it,pl f33 [1,0,1,1,1,1],[(0,.ptr 1 none 6),(1,.row (.N .u8 di) false),(6,.c (.int .i64 fm)),(7,.own 2 none false)],[⟨1,false,100,6,bE [.obj (bE [.c (.int .i64 x0h_0_0_0),.fs (Tn.F x0h_0_1_0) (Tn.C x0h_0_1_0)]) none 2,.c (.int .i64 x0h_1_0),.c (.bool x0h_2_0),.row (.N .u8 x0h_3_0) false,.row (.N .u8 x0h_4_0) false,.c (.slice none 0 0)]⟩,⟨2,false,5,0,.N .u8 dC⟩],16⟩)∧(∀(fm:Int) (x0h_0_0_1:Int) (x0h_0_1_1:Tn) (x0h_1_1:Int) (x0h_2_1:Bool) (x0h_3_1:List Int) (x0h_4_1:List Int) (jF:List Int) (mq:List Int),ax.l1 k fm x0h_0_0_1 x0h_0_1_1 x0h_1_1 x0h_2_1 x0h_3_1 x0h_4_1 jF mq=some r→GC Γ ⟨.it,pl f33 [1,0,1,1,1,1],[(0,.ptr 1 none 6),(1,.row (.N .u8 jF) false),(6,.c (.int .i64 fm)),(7,.own 2 none false)],[⟨1,false,100,6,bE [.obj (bE [.c (.int .i64 x0h_0_0_1),.fs (Tn.F x0h_0_1_1) (Tn.C x0h_0_1_1)]) none 2,.c (.int .i64 x0h_1_1),.c (.bool x0h_2_1),.row (.N .u8 x0h_3_1) false,.row (.N .u8 x0h_4_1) false,.any]⟩,⟨2,false,5,0,.N .u8 mq⟩],16⟩)∧(∀(fm:Int) (x0h_0_0_2:Int) (x0h_0_1_2:Tn) (x0h_1_2:Int) (x0h_2_2:Bool) (x0h_3_2:List Int) (x0h_4_2:List Int) (x0h_5h_2:List Int) (oU:List Int) (mt:List Int),ax.l2 k fm x0h_0_0_2 x0h_0_1_2 x0h_1_2 x0h_2_2 x0h_3_2 x0h_4_2 x0h_5h_2 oU mt=some r→GC Γ ⟨.it,pl f33 [1,0,1,1,1,1],[(0,.ptr 1 none 6),(1,.row (.N .u8 oU) false),(6,.c (.int .i64 fm)),(7,.own 3 none false)],[⟨1,false,100,6,bE [.obj (bE [.c (.int .i64 x0h_0_0_2),.fs (Tn.F x0h_0_1_2) (Tn.C x0h_0_1_2)]) none 2,.c (.int .i64 x0h_1_2),.c (.bool x0h_2_2),.row (.N .u8 x0h_3_2) false,.row (.N .u8 x0h_4_2) false,.own 2 none false]⟩,⟨2,false,5,0,.N .u8 x0h_5h_2⟩,⟨3,false,5,0,.N .u8 mt⟩],16⟩)
 | 0=>⟨(fun _ _ _ _ _ _ _ _ _ h=>nomatch h),(fun _ _ _ _ _ _ _ _ _ h=>nomatch h),(fun _ _ _ _ _ _ _ _ _ _ h=>nomatch h)⟩
 | k+1=>⟨(fun fm x0h_0_0_0 x0h_0_1_0 x0h_1_0 x0h_2_0 x0h_3_0 x0h_4_0 di dC h=>by unfold ax.l0 at h;exact (kn h (fun h=>rt h func33) fun h=>kn h (fun h=>nd h fun h=>bd h fun r e h=>match r,e,h with | ⟨_,_,true⟩,e,h=>G.ca (dL.ac e)<|nd h fun h=>nd h fun h=>nd h fun h=>la ((ax.ls Γ k).2.1 _ _ _ _ _ _ _ _ _ h) | ⟨_,_,false⟩,e,h=>G.ca (dL.ac e)<|nd h fun h=>nd h fun h=>nd h fun h=>la ((ax.ls Γ k).2.2 _ _ _ _ _ _ _ _ _ _ h)) fun h=>nd h fun h=>nd h fun h=>bd h fun _ e h=>G.ca (fp.ac e)<|nd h fun h=>nd h fun h=>nd h fun h=>la ((ax.ls Γ k).1 _ _ _ _ _ _ _ _ _ h))),(fun fm x0h_0_0_1 x0h_0_1_1 x0h_1_1 x0h_2_1 x0h_3_1 x0h_4_1 jF mq h=>by unfold ax.l1 at h;exact (kn h (fun h=>rt h func33) fun h=>kn h (fun h=>nd h fun h=>bd h fun r e h=>match r,e,h with | ⟨_,_,true⟩,e,h=>G.ca (fc.ac e)<|nd h fun h=>nd h fun h=>nd h fun h=>la ((ax.ls Γ k).2.1 _ _ _ _ _ _ _ _ _ h) | ⟨_,_,false⟩,e,h=>G.ca (fc.ac e)<|nd h fun h=>nd h fun h=>nd h fun h=>la ((ax.ls Γ k).2.2 _ _ _ _ _ _ _ _ _ _ h)) fun h=>nd h fun h=>nd h fun h=>nomatch h)),(fun fm x0h_0_0_2 x0h_0_1_2 x0h_1_2 x0h_2_2 x0h_3_2 x0h_4_2 x0h_5h_2 oU mt h=>by unfold ax.l2 at h;exact (kn h (fun h=>rt h func33) fun h=>kn h (fun h=>nd h fun h=>bd h fun r e h=>match r,e,h with | ⟨_,_,true⟩,e,h=>G.ca (dL.ac e)<|nd h fun h=>nd h fun h=>nd h fun h=>la ((ax.ls Γ k).2.1 _ _ _ _ _ _ _ _ _ h) | ⟨_,_,false⟩,e,h=>G.ca (dL.ac e)<|nd h fun h=>nd h fun h=>nd h fun h=>la ((ax.ls Γ k).2.2 _ _ _ _ _ _ _ _ _ _ h)) fun h=>nd h fun h=>nd h fun h=>nomatch h))⟩
theorem ax.ac {k:Nat} {a0:(Int×Tn)×Int×Bool×(List Int)×(List Int)×(List Int)} {a1:List Int} {r:(List Int)×Int} (h:ax.f k a0 a1=some r):dU 33 1 [.ptr 0 none 6,.row (.N .u8 a1) false] [⟨0,false,100,6,bE [.obj (bE [.c (.int .i64 a0.1.1),.fs (Tn.F a0.1.2) (Tn.C a0.1.2)]) none 2,.c (.int .i64 a0.2.1),.c (.bool a0.2.2.1),.row (.N .u8 a0.2.2.2.1) false,.row (.N .u8 a0.2.2.2.2.1) false,.c (.slice none 0 0)]⟩] (ax.rv r) (ax.H r):=
 dV func33 fun Γ=>by unfold ax.f at h;exact (bd h fun _ e h=>G.cl (dz.ac e)<|nb h fun h=>kn h (fun h=>rt h func33) fun h=>nd h fun h=>nd h fun h=>la ((ax.ls Γ k).1 _ _ _ _ _ _ _ _ _ h))
def iI.rv (r:Bool×Bool):AV:= .tup (bE [.c (.bool r.1),.c (.bool r.2)])
def iI.H (r:Bool×Bool):List HE:=[]
theorem iI.ac {k:Nat} {a0:Int} {a1:Bool} {r:Bool×Bool} (h:iI.f k a0 a1=some r):dU 117 0 [.c (.int .i64 a0),.c (.bool a1)] [] (iI.rv r) (iI.H r):=
 dV func117 fun Γ=>by unfold iI.f at h;exact (kn h (fun h=>rt h func117) fun h=>kn h (fun h=>rt h func117) fun h=>kn h (fun h=>rt h func117) fun h=>rt h func117)
def db.rv (r:(List Int)):AV:= .own 0 none false
def db.H (r:(List Int)):List HE:=[⟨0,false,5,0,.N .u8 r⟩]
theorem db.ls {r:(List Int)} (Γ:Cr prog gl 161 33 0 (db.rv r) (db.H r)): ∀k:Nat,(∀(cN:List Int) (n7:List Int) (jE:Int) (jp:Int),db.l0 k cN n7 jE jp=some r→GC Γ ⟨.it,pl f161 [1,1,1,0,1,0,0],[(5,.own 0 none false),(17,.row (.N .u8 n7) false),(18,.c (.int .i64 jE)),(19,.c (.int .i64 jp))],[⟨0,false,5,0,.N .u8 cN⟩],16⟩)
 | 0=>(fun _ _ _ _ h=>nomatch h)
 | k+1=>(fun cN n7 jE jp h=>by unfold db.l0 at h;exact (kn h (fun h=>nd h fun h=>nd h fun h=>nd h fun h=>nd h fun h=>nd h fun h=>nd h fun h=>la ((db.ls Γ k) _ _ _ _ h)) fun h=>rt h func161))
theorem db.ac {k:Nat} {a0:List Int} {a1:List Int} {r:(List Int)} (h:db.f k a0 a1=some r):dU 161 0 [.row (.N .u8 a0) false,.row (.N .u8 a1) false] [] (db.rv r) (db.H r):=
 dV func161 fun Γ=>by unfold db.f at h;exact (kn h (fun h=>bd h fun _ e h=>G.ca (an.ac e)<|la ((db.ls Γ k) _ _ _ _ h)) fun h=>bd h fun _ e h=>G.ca (an.ac e)<|la ((db.ls Γ k) _ _ _ _ h))
def iq.rv (r:(List Int)):AV:= .own 0 none false
def iq.H (r:(List Int)):List HE:=[⟨0,false,5,0,.N .u8 r⟩]
theorem iq.ac {k:Nat} {a0:Int×Tn} {a1:Bool} {a2:List Int} {a3:List Int} {r:(List Int)} (h:iq.f k a0 a1 a2 a3=some r):dU 118 0 [.obj (bE [.c (.int .i64 a0.1),.fs (Tn.F a0.2) (Tn.C a0.2)]) none 2,.c (.bool a1),.row (.N .u8 a2) false,.row (.N .u8 a3) false] [] (iq.rv r) (iq.H r):=
 dV func118 fun Γ=>by unfold iq.f at h;exact (bd h fun _ e h=>G.ca (aO.ac e)<|G.dr<|bv h fun h=>bv h fun h=>bv h fun h=>bv h fun h=>D.fi<|kn h (fun h=>G.dr<|bv h fun h=>bv h fun h=>bv h fun h=>bv h fun h=>D.fi<|bd h fun _ e h=>G.ca (bV.ac e)<|nd h fun h=>nd h fun h=>bd h fun _ e h=>G.ca (db.ac e)<|nd h fun h=>nd h fun h=>bd h fun _ e h=>G.cl (ai.ac e)<|bd h fun _ e h=>G.ca (bV.ac e)<|bd h fun _ e h=>G.ca (db.ac e)<|bd h fun _ e h=>G.cl (ai.ac e)<|rt h func118) fun h=>bd h fun _ e h=>G.ca (bV.ac e)<|nd h fun h=>nd h fun h=>bd h fun _ e h=>G.ca (db.ac e)<|nd h fun h=>nd h fun h=>bd h fun _ e h=>G.cl (ai.ac e)<|bd h fun _ e h=>G.ca (bV.ac e)<|bd h fun _ e h=>G.ca (db.ac e)<|bd h fun _ e h=>G.cl (ai.ac e)<|rt h func118)
def js.rv (r:(List Int)):AV:= .own 0 none false
def js.H (r:(List Int)):List HE:=[⟨0,false,5,0,.N .u8 r⟩]
theorem js.ac {k:Nat} {a0:Int×Tn} {a1:Bool} {a2:List Int} {a3:List Int} {r:(List Int)} (h:js.f k a0 a1 a2 a3=some r):dU 119 0 [.obj (bE [.c (.int .i64 a0.1),.fs (Tn.F a0.2) (Tn.C a0.2)]) none 2,.c (.bool a1),.row (.N .u8 a2) false,.row (.N .u8 a3) false] [] (js.rv r) (js.H r):=
 dV func119 fun Γ=>by unfold js.f at h;exact (bd h fun _ e h=>G.ca (aO.ac e)<|nd h fun h=>nd h fun h=>bd h fun _ e h=>G.ca (db.ac e)<|bd h fun _ e h=>G.ca (bK.ac e)<|nd h fun h=>nd h fun h=>bd h fun _ e h=>G.ca (db.ac e)<|bd h fun _ e h=>G.ca (bK.ac e)<|nd h fun h=>nd h fun h=>kn h (fun h=>bd h fun _ e h=>G.cl (ai.ac e)<|rt h func119) fun h=>bd h fun _ e h=>G.cl (ai.ac e)<|rt h func119)
def eB.rv (r:(List Int)×Int):AV:= .tup (bE [.row (.N .u8 r.1) false,.c (.int .i64 r.2)])
def eB.H (r:(List Int)×Int):List HE:=[]
theorem eB.ls {r:(List Int)×Int} (Γ:Cr prog gl 68 95 0 (eB.rv r) (eB.H r)): ∀k:Nat,(∀(a0:Int×Tn) (a2:Bool) (a3:List Int) (a4:List Int) (jU:Int) (lB:Bool×Bool),eB.l0 k a0 a2 a3 a4 jU lB=some r→GC Γ ⟨.it,pl f68 [1,0,1,1,1,1,0,0,0],[(0,.obj (bE [.c (.int .i64 a0.1),.fs (Tn.F a0.2) (Tn.C a0.2)]) none 2),(2,.c (.bool a2)),(3,.row (.N .u8 a3) false),(4,.row (.N .u8 a4) false),(12,.c (.int .i64 jU)),(13,.c (.bool lB.1))],[],16⟩)
 | 0=>(fun _ _ _ _ _ _ h=>nomatch h)
 | k+1=>(fun a0 a2 a3 a4 jU lB h=>by unfold eB.l0 at h;exact (kn h (fun h=>kn h (fun h=>bd h fun _ e h=>G.ca (bV.ac e)<|bd h fun _ e h=>G.ca (bw.ac e)<|rt h func68) fun h=>bd h fun _ e h=>G.ca (bw.ac e)<|bd h fun _ e h=>G.ca (bK.ac e)<|kn h (fun h=>rt h func68) fun h=>kn h (fun h=>bd h fun _ e h=>G.ca (iq.ac e)<|rt h func68) fun h=>bd h fun _ e h=>G.ca (js.ac e)<|rt h func68) fun h=>kn h (fun h=>rt h func68) fun h=>kn h (fun h=>bd h fun _ e h=>G.ca (iq.ac e)<|rt h func68) fun h=>bd h fun _ e h=>G.ca (js.ac e)<|rt h func68))
theorem eB.ac {k:Nat} {a0:Int×Tn} {a1:Int} {a2:Bool} {a3:List Int} {a4:List Int} {r:(List Int)×Int} (h:eB.f k a0 a1 a2 a3 a4=some r):dU 68 0 [.obj (bE [.c (.int .i64 a0.1),.fs (Tn.F a0.2) (Tn.C a0.2)]) none 2,.c (.int .i64 a1),.c (.bool a2),.row (.N .u8 a3) false,.row (.N .u8 a4) false] [] (eB.rv r) (eB.H r):=
 dV func68 fun Γ=>by unfold eB.f at h;exact (bd h fun _ e h=>G.ca (aO.ac e)<|bd h fun _ e h=>G.ca (iI.ac e)<|kn h (fun h=>rt h func68) fun h=>kn h (fun h=>rt h func68) fun h=>kn h (fun h=>rt h func68) fun h=>kn h (fun h=>rt h func68) fun h=>G.lp<|la ((eB.ls Γ k) _ _ _ _ _ _ h))
def dI.rv (r:(List Int)×Int):AV:= .tup (bE [.own 0 none false,.c (.int .i64 r.2)])
def dI.H (r:(List Int)×Int):List HE:=[⟨0,false,5,0,.N .u8 r.1⟩]
theorem dI.ls {r:(List Int)×Int} (Γ:Cr prog gl 28 85 0 (dI.rv r) (dI.H r)): ∀k:Nat,(∀(a0:Int×Tn) (a1:Int×Int×Int×Bool) (a2:List Int) (a3:List Int) (eU:Int) (dd:Int),dI.l0 k a0 a1 a2 a3 eU dd=some r→GC Γ ⟨.it,pl f28 [1,1,1,1,0,0,0],[(0,.obj (bE [.c (.int .i64 a0.1),.fs (Tn.F a0.2) (Tn.C a0.2)]) none 2),(2,.row (.N .u8 a2) false),(3,.row (.N .u8 a3) false),(5,.ptr 0 none 4),(10,.c (.int .i64 eU)),(11,.c (.int .i64 dd))],[⟨0,false,27,4,bE [.c (.int .i64 a1.1),.c (.int .i64 a1.2.1),.c (.int .i64 a1.2.2.1),.c (.bool a1.2.2.2)]⟩],16⟩)
 | 0=>(fun _ _ _ _ _ _ h=>nomatch h)
 | k+1=>(fun a0 a1 a2 a3 eU dd h=>by unfold dI.l0 at h;exact (lt h fun h=>kn h (fun h=>la ((dI.ls Γ k) _ _ _ _ _ _ h)) fun h=>bd h fun _ e h=>G.ca (ij.ac e)<|nd h fun h=>nd h fun h=>bd h fun _ e h=>G.ca (ax.ac e)<|kn h (fun h=>nd h fun h=>nd h fun h=>kn h (fun h=>nd h fun h=>nd h fun h=>nd h fun h=>G.dr<|bv h fun h=>bv h fun h=>bd h fun _ e h=>D.ca (eB.ac e)<|D.fi<|bd h fun _ e h=>G.cl (ai.ac e)<|rt h func28) fun h=>G.dr<|bv h fun h=>bv h fun h=>bd h fun _ e h=>D.ca (eB.ac e)<|D.fi<|bd h fun _ e h=>G.cl (ai.ac e)<|rt h func28) fun h=>G.dr<|bv h fun h=>bv h fun h=>bd h fun _ e h=>D.ca (eB.ac e)<|D.fi<|bd h fun _ e h=>G.cl (ai.ac e)<|rt h func28))
theorem dI.ac {k:Nat} {a0:Int×Tn} {a1:Int×Int×Int×Bool} {a2:List Int} {a3:List Int} {r:(List Int)×Int} (h:dI.f k a0 a1 a2 a3=some r):dU 28 0 [.obj (bE [.c (.int .i64 a0.1),.fs (Tn.F a0.2) (Tn.C a0.2)]) none 2,.agg (bE [.c (.int .i64 a1.1),.c (.int .i64 a1.2.1),.c (.int .i64 a1.2.2.1),.c (.bool a1.2.2.2)]) 4,.row (.N .u8 a2) false,.row (.N .u8 a3) false] [] (dI.rv r) (dI.H r):=
 dV func28 fun Γ=>by unfold dI.f at h;exact (bd h fun _ e h=>G.ca (aO.ac e)<|kn h (fun h=>rt h func28) fun h=>la ((dI.ls Γ k) _ _ _ _ _ _ h))
def kt.rv (r:Bool):AV:= .c (.bool r)
def kt.H (r:Bool):List HE:=[]
theorem kt.ac {k:Nat} {a0:Int} {r:Bool} (h:kt.f k a0=some r):dU 69 0 [.c (.int .i64 a0)] [] (kt.rv r) (kt.H r):=
 dV func69 fun Γ=>by unfold kt.f at h;exact (kn h (fun h=>rt h func69) fun h=>kn h (fun h=>rt h func69) fun h=>kn h (fun h=>rt h func69) fun h=>rt h func69)
def jG.rv (r:Bool):AV:= .c (.bool r)
def jG.H (r:Bool):List HE:=[]
theorem jG.ac {k:Nat} {a0:Int} {r:Bool} (h:jG.f k a0=some r):dU 70 0 [.c (.int .i64 a0)] [] (jG.rv r) (jG.H r):=
 dV func70 fun Γ=>by unfold jG.f at h;exact (kn h (fun h=>rt h func70) fun h=>rt h func70)
def gT.rv (r:(List Int)):AV:= .own 0 none true
def gT.H (r:(List Int)):List HE:=[⟨0,false,5,0,.N .u8 r⟩]
theorem gT.ls {r:(List Int)} (Γ:Cr prog gl 71 36 0 (gT.rv r) (gT.H r)): ∀k:Nat,(∀(a1:Int) (cN:List Int) (n7:Int) (jE:Int),gT.l0 k a1 cN n7 jE=some r→GC Γ ⟨.it,pl f71 [1,1,0,1,0,0,0,0,0,1,1,0,0],[(1,.c (.int .i64 a1)),(5,.own 0 none true),(17,.c (.int .i64 n7)),(18,.c (.int .i64 jE))],[⟨0,false,5,0,.N .u8 cN⟩],16⟩)
 | 0=>(fun _ _ _ _ h=>nomatch h)
 | k+1=>(fun a1 cN n7 jE h=>by unfold gT.l0 at h;exact (kn h (fun h=>nd h fun h=>nd h fun h=>la ((gT.ls Γ k) _ _ _ _ h)) fun h=>nd h fun h=>nd h fun h=>rt h func71))
theorem gT.ac {k:Nat} {a0:Int} {a1:Int} {r:(List Int)} (h:gT.f k a0 a1=some r):dU 71 0 [.c (.int .i64 a0),.c (.int .i64 a1)] [] (gT.rv r) (gT.H r):=
 dV func71 fun Γ=>by unfold gT.f at h;exact (nd h fun h=>nd h fun h=>kn h (fun h=>la ((gT.ls Γ k) _ _ _ _ h)) fun h=>kn h (fun h=>nd h fun h=>nd h fun h=>rt h func71) fun h=>kn h (fun h=>nd h fun h=>rt h func71) fun h=>rt h func71)
def iB.rv (r:Bool):AV:= .c (.bool r)
def iB.H (r:Bool):List HE:=[]
theorem iB.ac {k:Nat} {a0:List Int} {a1:List Int} {r:Bool} (h:iB.f k a0 a1=some r):dU 121 0 [.row (.N .u8 a0) false,.row (.N .u8 a1) false] [] (iB.rv r) (iB.H r):=
 dV func121 fun Γ=>by unfold iB.f at h;exact (rt h func121)
def bh.rv (r:Int):AV:= .c (.int .i64 r)
def bh.H (r:Int):List HE:=[]
theorem bh.ls {r:Int} (Γ:Cr prog gl 163 20 0 (bh.rv r) (bh.H r)): ∀k:Nat,(∀(a0:List Int) (a1:Int) (cq:Int),bh.l0 k a0 a1 cq=some r→GC Γ ⟨.it,pl f163 [1,0,1,0,0],[(0,.row (.N .u8 a0) false),(1,.c (.int .u8 a1)),(5,.c (.int .i64 cq))],[],16⟩)
 | 0=>(fun _ _ _ h=>nomatch h)
 | k+1=>(fun a0 a1 cq h=>by unfold bh.l0 at h;exact (kn h (fun h=>nd h fun h=>nd h fun h=>kn h (fun h=>rt h func163) fun h=>la ((bh.ls Γ k) _ _ _ h)) fun h=>rt h func163))
theorem bh.ac {k:Nat} {a0:List Int} {a1:Int} {r:Int} (h:bh.f k a0 a1=some r):dU 163 0 [.row (.N .u8 a0) false,.c (.int .u8 a1)] [] (bh.rv r) (bh.H r):=
 dV func163 fun Γ=>by unfold bh.f at h;exact (la ((bh.ls Γ k) _ _ _ h))
def fG.rv (r:Int):AV:= .c (.int .i64 r)
def fG.H (r:Int):List HE:=[]
theorem fG.ac {k:Nat} {a0:List Int} {a1:Int} {r:Int} (h:fG.f k a0 a1=some r):dU 122 0 [.row (.N .u8 a0) false,.c (.int .u8 a1)] [] (fG.rv r) (fG.H r):=
 dV func122 fun Γ=>by unfold fG.f at h;exact (bd h fun _ e h=>G.ca (bh.ac e)<|rt h func122)
def iC.rv (r:Int):AV:= .c (.int .i64 r)
def iC.H (r:Int):List HE:=[]
theorem iC.ls {r:Int} (Γ:Cr prog gl 75 61 0 (iC.rv r) (iC.H r)): ∀k:Nat,(∀(a0:Int) (a1:List Int),iC.l0 k a0 a1=some r→GC Γ ⟨.it,pl f75 [1,0,1,1,1,1,1,1],[(0,.c (.int .i64 a0)),(1,.row (.N .u8 a1) false),(5,.c (.int .i64 (a1.length:Int)))],[],16⟩)
 | 0=>(fun _ _ h=>nomatch h)
 | k+1=>(fun a0 a1 h=>by unfold iC.l0 at h;exact (bd h fun _ e h=>G.ca (fG.ac e)<|G.dr<|lt h fun h=>qL h (fun h=>D.fi<|kq (v:=true)<|rt h func75) fun h=>bv h fun h=>bv h fun h=>lt h fun h=>bd h fun _ e h=>D.ca (gT.ac e)<|bd h fun _ e h=>D.cl (iB.ac e)<|D.fi<|kn h (fun h=>rt h func75) fun h=>rt h func75))
theorem iC.ac {k:Nat} {a0:Int} {a1:List Int} {r:Int} (h:iC.f k a0 a1=some r):dU 75 0 [.c (.int .i64 a0),.row (.N .u8 a1) false] [] (iC.rv r) (iC.H r):=
 dV func75 fun Γ=>by unfold iC.f at h;exact (nd h fun h=>nd h fun h=>kn h (fun h=>la ((iC.ls Γ k) _ _ h)) fun h=>G.dr<|qL h (fun h=>Tq (v:=true)<|D.fi<|kq (v:=true)<|rt h func75) fun h=>lt h fun h=>qL h (fun h=>D.fi<|kq (v:=true)<|rt h func75) fun h=>qL h (fun h=>lt h fun h=>bv h fun h=>bv h fun h=>bd h fun _ e h=>D.ca (gT.ac e)<|bd h fun _ e h=>D.cl (iB.ac e)<|D.fi<|kn h (fun h=>rt h func75) fun h=>rt h func75) fun h=>D.fi<|kq (v:=false)<|rt h func75)
def jb.rv (r:(List Int)×Int):AV:= .tup (bE [.own 0 none false,.c (.int .i64 r.2)])
def jb.H (r:(List Int)×Int):List HE:=[⟨0,false,5,0,.N .u8 r.1⟩]
theorem jb.ac {k:Nat} {a0:Int} {a1:Int} {a2:List Int} {r:(List Int)×Int} (h:jb.f k a0 a1 a2=some r):dU 34 0 [.c (.int .i64 a0),.c (.int .i64 a1),.row (.N .u8 a2) false] [] (jb.rv r) (jb.H r):=
 dV func34 fun Γ=>by unfold jb.f at h;exact (bd h fun _ e h=>G.ca (kt.ac e)<|kn h (fun h=>rt h func34) fun h=>bd h fun _ e h=>G.ca (jG.ac e)<|kn h (fun h=>rt h func34) fun h=>kn h (fun h=>rt h func34) fun h=>bd h fun _ e h=>G.ca (iC.ac e)<|kn h (fun h=>rt h func34) fun h=>nd h fun h=>nd h fun h=>bd h fun _ e h=>G.ca (an.ac e)<|rt h func34)
def mv.rv (r:(List Int)×Int):AV:= .tup (bE [.own 0 none false,.c (.int .i64 r.2)])
def mv.H (r:(List Int)×Int):List HE:=[⟨0,false,5,0,.N .u8 r.1⟩]
theorem mv.ac {k:Nat} {a0:Int} {a1:Int} {a2:List Int} {r:(List Int)×Int} (h:mv.f k a0 a1 a2=some r):dU 31 0 [.c (.int .i64 a0),.c (.int .i64 a1),.row (.N .u8 a2) false] [] (mv.rv r) (mv.H r):=
 dV func31 fun Γ=>by unfold mv.f at h;exact (bd h fun _ e h=>G.ca (kt.ac e)<|kn h (fun h=>rt h func31) fun h=>bd h fun _ e h=>G.ca (jG.ac e)<|kn h (fun h=>rt h func31) fun h=>kn h (fun h=>rt h func31) fun h=>bd h fun _ e h=>G.ca (gT.ac e)<|bd h fun _ e h=>G.cl (ai.ac e)<|rt h func31)
def gE.rv (r:(List Int)×Int):AV:= .tup (bE [.own 0 none false,.c (.int .i64 r.2)])
def gE.H (r:(List Int)×Int):List HE:=[⟨0,false,5,0,.N .u8 r.1⟩]
theorem gE.ls {r:(List Int)×Int} (Γ:Cr prog gl 9 128 0 (gE.rv r) (gE.H r)): ∀k:Nat,(∀(a0:Int×Int×Int×Bool) (a3:List Int) (jq:((Int×Tn)×Int×Bool×(List Int)×(List Int)×(List Int))×Int) (i6:Int),gE.l0 k a0 a3 jq i6=some r→GC Γ ⟨.it,pl f9 [1,0,1,1,1,1,1,1,0,0,0],[(3,.row (.N .u8 a3) false),(4,.ptr 0 none 4),(12,.ptr 1 none 6),(14,.c (.int .i64 i6))],[⟨0,false,27,4,bE [.c (.int .i64 a0.1),.c (.int .i64 a0.2.1),.c (.int .i64 a0.2.2.1),.c (.bool a0.2.2.2)]⟩,⟨1,false,100,6,bE [.obj (bE [.c (.int .i64 jq.1.1.1),.fs (Tn.F jq.1.1.2) (Tn.C jq.1.1.2)]) none 2,.c (.int .i64 jq.1.2.1),.c (.bool jq.1.2.2.1),.row (.N .u8 jq.1.2.2.2.1) false,.row (.N .u8 jq.1.2.2.2.2.1) false,.c (.slice none 0 0)]⟩],16⟩)
 | 0=>(fun _ _ _ _ h=>nomatch h)
 | k+1=>(fun a0 a3 jq i6 h=>by unfold gE.l0 at h;exact (kn h (fun h=>kn h (fun h=>kn h (fun h=>rt h func9) fun h=>bd h fun _ e h=>G.ca (ax.ac e)<|kn h (fun h=>kq (v:=true)<|kq (v:=true)<|rt h func9) fun h=>kn h (fun h=>kq (v:=true)<|rt h func9) fun h=>kn h (fun h=>rt h func9) fun h=>G.dr<|bv h fun h=>bv h fun h=>bd h fun _ e h=>D.cl (jb.ac e)<|D.fi<|kn h (fun h=>rt h func9) fun h=>nd h fun h=>nd h fun h=>bd h fun _ e h=>G.cl (ai.ac e)<|rt h func9) fun h=>nb h fun h=>G.dr<|bv h fun h=>bv h fun h=>lt h fun h=>bd h fun _ e h=>D.ca (mv.ac e)<|D.fi<|nd h fun h=>nd h fun h=>lt h fun h=>bd h fun _ e h=>G.cl (ai.ac e)<|bd h fun _ e h=>G.ca (ax.ac e)<|kn h (fun h=>kq (v:=true)<|kq (v:=true)<|rt h func9) fun h=>kn h (fun h=>kq (v:=true)<|rt h func9) fun h=>kn h (fun h=>rt h func9) fun h=>G.dr<|bv h fun h=>bv h fun h=>bd h fun _ e h=>D.cl (jb.ac e)<|D.fi<|kn h (fun h=>rt h func9) fun h=>nd h fun h=>nd h fun h=>bd h fun _ e h=>G.cl (ai.ac e)<|rt h func9) fun h=>bd h fun _ e h=>G.ca (ax.ac e)<|kn h (fun h=>kq (v:=true)<|kq (v:=true)<|rt h func9) fun h=>kn h (fun h=>kq (v:=true)<|rt h func9) fun h=>kn h (fun h=>rt h func9) fun h=>G.dr<|bv h fun h=>bv h fun h=>bd h fun _ e h=>D.cl (jb.ac e)<|D.fi<|kn h (fun h=>rt h func9) fun h=>nd h fun h=>nd h fun h=>bd h fun _ e h=>G.cl (ai.ac e)<|rt h func9))
theorem gE.ac {k:Nat} {a0:Int×Int×Int×Bool} {a1:List Int} {a2:List Int} {a3:List Int} {r:(List Int)×Int} (h:gE.f k a0 a1 a2 a3=some r):dU 9 0 [.agg (bE [.c (.int .i64 a0.1),.c (.int .i64 a0.2.1),.c (.int .i64 a0.2.2.1),.c (.bool a0.2.2.2)]) 4,.row (.N .u8 a1) false,.row (.N .u8 a2) false,.row (.N .u8 a3) false] [] (gE.rv r) (gE.H r):=
 dV func9 fun Γ=>by unfold gE.f at h;exact (bd h fun r e h=>match r,e,h with | ⟨none,_⟩,e,h=>G.ca (i9.ac e)<|kn h (fun h=>rt h func9) fun h=>bd h fun _ e h=>G.ca (iS.ac e)<|kn h (fun h=>nomatch h) fun h=>nomatch h | ⟨some _,_⟩,e,h=>G.ca (i9.ac e)<|kn h (fun h=>rt h func9) fun h=>bd h fun _ e h=>G.ca (iS.ac e)<|kn h (fun h=>bd h fun _ e h=>G.ca (dI.ac e)<|rt h func9) fun h=>bd h fun _ e h=>G.ca (ij.ac e)<|bd h fun _ e h=>G.ca (aO.ac e)<|G.lp<|la ((gE.ls Γ k) _ _ _ _ h))
def mw.rv (r:Unit):AV:= .ptr 0 none 11
def mw.H (r:Unit):List HE:=[⟨0,false,72,11,bE [.c (.bool false),.c (.bool false),.c (.int .i64 0),.c (.int .i64 0),.c (.int .i64 0),.c (.bool false),.c (.pointer none),.c (.slice none 0 0),.c (.pointer none),.c (.slice none 0 0),.c (.slice none 0 0)]⟩]
theorem mw.ac {k:Nat} {r:Unit} (h:mw.f k=some r):dU 11 0 [] [] (mw.rv r) (mw.H r):=
 dV func11 fun Γ=>by unfold mw.f at h;exact (rt h func11)
def kH.rv (r:Int):AV:= .c (.int .i64 r)
def kH.H (r:Int):List HE:=[]
theorem kH.ac {k:Nat} {a0:Int×Int×Int×Bool} {a1:List Int} {a2:List Int} {r:Int} (h:kH.f k a0 a1 a2=some r):dU 43 0 [.agg (bE [.c (.int .i64 a0.1),.c (.int .i64 a0.2.1),.c (.int .i64 a0.2.2.1),.c (.bool a0.2.2.2)]) 4,.row (.N .u8 a1) false,.row (.N .u8 a2) false] [] (kH.rv r) (kH.H r):=
 dV func43 fun Γ=>by unfold kH.f at h;exact (bd h fun r e h=>match r,e,h with | ⟨none,_⟩,e,h=>G.ca (i9.ac e)<|rt h func43 | ⟨some _,_⟩,e,h=>G.ca (i9.ac e)<|rt h func43)
def fq.rv (r:Bool):AV:= .c (.bool r)
def fq.H (r:Bool):List HE:=[]
theorem fq.ac {k:Nat} {a0:Bool×Bool×Int×Int×Int×Bool} {r:Bool} (h:fq.f k a0=some r):dU 87 0 [.obj (bE [.c (.bool a0.1),.c (.bool a0.2.1),.c (.int .i64 a0.2.2.1),.c (.int .i64 a0.2.2.2.1),.c (.int .i64 a0.2.2.2.2.1),.c (.bool a0.2.2.2.2.2),.any,.any,.any,.any,.any]) none 11] [] (fq.rv r) (fq.H r):=
 dV func87 fun Γ=>by unfold fq.f at h;exact (kn h (fun h=>rt h func87) fun h=>rt h func87)
def jf.rv (r:(Bool×Bool×Int×Int×Int×Bool×(Int×Tn)×(List Int)×((Int×Tn)×Int×Bool×(List Int)×(List Int)×(List Int))×(List Int))):AV:= .tup (.nil)
def jf.H (r:(Bool×Bool×Int×Int×Int×Bool×(Int×Tn)×(List Int)×((Int×Tn)×Int×Bool×(List Int)×(List Int)×(List Int))×(List Int))):List HE:=[⟨0,false,72,11,bE [.c (.bool r.1),.c (.bool r.2.1),.c (.int .i64 r.2.2.1),.c (.int .i64 r.2.2.2.1),.c (.int .i64 r.2.2.2.2.1),.c (.bool r.2.2.2.2.2.1),.obj (bE [.c (.int .i64 r.2.2.2.2.2.2.1.1),.fs (Tn.F r.2.2.2.2.2.2.1.2) (Tn.C r.2.2.2.2.2.2.1.2)]) none 2,.row (.N .u8 r.2.2.2.2.2.2.2.1) false,.ptr 1 none 6,.c (.slice none 0 0),.row (.N .u8 r.2.2.2.2.2.2.2.2.2) false]⟩,⟨1,false,100,6,bE [.obj (bE [.c (.int .i64 r.2.2.2.2.2.2.2.2.1.1.1),.fs (Tn.F r.2.2.2.2.2.2.2.2.1.1.2) (Tn.C r.2.2.2.2.2.2.2.2.1.1.2)]) none 2,.c (.int .i64 r.2.2.2.2.2.2.2.2.1.2.1),.c (.bool r.2.2.2.2.2.2.2.2.1.2.2.1),.row (.N .u8 r.2.2.2.2.2.2.2.2.1.2.2.2.1) false,.row (.N .u8 r.2.2.2.2.2.2.2.2.1.2.2.2.2.1) false,.c (.slice none 0 0)]⟩]
theorem jf.ac {k:Nat} {a0:Bool×Bool×Int×Int×Int×Bool×(Int×Tn)×(List Int)} {r:(Bool×Bool×Int×Int×Int×Bool×(Int×Tn)×(List Int)×((Int×Tn)×Int×Bool×(List Int)×(List Int)×(List Int))×(List Int))} (h:jf.f k a0=some r):dU 45 1 [.ptr 0 none 11] [⟨0,false,72,11,bE [.c (.bool a0.1),.c (.bool a0.2.1),.c (.int .i64 a0.2.2.1),.c (.int .i64 a0.2.2.2.1),.c (.int .i64 a0.2.2.2.2.1),.c (.bool a0.2.2.2.2.2.1),.obj (bE [.c (.int .i64 a0.2.2.2.2.2.2.1.1),.fs (Tn.F a0.2.2.2.2.2.2.1.2) (Tn.C a0.2.2.2.2.2.2.1.2)]) none 2,.row (.N .u8 a0.2.2.2.2.2.2.2) false,.c (.pointer none),.c (.slice none 0 0),.c (.slice none 0 0)]⟩] (jf.rv r) (jf.H r):=
 dV func45 fun Γ=>by unfold jf.f at h;exact (bd h fun _ e h=>G.cl (fq.ac e)<|kn h (fun h=>G.dr<|bd h fun _ e h=>D.ca (ij.ac e)<|D.fi<|bd h fun _ e h=>G.ca (an.ac e)<|rt h func45) fun h=>G.dr<|bd h fun _ e h=>D.ca (ij.ac e)<|D.fi<|bd h fun _ e h=>G.ca (an.ac e)<|rt h func45)
def jA.rv (r:Int×(Bool×Bool×Int×Int×Int×Bool×(Int×Tn)×(List Int)×((Int×Tn)×Int×Bool×(List Int)×(List Int)×(List Int))×(List Int))):AV:= .c (.int .i64 r.1)
def jA.H (r:Int×(Bool×Bool×Int×Int×Int×Bool×(Int×Tn)×(List Int)×((Int×Tn)×Int×Bool×(List Int)×(List Int)×(List Int))×(List Int))):List HE:=[⟨0,false,72,11,bE [.c (.bool r.2.1),.c (.bool r.2.2.1),.c (.int .i64 r.2.2.2.1),.c (.int .i64 r.2.2.2.2.1),.c (.int .i64 r.2.2.2.2.2.1),.c (.bool r.2.2.2.2.2.2.1),.obj (bE [.c (.int .i64 r.2.2.2.2.2.2.2.1.1),.fs (Tn.F r.2.2.2.2.2.2.2.1.2) (Tn.C r.2.2.2.2.2.2.2.1.2)]) none 2,.row (.N .u8 r.2.2.2.2.2.2.2.2.1) false,.ptr 1 none 6,.c (.slice none 0 0),.row (.N .u8 r.2.2.2.2.2.2.2.2.2.2) false]⟩,⟨1,false,100,6,bE [.obj (bE [.c (.int .i64 r.2.2.2.2.2.2.2.2.2.1.1.1),.fs (Tn.F r.2.2.2.2.2.2.2.2.2.1.1.2) (Tn.C r.2.2.2.2.2.2.2.2.2.1.1.2)]) none 2,.c (.int .i64 r.2.2.2.2.2.2.2.2.2.1.2.1),.c (.bool r.2.2.2.2.2.2.2.2.2.1.2.2.1),.row (.N .u8 r.2.2.2.2.2.2.2.2.2.1.2.2.2.1) false,.row (.N .u8 r.2.2.2.2.2.2.2.2.2.1.2.2.2.2.1) false,.c (.slice none 0 0)]⟩]
theorem jA.ac {k:Nat} {a1:Int×Int×Int×Bool} {a2:List Int} {a3:List Int} {r:Int×(Bool×Bool×Int×Int×Int×Bool×(Int×Tn)×(List Int)×((Int×Tn)×Int×Bool×(List Int)×(List Int)×(List Int))×(List Int))} (h:jA.f k a1 a2 a3=some r):dU 12 1 [.ptr 0 none 11,.agg (bE [.c (.int .i64 a1.1),.c (.int .i64 a1.2.1),.c (.int .i64 a1.2.2.1),.c (.bool a1.2.2.2)]) 4,.row (.N .u8 a2) false,.row (.N .u8 a3) false] [⟨0,false,72,11,bE [.c (.bool false),.c (.bool false),.c (.int .i64 0),.c (.int .i64 0),.c (.int .i64 0),.c (.bool false),.c (.pointer none),.c (.slice none 0 0),.c (.pointer none),.c (.slice none 0 0),.c (.slice none 0 0)]⟩] (jA.rv r) (jA.H r):=
 dV func12 fun Γ=>by unfold jA.f at h;exact (bd h fun _ e h=>G.ca (kH.ac e)<|kn h (fun h=>nomatch h) fun h=>bd h fun r e h=>match r,e,h with | ⟨none,_⟩,e,h=>G.ca (eJ.ac e)<|G.dr<|bd h fun _ e h=>D.ca (an.ac e)<|D.fi<|nomatch h | ⟨some _,_⟩,e,h=>G.ca (eJ.ac e)<|G.dr<|bd h fun _ e h=>D.ca (an.ac e)<|D.fi<|bd h fun _ e h=>G.ca (jf.ac e)<|rt h func12)
def iy.rv (r:Unit):AV:= .tup (.nil)
def iy.H (r:Unit):List HE:=[]
theorem iy.ac {k:Nat} {a0:Int} {r:Unit} (h:iy.f k a0=some r):dU 88 0 [.c (.int .i64 a0)] [] (iy.rv r) (iy.H r):=
 dV func88 fun Γ=>by unfold iy.f at h;exact (kn h (fun h=>nomatch h) fun h=>rt h func88)
def iO.rv (r:Unit):AV:= .tup (.nil)
def iO.H (r:Unit):List HE:=[]
theorem iO.ac {k:Nat} {a0:Bool×Bool×Int×Int×Int×Bool} {r:Unit} (h:iO.f k a0=some r):dU 48 0 [.obj (bE [.c (.bool a0.1),.c (.bool a0.2.1),.c (.int .i64 a0.2.2.1),.c (.int .i64 a0.2.2.2.1),.c (.int .i64 a0.2.2.2.2.1),.c (.bool a0.2.2.2.2.2),.any,.any,.any,.any,.any]) none 11] [] (iO.rv r) (iO.H r):=
 dV func48 fun Γ=>by unfold iO.f at h;exact (kn h (fun h=>bd h fun _ e h=>G.ca (iy.ac e)<|rt h func48) fun h=>rt h func48)
def jB.rv (r:Int):AV:= .c (.int .i64 r)
def jB.H (r:Int):List HE:=[]
theorem jB.ac {k:Nat} {a0:Bool×Bool×Int×Int×Int×Bool×(Int×Tn)×((Int×Tn)×Int×Bool×(List Int)×(List Int)×(List Int))} {r:Int} (h:jB.f k a0=some r):dU 49 0 [.obj (bE [.c (.bool a0.1),.c (.bool a0.2.1),.c (.int .i64 a0.2.2.1),.c (.int .i64 a0.2.2.2.1),.c (.int .i64 a0.2.2.2.2.1),.c (.bool a0.2.2.2.2.2.1),.obj (bE [.c (.int .i64 a0.2.2.2.2.2.2.1.1),.fs (Tn.F a0.2.2.2.2.2.2.1.2) (Tn.C a0.2.2.2.2.2.2.1.2)]) none 2,.any,.obj (bE [.obj (bE [.c (.int .i64 a0.2.2.2.2.2.2.2.1.1),.fs (Tn.F a0.2.2.2.2.2.2.2.1.2) (Tn.C a0.2.2.2.2.2.2.2.1.2)]) none 2,.c (.int .i64 a0.2.2.2.2.2.2.2.2.1),.c (.bool a0.2.2.2.2.2.2.2.2.2.1),.row (.N .u8 a0.2.2.2.2.2.2.2.2.2.2.1) false,.row (.N .u8 a0.2.2.2.2.2.2.2.2.2.2.2.1) false,.row (.N .u8 a0.2.2.2.2.2.2.2.2.2.2.2.2) false]) none 6,.any,.any]) none 11] [] (jB.rv r) (jB.H r):=
 dV func49 fun Γ=>by unfold jB.f at h;exact (bd h fun _ e h=>G.ca (aO.ac e)<|bd h fun _ e h=>G.ca (dz.ac e)<|kn h (fun h=>rt h func49) fun h=>bd h fun _ e h=>G.ca (fq.ac e)<|kn h (fun h=>rt h func49) fun h=>kn h (fun h=>kn h (fun h=>rt h func49) fun h=>rt h func49) fun h=>kq (v:=false)<|rt h func49)
def cO.rv (r:(List Int)×Int×((Int×Tn)×Int×Bool×(List Int)×(List Int)×(List Int))):AV:= .tup (bE [.own 1 none false,.c (.int .i64 r.2.1)])
def cO.H (r:(List Int)×Int×((Int×Tn)×Int×Bool×(List Int)×(List Int)×(List Int))):List HE:=[⟨0,false,100,6,bE [.obj (bE [.c (.int .i64 r.2.2.1.1),.fs (Tn.F r.2.2.1.2) (Tn.C r.2.2.1.2)]) none 2,.c (.int .i64 r.2.2.2.1),.c (.bool r.2.2.2.2.1),.row (.N .u8 r.2.2.2.2.2.1) false,.row (.N .u8 r.2.2.2.2.2.2.1) false,.c (.slice none 0 0)]⟩,⟨1,false,5,0,.N .u8 r.1⟩]
theorem cO.ls {r:(List Int)×Int×((Int×Tn)×Int×Bool×(List Int)×(List Int)×(List Int))} (Γ:Cr prog gl 33 44 1 (cO.rv r) (cO.H r)): ∀k:Nat,(∀(fm:Int) (di:List Int) (dC:List Int) (h0_0_0_0:Int) (h0_0_1_0:Tn) (h0_1_0:Int) (h0_2_0:Bool) (h0_3_0:List Int) (h0_4_0:List Int),cO.l0 k fm di dC h0_0_0_0 h0_0_1_0 h0_1_0 h0_2_0 h0_3_0 h0_4_0=some r→GC Γ ⟨.it,pl f33 [1,0,1,1,1,1],[(0,.ptr 0 none 6),(1,.row (.N .u8 di) false),(6,.c (.int .i64 fm)),(7,.own 1 none false)],[⟨0,false,100,6,bE [.obj (bE [.c (.int .i64 h0_0_0_0),.fs (Tn.F h0_0_1_0) (Tn.C h0_0_1_0)]) none 2,.c (.int .i64 h0_1_0),.c (.bool h0_2_0),.row (.N .u8 h0_3_0) false,.row (.N .u8 h0_4_0) false,.c (.slice none 0 0)]⟩,⟨1,false,5,0,.N .u8 dC⟩],16⟩)
 | 0=>(fun _ _ _ _ _ _ _ _ _ h=>nomatch h)
 | k+1=>(fun fm di dC h0_0_0_0 h0_0_1_0 h0_1_0 h0_2_0 h0_3_0 h0_4_0 h=>by unfold cO.l0 at h;exact (kn h (fun h=>rt h func33) fun h=>kn h (fun h=>nd h fun h=>nomatch h) fun h=>nd h fun h=>nd h fun h=>bd h fun _ e h=>G.ca (fp.ac e)<|nd h fun h=>nd h fun h=>nd h fun h=>la ((cO.ls Γ k) _ _ _ _ _ _ _ _ _ h)))
theorem cO.ac {k:Nat} {a0:(Int×Tn)×Int×Bool×(List Int)×(List Int)×(List Int)} {a1:List Int} {r:(List Int)×Int×((Int×Tn)×Int×Bool×(List Int)×(List Int)×(List Int))} (h:cO.f k a0 a1=some r):dU 33 1 [.ptr 0 none 6,.row (.N .u8 a1) false] [⟨0,false,100,6,bE [.obj (bE [.c (.int .i64 a0.1.1),.fs (Tn.F a0.1.2) (Tn.C a0.1.2)]) none 2,.c (.int .i64 a0.2.1),.c (.bool a0.2.2.1),.row (.N .u8 a0.2.2.2.1) false,.row (.N .u8 a0.2.2.2.2.1) false,.c (.slice none 0 0)]⟩] (cO.rv r) (cO.H r):=
 dV func33 fun Γ=>by unfold cO.f at h;exact (bd h fun _ e h=>G.cl (dz.ac e)<|nb h fun h=>kn h (fun h=>rt h func33) fun h=>nd h fun h=>nd h fun h=>la ((cO.ls Γ k) _ _ _ _ _ _ _ _ _ h))
def jC.rv (r:(List Int)×(Bool×Bool×Int×Int×Int×Bool×(Int×Tn)×(List Int)×((Int×Tn)×Int×Bool×(List Int)×(List Int)×(List Int))×(List Int)×(List Int))):AV:= .own 2 none false
def jC.H (r:(List Int)×(Bool×Bool×Int×Int×Int×Bool×(Int×Tn)×(List Int)×((Int×Tn)×Int×Bool×(List Int)×(List Int)×(List Int))×(List Int)×(List Int))):List HE:=[⟨0,false,72,11,bE [.c (.bool r.2.1),.c (.bool r.2.2.1),.c (.int .i64 r.2.2.2.1),.c (.int .i64 r.2.2.2.2.1),.c (.int .i64 r.2.2.2.2.2.1),.c (.bool r.2.2.2.2.2.2.1),.obj (bE [.c (.int .i64 r.2.2.2.2.2.2.2.1.1),.fs (Tn.F r.2.2.2.2.2.2.2.1.2) (Tn.C r.2.2.2.2.2.2.2.1.2)]) none 2,.row (.N .u8 r.2.2.2.2.2.2.2.2.1) false,.ptr 1 none 6,.row (.N .u8 r.2.2.2.2.2.2.2.2.2.2.1) false,.row (.N .u8 r.2.2.2.2.2.2.2.2.2.2.2) false]⟩,⟨1,false,100,6,bE [.obj (bE [.c (.int .i64 r.2.2.2.2.2.2.2.2.2.1.1.1),.fs (Tn.F r.2.2.2.2.2.2.2.2.2.1.1.2) (Tn.C r.2.2.2.2.2.2.2.2.2.1.1.2)]) none 2,.c (.int .i64 r.2.2.2.2.2.2.2.2.2.1.2.1),.c (.bool r.2.2.2.2.2.2.2.2.2.1.2.2.1),.row (.N .u8 r.2.2.2.2.2.2.2.2.2.1.2.2.2.1) false,.row (.N .u8 r.2.2.2.2.2.2.2.2.2.1.2.2.2.2.1) false,.c (.slice none 0 0)]⟩,⟨2,false,5,0,.N .u8 r.1⟩]
theorem jC.ac {k:Nat} {a0:Bool×Bool×Int×Int×Int×Bool×(Int×Tn)×(List Int)×((Int×Tn)×Int×Bool×(List Int)×(List Int)×(List Int))×(List Int)×(List Int)} {a1:List Int} {r:(List Int)×(Bool×Bool×Int×Int×Int×Bool×(Int×Tn)×(List Int)×((Int×Tn)×Int×Bool×(List Int)×(List Int)×(List Int))×(List Int)×(List Int))} (h:jC.f k a0 a1=some r):dU 51 2 [.ptr 0 none 11,.row (.N .u8 a1) false] [⟨0,false,72,11,bE [.c (.bool a0.1),.c (.bool a0.2.1),.c (.int .i64 a0.2.2.1),.c (.int .i64 a0.2.2.2.1),.c (.int .i64 a0.2.2.2.2.1),.c (.bool a0.2.2.2.2.2.1),.obj (bE [.c (.int .i64 a0.2.2.2.2.2.2.1.1),.fs (Tn.F a0.2.2.2.2.2.2.1.2) (Tn.C a0.2.2.2.2.2.2.1.2)]) none 2,.row (.N .u8 a0.2.2.2.2.2.2.2.1) false,.ptr 1 none 6,.row (.N .u8 a0.2.2.2.2.2.2.2.2.2.1) false,.row (.N .u8 a0.2.2.2.2.2.2.2.2.2.2) false]⟩,⟨1,false,100,6,bE [.obj (bE [.c (.int .i64 a0.2.2.2.2.2.2.2.2.1.1.1),.fs (Tn.F a0.2.2.2.2.2.2.2.2.1.1.2) (Tn.C a0.2.2.2.2.2.2.2.2.1.1.2)]) none 2,.c (.int .i64 a0.2.2.2.2.2.2.2.2.1.2.1),.c (.bool a0.2.2.2.2.2.2.2.2.1.2.2.1),.row (.N .u8 a0.2.2.2.2.2.2.2.2.1.2.2.2.1) false,.row (.N .u8 a0.2.2.2.2.2.2.2.2.1.2.2.2.2.1) false,.c (.slice none 0 0)]⟩] (jC.rv r) (jC.H r):=
 dV func51 fun Γ=>by unfold jC.f at h;exact (bd h fun _ e h=>G.ca (cO.ac e)<|bd h fun _ e h=>G.ca (iy.ac e)<|bd h fun _ e h=>G.ca (aO.ac e)<|bd h fun _ e h=>G.cl (fq.ac e)<|kn h (fun h=>kn h (fun h=>kn h (fun h=>nd h fun h=>nd h fun h=>nomatch h) fun h=>nd h fun h=>nd h fun h=>nomatch h) fun h=>rt h func51) fun h=>kq (v:=false)<|rt h func51)
def dZ.rv (r:(List Int)×Int×(Bool×Bool×Int×Int×Int×Bool×(Int×Tn)×(List Int)×((Int×Tn)×Int×Bool×(List Int)×(List Int)×(List Int))×(List Int)×(List Int))):AV:= .tup (bE [.own 2 none false,.c (.int .i64 r.2.1)])
def dZ.H (r:(List Int)×Int×(Bool×Bool×Int×Int×Int×Bool×(Int×Tn)×(List Int)×((Int×Tn)×Int×Bool×(List Int)×(List Int)×(List Int))×(List Int)×(List Int))):List HE:=[⟨0,false,72,11,bE [.c (.bool r.2.2.1),.c (.bool r.2.2.2.1),.c (.int .i64 r.2.2.2.2.1),.c (.int .i64 r.2.2.2.2.2.1),.c (.int .i64 r.2.2.2.2.2.2.1),.c (.bool r.2.2.2.2.2.2.2.1),.obj (bE [.c (.int .i64 r.2.2.2.2.2.2.2.2.1.1),.fs (Tn.F r.2.2.2.2.2.2.2.2.1.2) (Tn.C r.2.2.2.2.2.2.2.2.1.2)]) none 2,.row (.N .u8 r.2.2.2.2.2.2.2.2.2.1) false,.ptr 1 none 6,.row (.N .u8 r.2.2.2.2.2.2.2.2.2.2.2.1) false,.row (.N .u8 r.2.2.2.2.2.2.2.2.2.2.2.2) false]⟩,⟨1,false,100,6,bE [.obj (bE [.c (.int .i64 r.2.2.2.2.2.2.2.2.2.2.1.1.1),.fs (Tn.F r.2.2.2.2.2.2.2.2.2.2.1.1.2) (Tn.C r.2.2.2.2.2.2.2.2.2.2.1.1.2)]) none 2,.c (.int .i64 r.2.2.2.2.2.2.2.2.2.2.1.2.1),.c (.bool r.2.2.2.2.2.2.2.2.2.2.1.2.2.1),.row (.N .u8 r.2.2.2.2.2.2.2.2.2.2.1.2.2.2.1) false,.row (.N .u8 r.2.2.2.2.2.2.2.2.2.2.1.2.2.2.2.1) false,.c (.slice none 0 0)]⟩,⟨2,false,5,0,.N .u8 r.1⟩]
theorem dZ.ls {r:(List Int)×Int×(Bool×Bool×Int×Int×Int×Bool×(Int×Tn)×(List Int)×((Int×Tn)×Int×Bool×(List Int)×(List Int)×(List Int))×(List Int)×(List Int))} (Γ:Cr prog gl 14 58 2 (dZ.rv r) (dZ.H r) (some 47)): ∀k:Nat,(∀(a0:Bool×Bool×Int×Int×Int×Bool×(Int×Tn)×(List Int)×((Int×Tn)×Int×Bool×(List Int)×(List Int)×(List Int))×(List Int)) (a1:List Int) (nL:Int) (pK:Int) (dh:Int),dZ.l0 k a0 a1 nL pK dh=some r→GC Γ ⟨.it,pl f14 [1,0,1,1,1,1,1],[(0,.ptr 0 none 11),(4,.ptr 2 none 1),(5,.ptr 3 none 1),(6,.c (.int .i64 dh)),(7,.c (.int .i64 nL)),(8,.c (.int .i64 pK))],[⟨0,false,72,11,bE [.c (.bool a0.1),.c (.bool a0.2.1),.c (.int .i64 a0.2.2.1),.c (.int .i64 a0.2.2.2.1),.c (.int .i64 a0.2.2.2.2.1),.c (.bool a0.2.2.2.2.2.1),.obj (bE [.c (.int .i64 a0.2.2.2.2.2.2.1.1),.fs (Tn.F a0.2.2.2.2.2.2.1.2) (Tn.C a0.2.2.2.2.2.2.1.2)]) none 2,.row (.N .u8 a0.2.2.2.2.2.2.2.1) false,.ptr 1 none 6,.own 4 none false,.row (.N .u8 a0.2.2.2.2.2.2.2.2.2) false]⟩,⟨1,false,100,6,bE [.obj (bE [.c (.int .i64 a0.2.2.2.2.2.2.2.2.1.1.1),.fs (Tn.F a0.2.2.2.2.2.2.2.2.1.1.2) (Tn.C a0.2.2.2.2.2.2.2.2.1.1.2)]) none 2,.c (.int .i64 a0.2.2.2.2.2.2.2.2.1.2.1),.c (.bool a0.2.2.2.2.2.2.2.2.1.2.2.1),.row (.N .u8 a0.2.2.2.2.2.2.2.2.1.2.2.2.1) false,.row (.N .u8 a0.2.2.2.2.2.2.2.2.1.2.2.2.2.1) false,.c (.slice none 0 0)]⟩,⟨2,false,22,1,bE [.c (.slice none 0 0)]⟩,⟨3,false,30,1,.N .i64 ([0]:List Int)⟩,⟨4,false,5,0,.N .u8 a1⟩],16⟩)
 | 0=>(fun _ _ _ _ _ h=>nomatch h)
 | k+1=>(fun a0 a1 nL pK dh h=>by unfold dZ.l0 at h;exact (kn h (fun h=>la ((dZ.ls Γ k) _ _ _ _ _ h)) fun h=>nd h fun h=>nd h fun h=>bd h fun _ e h=>G.ca (jC.ac e)<|nd h fun h=>nd h fun h=>bd h fun _ e h=>G.ca (an.ac e)<|S9 h func14))
theorem dZ.ac {k:Nat} {a0:Bool×Bool×Int×Int×Int×Bool×(Int×Tn)×(List Int)×((Int×Tn)×Int×Bool×(List Int)×(List Int)×(List Int))×(List Int)} {a1:List Int} {r:(List Int)×Int×(Bool×Bool×Int×Int×Int×Bool×(Int×Tn)×(List Int)×((Int×Tn)×Int×Bool×(List Int)×(List Int)×(List Int))×(List Int)×(List Int))} (h:dZ.f k a0 a1=some r):dU 14 2 [.ptr 0 none 11,.row (.N .u8 a1) false] [⟨0,false,72,11,bE [.c (.bool a0.1),.c (.bool a0.2.1),.c (.int .i64 a0.2.2.1),.c (.int .i64 a0.2.2.2.1),.c (.int .i64 a0.2.2.2.2.1),.c (.bool a0.2.2.2.2.2.1),.obj (bE [.c (.int .i64 a0.2.2.2.2.2.2.1.1),.fs (Tn.F a0.2.2.2.2.2.2.1.2) (Tn.C a0.2.2.2.2.2.2.1.2)]) none 2,.row (.N .u8 a0.2.2.2.2.2.2.2.1) false,.ptr 1 none 6,.c (.slice none 0 0),.row (.N .u8 a0.2.2.2.2.2.2.2.2.2) false]⟩,⟨1,false,100,6,bE [.obj (bE [.c (.int .i64 a0.2.2.2.2.2.2.2.2.1.1.1),.fs (Tn.F a0.2.2.2.2.2.2.2.2.1.1.2) (Tn.C a0.2.2.2.2.2.2.2.2.1.1.2)]) none 2,.c (.int .i64 a0.2.2.2.2.2.2.2.2.1.2.1),.c (.bool a0.2.2.2.2.2.2.2.2.1.2.2.1),.row (.N .u8 a0.2.2.2.2.2.2.2.2.1.2.2.2.1) false,.row (.N .u8 a0.2.2.2.2.2.2.2.2.1.2.2.2.2.1) false,.c (.slice none 0 0)]⟩] (dZ.rv r) (dZ.H r):=
 dV func14 fun Γ=>by unfold dZ.f at h;exact (G.dfr<|bd h fun _ e h=>G.cl (iO.ac e)<|nd h fun h=>G.dr<|bd h fun _ e h=>D.cl (jB.ac e)<|bd h fun _ e h=>D.cl (dz.ac e)<|D.fi<|la ((dZ.ls (Γ.put 47) k) _ _ _ _ _ h))
def jZ.rv (r:(List Int)):AV:= .row (.N .u8 r) false
def jZ.H (r:(List Int)):List HE:=[]
theorem jZ.ac {k:Nat} {a0:Bool×Bool×Int×Int×Int×Bool×(Int×Tn)×(List Int)×((Int×Tn)×Int×Bool×(List Int)×(List Int)×(List Int))×(List Int)×(List Int)} {a1:List Int} {r:(List Int)} (h:jZ.f k a0 a1=some r):dU 52 2 [.ptr 0 none 11,.row (.N .u8 a1) false] [⟨0,false,72,11,bE [.c (.bool a0.1),.c (.bool a0.2.1),.c (.int .i64 a0.2.2.1),.c (.int .i64 a0.2.2.2.1),.c (.int .i64 a0.2.2.2.2.1),.c (.bool a0.2.2.2.2.2.1),.obj (bE [.c (.int .i64 a0.2.2.2.2.2.2.1.1),.fs (Tn.F a0.2.2.2.2.2.2.1.2) (Tn.C a0.2.2.2.2.2.2.1.2)]) none 2,.row (.N .u8 a0.2.2.2.2.2.2.2.1) false,.ptr 1 none 6,.row (.N .u8 a0.2.2.2.2.2.2.2.2.2.1) false,.row (.N .u8 a0.2.2.2.2.2.2.2.2.2.2) false]⟩,⟨1,false,100,6,bE [.obj (bE [.c (.int .i64 a0.2.2.2.2.2.2.2.2.1.1.1),.fs (Tn.F a0.2.2.2.2.2.2.2.2.1.1.2) (Tn.C a0.2.2.2.2.2.2.2.2.1.1.2)]) none 2,.c (.int .i64 a0.2.2.2.2.2.2.2.2.1.2.1),.c (.bool a0.2.2.2.2.2.2.2.2.1.2.2.1),.row (.N .u8 a0.2.2.2.2.2.2.2.2.1.2.2.2.1) false,.row (.N .u8 a0.2.2.2.2.2.2.2.2.1.2.2.2.2.1) false,.c (.slice none 0 0)]⟩] (jZ.rv r) (jZ.H r):=
 dV func52 fun Γ=>by unfold jZ.f at h;exact (bd h fun _ e h=>G.ca (aO.ac e)<|bd h fun _ e h=>G.cl (fq.ac e)<|kn h (fun h=>G.dr<|bd h fun _ e h=>D.ca (eB.ac e)<|D.fi<|bd h fun _ e h=>G.ca (iy.ac e)<|rt h func52) fun h=>kn h (fun h=>nomatch h) fun h=>kn h (fun h=>nomatch h) fun h=>kn h (fun h=>bd h fun _ e h=>G.ca (iy.ac e)<|G.dr<|nomatch h) fun h=>G.dr<|nomatch h)
def io.rv (r:(List Int)×Int):AV:= .tup (bE [.row (.N .u8 r.1) false,.c (.int .i64 r.2)])
def io.H (r:(List Int)×Int):List HE:=[]
theorem io.ac {k:Nat} {a0:Bool×Bool×Int×Int×Int×Bool×(Int×Tn)×(List Int)×((Int×Tn)×Int×Bool×(List Int)×(List Int)×(List Int))×(List Int)×(List Int)} {r:(List Int)×Int} (h:io.f k a0=some r):dU 15 2 [.ptr 0 none 11] [⟨0,false,72,11,bE [.c (.bool a0.1),.c (.bool a0.2.1),.c (.int .i64 a0.2.2.1),.c (.int .i64 a0.2.2.2.1),.c (.int .i64 a0.2.2.2.2.1),.c (.bool a0.2.2.2.2.2.1),.obj (bE [.c (.int .i64 a0.2.2.2.2.2.2.1.1),.fs (Tn.F a0.2.2.2.2.2.2.1.2) (Tn.C a0.2.2.2.2.2.2.1.2)]) none 2,.row (.N .u8 a0.2.2.2.2.2.2.2.1) false,.ptr 1 none 6,.row (.N .u8 a0.2.2.2.2.2.2.2.2.2.1) false,.row (.N .u8 a0.2.2.2.2.2.2.2.2.2.2) false]⟩,⟨1,false,100,6,bE [.obj (bE [.c (.int .i64 a0.2.2.2.2.2.2.2.2.1.1.1),.fs (Tn.F a0.2.2.2.2.2.2.2.2.1.1.2) (Tn.C a0.2.2.2.2.2.2.2.2.1.1.2)]) none 2,.c (.int .i64 a0.2.2.2.2.2.2.2.2.1.2.1),.c (.bool a0.2.2.2.2.2.2.2.2.1.2.2.1),.row (.N .u8 a0.2.2.2.2.2.2.2.2.1.2.2.2.1) false,.row (.N .u8 a0.2.2.2.2.2.2.2.2.1.2.2.2.2.1) false,.c (.slice none 0 0)]⟩] (io.rv r) (io.H r):=
 dV func15 fun Γ=>by unfold io.f at h;exact (G.dfr<|bd h fun _ e h=>G.cl (iO.ac e)<|bd h fun _ e h=>G.ca (jZ.ac e)<|S9 h func15)
def hZ.rv (r:(List Int)×Int):AV:= .tup (bE [.own 0 none false,.c (.int .i64 r.2)])
def hZ.H (r:(List Int)×Int):List HE:=[⟨0,false,5,0,.N .u8 r.1⟩]
theorem hZ.ls {r:(List Int)×Int} (Γ:Cr prog gl 20 59 0 (hZ.rv r) (hZ.H r)): ∀k:Nat,(∀(a3:List (List Int)) (gj:Int×(Bool×Bool×Int×Int×Int×Bool×(Int×Tn)×(List Int)×((Int×Tn)×Int×Bool×(List Int)×(List Int)×(List Int))×(List Int))),hZ.l0 k a3 gj=some r→GC Γ ⟨.it,pl f20 [1,1,1,1,0,1,0,0],[(10,.ptr 0 none 11),(12,.c (.slice none 0 0)),(28,.row (.R .u8 a3) false),(29,.c (.int .i64 (a3.length:Int))),(30,.c (.int .i64 0))],[⟨0,false,72,11,bE [.c (.bool gj.2.1),.c (.bool gj.2.2.1),.c (.int .i64 gj.2.2.2.1),.c (.int .i64 gj.2.2.2.2.1),.c (.int .i64 gj.2.2.2.2.2.1),.c (.bool gj.2.2.2.2.2.2.1),.obj (bE [.c (.int .i64 gj.2.2.2.2.2.2.2.1.1),.fs (Tn.F gj.2.2.2.2.2.2.2.1.2) (Tn.C gj.2.2.2.2.2.2.2.1.2)]) none 2,.row (.N .u8 gj.2.2.2.2.2.2.2.2.1) false,.ptr 1 none 6,.c (.slice none 0 0),.row (.N .u8 gj.2.2.2.2.2.2.2.2.2.2) false]⟩,⟨1,false,100,6,bE [.obj (bE [.c (.int .i64 gj.2.2.2.2.2.2.2.2.2.1.1.1),.fs (Tn.F gj.2.2.2.2.2.2.2.2.2.1.1.2) (Tn.C gj.2.2.2.2.2.2.2.2.2.1.1.2)]) none 2,.c (.int .i64 gj.2.2.2.2.2.2.2.2.2.1.2.1),.c (.bool gj.2.2.2.2.2.2.2.2.2.1.2.2.1),.row (.N .u8 gj.2.2.2.2.2.2.2.2.2.1.2.2.2.1) false,.row (.N .u8 gj.2.2.2.2.2.2.2.2.2.1.2.2.2.2.1) false,.c (.slice none 0 0)]⟩],16⟩)∧(∀(a3:List (List Int)) (fW:(List Int)×Int×(Bool×Bool×Int×Int×Int×Bool×(Int×Tn)×(List Int)×((Int×Tn)×Int×Bool×(List Int)×(List Int)×(List Int))×(List Int)×(List Int))),hZ.l1 k a3 fW=some r→GC Γ ⟨.it,pl f20 [1,1,1,1,0,1,0,0],[(10,.ptr 0 none 11),(12,.own 2 none false),(28,.row (.R .u8 a3) false),(29,.c (.int .i64 (a3.length:Int))),(30,.c (.int .i64 (ak (0+1))))],[⟨0,false,72,11,bE [.c (.bool fW.2.2.1),.c (.bool fW.2.2.2.1),.c (.int .i64 fW.2.2.2.2.1),.c (.int .i64 fW.2.2.2.2.2.1),.c (.int .i64 fW.2.2.2.2.2.2.1),.c (.bool fW.2.2.2.2.2.2.2.1),.obj (bE [.c (.int .i64 fW.2.2.2.2.2.2.2.2.1.1),.fs (Tn.F fW.2.2.2.2.2.2.2.2.1.2) (Tn.C fW.2.2.2.2.2.2.2.2.1.2)]) none 2,.row (.N .u8 fW.2.2.2.2.2.2.2.2.2.1) false,.ptr 1 none 6,.row (.N .u8 fW.2.2.2.2.2.2.2.2.2.2.2.1) false,.row (.N .u8 fW.2.2.2.2.2.2.2.2.2.2.2.2) false]⟩,⟨1,false,100,6,bE [.obj (bE [.c (.int .i64 fW.2.2.2.2.2.2.2.2.2.2.1.1.1),.fs (Tn.F fW.2.2.2.2.2.2.2.2.2.2.1.1.2) (Tn.C fW.2.2.2.2.2.2.2.2.2.2.1.1.2)]) none 2,.c (.int .i64 fW.2.2.2.2.2.2.2.2.2.2.1.2.1),.c (.bool fW.2.2.2.2.2.2.2.2.2.2.1.2.2.1),.row (.N .u8 fW.2.2.2.2.2.2.2.2.2.2.1.2.2.2.1) false,.row (.N .u8 fW.2.2.2.2.2.2.2.2.2.2.1.2.2.2.2.1) false,.c (.slice none 0 0)]⟩,⟨2,false,5,0,.N .u8 fW.1⟩],16⟩)
 | 0=>⟨(fun _ _ h=>nomatch h),(fun _ _ h=>nomatch h)⟩
 | k+1=>⟨(fun a3 gj h=>by unfold hZ.l0 at h;exact (kn h (fun h=>nd h fun h=>nd h fun h=>bd h fun _ e h=>G.ca (dZ.ac e)<|kn h (fun h=>rt h func20) fun h=>nd h fun h=>la ((hZ.ls Γ k).2 _ _ h)) fun h=>bd h fun _ e h=>G.ca (io.ac e)<|kn h (fun h=>rt h func20) fun h=>bd h fun _ e h=>G.cl (ai.ac e)<|rt h func20)),(fun a3 fW h=>by unfold hZ.l1 at h;exact (kn h (fun h=>nd h fun h=>nd h fun h=>nomatch h) fun h=>bd h fun _ e h=>G.ca (io.ac e)<|kn h (fun h=>rt h func20) fun h=>bd h fun _ e h=>G.cl (ai.ac e)<|rt h func20))⟩
end Go.Scr.A
