/- Short steps of the walks. -/
import Derived.Test.YtdemmfohkhpklaaGreatDoorProg
import Derived.Test.YtdemmfohkhpklaaGreatDoorXa5
import Derived.Test.YtdemmfohkhpklaaGreatDoorXp
set_option linter.unusedVariables false
namespace Go.Scr.A
open Go.Proofs.Tryz Go.Scr.S
def gl:AE:=[(1,.obj (.N .u8 Kq) none 8)]
abbrev dU (f nm:Nat) (args:List AV) (H:List HE) (rv:AV) (H':List HE):Prop:=AC prog gl f nm args H rv H'
theorem dV {f nm:Nat} {fn:Func} {rv:AV} {H':List HE} {args:List AV} {H:List HE} (hf:prog.funcs[f]? =some fn)
 (h: ∀Γ:Cr prog gl f fn.ntmps nm rv H',GC Γ ⟨.it,[.code (zy fn)],IH 0 args,H,nm⟩) (hs:(fn.body,Nat.ble args.length fn.ntmps)=(some (zy fn),true):=by kernel_rfl):dU f nm args H rv H':=by
 injection hs with h1 h2
 exact AC.mk hf h1 h2 rfl h
def oA {α:Type} (x:Option α) (f:α→AV):AV:=match x with
 | none=> .c (.pointer none)
 | some a=>f a
def gA (b:Bool) (a:AV):AV:=match b with
 | true=> .any
 | false=>a
def gH (b:Bool) (l:List HE):List HE:=match b with
 | true=>[]
 | false=>l
def oX {α:Type} (x:Option α) (f:α→Ct):Ct:=match x with
 | none=> .nil
 | some a=>f a
section
variable {f n nm:Nat} {rv:AV} {H':List HE} {df:Option FuncId} {Γ:Cr prog gl f n nm rv H' df} {S:St} {R:Rs} {α β:Type} {r:α}
theorem nd {c:Prop} [Decidable c] {x:Option α} (h:gd c x=some r) (k:x=some r→GC Γ (mG prog gl n S).st) (e:(mG prog gl n S).nb=some (decide c):=by kernel_rfl):GC Γ S:=by
 unfold gd at h
 split at h
 ·rename_i h1;exact G.nd h1 (k h) e
 ·cases h
theorem nb {c:Bool} {x:Option α} (h:gb c x=some r) (k:x=some r→GC Γ (mG prog gl n S).st) (e:(mG prog gl n S).nb=some c:=by kernel_rfl):GC Γ S:=by
 unfold gb at h
 split at h
 ·rename_i h1;exact G.nd h1 (k h) e
 ·cases h
theorem bv {c:Prop} [Decidable c] {x:Option α} (h:gd c x=some r) (k:x=some r→GD Γ.cx (tM prog gl R).st) (e:(tM prog gl R).nb=some (decide c):=by kernel_rfl):GD Γ.cx R:=by
 unfold gd at h
 split at h
 ·rename_i h1;exact D.nd h1 (k h) e
 ·cases h
theorem Oh {c:Bool} {x:Option α} (h:gb c x=some r) (k:x=some r→GD Γ.cx (tM prog gl R).st) (e:(tM prog gl R).nb=some c:=by kernel_rfl):GD Γ.cx R:=by
 unfold gb at h
 split at h
 ·rename_i h1;exact D.nd h1 (k h) e
 ·cases h
theorem kn {b:Bool} {x y:Option α} (h:(if b=true then x else y)=some r) (k1:x=some r→GC Γ ((mG prog gl n S).stT true)) (k2:y=some r→GC Γ ((mG prog gl n S).stT false)) (e:(mG prog gl n S).tb=some b:=by kernel_rfl):GC Γ S:=by
 cases b with
 | true=>exact G.kn rfl (k1 h) e
 | false=>exact G.kn rfl (k2 h) e
theorem qL {b:Bool} {x y:Option α} (h:(if b=true then x else y)=some r) (k1:x=some r→GD Γ.cx ((tM prog gl R).stT true)) (k2:y=some r→GD Γ.cx ((tM prog gl R).stT false)) (e:(tM prog gl R).tb=some b:=by kernel_rfl):GD Γ.cx R:=by
 cases b with
 | true=>exact D.kn rfl (k1 h) e
 | false=>exact D.kn rfl (k2 h) e
theorem kq {v:Bool} (k:GC Γ ((mG prog gl n S).stT v)) (e:(mG prog gl n S).tb=some v:=by kernel_rfl):GC Γ S:=G.kn rfl k e
theorem Tq {v:Bool} (k:GD Γ.cx ((tM prog gl R).stT v)) (e:(tM prog gl R).tb=some v:=by kernel_rfl):GD Γ.cx R:=D.kn rfl k e
theorem lt {p:Prop} {a:β} {g:β→Option α} (h:(some a).bind g=some r) (k:g a=some r→p):p:=k h
theorem bd {p:Prop} {x:Option β} {g:β→Option α} (h:x.bind g=some r) (k: ∀a,x=some a→g a=some r→p):p:=by
 obtain ⟨a,h1,h2⟩:=Option.bind_eq_some_iff.mp h
 exact k a h1 h2
theorem nq {m:Nat} (k1:m=0→GC Γ (mG prog gl n S).st) (k2:GC Γ (mG prog gl n S).st2) (h:(mG prog gl n S).nqn=some m:=by kernel_rfl):GC Γ S:=G.nq k1 k2 h
theorem la {S2:St} (r:GC Γ S2) (h:(mG prog gl n S).isLoop=true:=by kernel_rfl) (h1:Fj nm S2 (mG prog gl n S).st=true:=by kernel_rfl) (h2:Fk nm S2 (mG prog gl n S).st=Fm nm S2 (mG prog gl n S).st:=by kernel_rfl):GC Γ S:=G.lp (G.at_ r h1 h2) h
theorem rb {t:Nat} (r:GC Γ ((mG prog gl n S).st.reb t)) (h:((mG prog gl n S).it? &&(mG prog gl n S).st.reb? t)=true:=by kernel_rfl):GC Γ S:=G.rb r h
end
set_option maxRecDepth 100000 in
theorem IT (a b:Value) (w:World):CallsD prog 47 #[a,b] .returning w (fun e u' w'=> ∃y,e= .returned y∧u'= .returning∧w'=w):=by
 intro c cs hc
 obtain ⟨fn,tmps,todo,defers,mode,kind,ro⟩:=c
 subst hc
 let fr:Frame:= {(Frame.enter prog 47 #[a,b] .deferred) with mode:= .returning,todo:=[],tmps:= #[a,b,undef,undef,.nilIface,undef,undef,.nilIface,undef,.bool true,undef,undef,undef,undef,undef,undef,undef,undef]}
 refine ⟨.returned (.tuple #[]),.returning,w,fr,⟨_,rfl,rfl,rfl⟩,?_,rfl,rfl,rfl,f47,func47,?_⟩
 ·show Steps _ _ _
  exact ⟨15,by kernel_rfl⟩
 ·exact results_none (by kernel_rfl) _ _ _
theorem Tr:LQ prog (some 47):=⟨fun x y w=>by kernel_rfl,fun x y w=>IT x y w⟩
theorem S9 {f n nm:Nat} {α:Type} {rv:α→AV} {H':α→List HE} {v r:α} {Γ:Cr prog gl f n nm (rv r) (H' r) (some 47)} {S:St} {fn:Func} (h:some v=some r) (hf:prog.funcs[f]? =some fn) (h0:(mG prog gl n S).isRet=true:=by kernel_rfl)
 (h1:A9 prog nm fn (rv v) (H' v) (mG prog gl n S).st=true:=by kernel_rfl) (h2:Ba prog nm fn (rv v) (H' v) (mG prog gl n S).st=Bb prog nm fn (rv v) (H' v) (mG prog gl n S).st:=by kernel_rfl):GC Γ S:=by
 injection h with h
 subst h
 exact G.rt Tr hf h0 h1 h2
theorem rt {f n nm:Nat} {α:Type} {rv:α→AV} {H':α→List HE} {v r:α} {Γ:Cr prog gl f n nm (rv r) (H' r)} {S:St} {fn:Func} (h:some v=some r) (hf:prog.funcs[f]? =some fn) (h0:(mG prog gl n S).isRet=true:=by kernel_rfl)
 (h1:A9 prog nm fn (rv v) (H' v) (mG prog gl n S).st=true:=by kernel_rfl) (h2:Ba prog nm fn (rv v) (H' v) (mG prog gl n S).st=Bb prog nm fn (rv v) (H' v) (mG prog gl n S).st:=by kernel_rfl):GC Γ S:=by
 injection h with h
 subst h
 exact G.rt trivial hf h0 h1 h2
end Go.Scr.A
