/- Plain functions that answer, whatever comes in. -/
import Derived.Test.YtdemmfohkhpklaaGreatDoorPt
import Derived.Test.YtdemmfohkhpklaaGreatDoorPa
import Derived.Test.YtdemmfohkhpklaaGreatDoorPb
set_option linter.unusedVariables false
set_option linter.unusedSimpArgs false
set_option maxRecDepth 10000
namespace Go.Scr.S
theorem Vz.l0t (z_:Nat): ∀ {a:Li} {x:Li} {i:Int} (h0_:0≤i) (h1_:a.length≤1000) (h2_:a.length%2=0) (h3_:2*(x.length:Int)=i) (h4_:i≤a.length) (hn_:(a.length-i.toNat)=z_),Tt (fun k=>Vz.l0 k a x i) (fun r=>2*r.length=a.length):=by
 induction z_ using Nat.strongRecOn with
 | ind z_ ih=>
 intro a x i h0_ h1_ h2_ h3_ h4_ hn_
 refine Tt.succ ?_
 simp only [Vz.l0]
 repeat' with_reducible first | refine Tt.sw fun _ _=> ?_ | refine Tt.sb ?_ | refine Tt.ret ?_ | refine Tt.mono (ih _ ?_ ?_ ?_ ?_ ?_ ?_ rfl) fun _ _=> ?_ | refine Tt.dn (fun _=> ?_) ?_ | refine Tt.di (fun _=> ?_) fun _=> ?_ | refine Tt.ite (fun _=> ?_) fun _=> ?_
 all_goals exact fin_
theorem Vz.t {a:Li} (h0_:a.length≤1000) (h1_:a.length%2=0):Tt (fun k=>Vz.f k a) (fun r=>2*r.length=a.length):=by
 simp only [Vz.f]
 repeat' with_reducible first | refine Tt.sw fun _ _=> ?_ | refine Tt.sb ?_ | refine Tt.ret ?_ | refine Tt.mono (Vz.l0t _ ?_ ?_ ?_ ?_ ?_ rfl) fun _ _=> ?_ | refine Tt.dn (fun _=> ?_) ?_ | refine Tt.di (fun _=> ?_) fun _=> ?_ | refine Tt.ite (fun _=> ?_) fun _=> ?_
 all_goals exact fin_
theorem Vv.l0t (z_:Nat): ∀ {a:Li} {x:Li} {i:Int} (h0_:a.length=16) (h1_:x.length≤60) (hn_:(60-x.length)=z_),Tt (fun k=>Vv.l0 k a x i) (fun r=>r.1.length=52∧r.2=0):=by
 induction z_ using Nat.strongRecOn with
 | ind z_ ih=>
 intro a x i h0_ h1_ hn_
 refine Tt.succ ?_
 simp only [Vv.l0]
 repeat' with_reducible first | refine Tt.sw fun _ _=> ?_ | refine Tt.sb ?_ | refine Tt.ret ?_ | refine Tt.bind (Jc.t ?_) fun _ _=> ?_ | refine Tt.mono (Jc.t ?_) fun _ _=> ?_ | refine Tt.bind (Vz.t ?_ ?_) fun _ _=> ?_ | refine Tt.mono (Vz.t ?_ ?_) fun _ _=> ?_ | refine Tt.ebind (Y1.e ?_) ?_ | refine Tt.mono (ih _ ?_ ?_ ?_ rfl) fun _ _=> ?_ | refine Tt.dn (fun _=> ?_) ?_ | refine Tt.di (fun _=> ?_) fun _=> ?_ | refine Tt.ite (fun _=> ?_) fun _=> ?_
 all_goals exact fin_
theorem Vv.t {a:Li} (h0_:a.length=16):Tt (fun k=>Vv.f k a) (fun r=>r.1.length=52∧r.2=0):=by
 simp only [Vv.f]
 repeat' with_reducible first | refine Tt.sw fun _ _=> ?_ | refine Tt.sb ?_ | refine Tt.ret ?_ | refine Tt.mono (Vv.l0t _ ?_ ?_ rfl) fun _ _=> ?_ | refine Tt.dn (fun _=> ?_) ?_ | refine Tt.di (fun _=> ?_) fun _=> ?_ | refine Tt.ite (fun _=> ?_) fun _=> ?_
 all_goals exact fin_
theorem V0.t {a:Int} (h0_:True):Tt (fun k=>V0.f k a) (fun r=>True):=by
 simp only [V0.f]
 repeat' with_reducible first | refine Tt.sw fun _ _=> ?_ | refine Tt.sb ?_ | refine Tt.ret ?_ | refine Tt.dn (fun _=> ?_) ?_ | refine Tt.di (fun _=> ?_) fun _=> ?_ | refine Tt.ite (fun _=> ?_) fun _=> ?_
 all_goals exact fin_
theorem Vw.t {a:Int} {b:Int} (h0_:True):Tt (fun k=>Vw.f k a b) (fun r=>True):=by
 simp only [Vw.f]
 repeat' with_reducible first | refine Tt.sw fun _ _=> ?_ | refine Tt.sb ?_ | refine Tt.ret ?_ | refine Tt.dn (fun _=> ?_) ?_ | refine Tt.di (fun _=> ?_) fun _=> ?_ | refine Tt.ite (fun _=> ?_) fun _=> ?_
 all_goals exact fin_
theorem Vu.l0t (z_:Nat): ∀ {x:Int} {y:Int} {i:Int} (h0_:i≤65535) (hn_:i.toNat=z_),Tt (fun k=>Vu.l0 k x y i) (fun r=>True):=by
 induction z_ using Nat.strongRecOn with
 | ind z_ ih=>
 intro x y i h0_ hn_
 refine Tt.succ ?_
 simp only [Vu.l0]
 repeat' with_reducible first | refine Tt.sw fun _ _=> ?_ | refine Tt.sb ?_ | refine Tt.ret ?_ | refine Tt.bind (Vw.t ?_) fun _ _=> ?_ | refine Tt.mono (Vw.t ?_) fun _ _=> ?_ | refine Tt.mono (ih _ ?_ ?_ rfl) fun _ _=> ?_ | refine Tt.dn (fun _=> ?_) ?_ | refine Tt.di (fun _=> ?_) fun _=> ?_ | refine Tt.ite (fun _=> ?_) fun _=> ?_
 all_goals exact fin_
theorem Vu.t {a:Int} (h0_:True):Tt (fun k=>Vu.f k a) (fun r=>True):=by
 simp only [Vu.f]
 repeat' with_reducible first | refine Tt.sw fun _ _=> ?_ | refine Tt.sb ?_ | refine Tt.ret ?_ | refine Tt.mono (Vu.l0t _ ?_ rfl) fun _ _=> ?_ | refine Tt.dn (fun _=> ?_) ?_ | refine Tt.di (fun _=> ?_) fun _=> ?_ | refine Tt.ite (fun _=> ?_) fun _=> ?_
 all_goals exact fin_
theorem V2.l0t (z_:Nat): ∀ {a:Li} {x:Li} {i:Int} (h0_:a.length=52) (h1_: -1≤i) (h2_:i≤8) (h3_:(i= -1∧x.length=52)∨(0≤i∧(x.length:Int)=6*(8-i))) (hn_:(i+1).toNat=z_),Tt (fun k=>V2.l0 k a x i) (fun r=>r.length=52):=by
 induction z_ using Nat.strongRecOn with
 | ind z_ ih=>
 intro a x i h0_ h1_ h2_ h3_ hn_
 refine Tt.succ ?_
 simp only [V2.l0]
 repeat' with_reducible first | refine Tt.sw fun _ _=> ?_ | refine Tt.sb ?_ | refine Tt.ret ?_ | refine Tt.bind (V0.t ?_) fun _ _=> ?_ | refine Tt.mono (V0.t ?_) fun _ _=> ?_ | refine Tt.bind (Vu.t ?_) fun _ _=> ?_ | refine Tt.mono (Vu.t ?_) fun _ _=> ?_ | refine Tt.mono (ih _ ?_ ?_ ?_ ?_ ?_ rfl) fun _ _=> ?_ | refine Tt.dn (fun _=> ?_) ?_ | refine Tt.di (fun _=> ?_) fun _=> ?_ | refine Tt.ite (fun _=> ?_) fun _=> ?_
 all_goals exact fin_
theorem V2.t {a:Li} (h0_:a.length=52):Tt (fun k=>V2.f k a) (fun r=>r.length=52):=by
 simp only [V2.f]
 repeat' with_reducible first | refine Tt.sw fun _ _=> ?_ | refine Tt.sb ?_ | refine Tt.ret ?_ | refine Tt.mono (V2.l0t _ ?_ ?_ ?_ ?_ rfl) fun _ _=> ?_ | refine Tt.dn (fun _=> ?_) ?_ | refine Tt.di (fun _=> ?_) fun _=> ?_ | refine Tt.ite (fun _=> ?_) fun _=> ?_
 all_goals exact fin_
theorem Vx.t {a:Li} (h0_:a.length=16):Tt (fun k=>Vx.f k a) (fun r=> ∃u v,r=(some (u,v),0)∧u.length=52∧v.length=52):=by
 simp only [Vx.f]
 repeat' with_reducible first | refine Tt.sw fun _ _=> ?_ | refine Tt.sb ?_ | refine Tt.ret ?_ | refine Tt.bind (Vv.t ?_) fun _ _=> ?_ | refine Tt.mono (Vv.t ?_) fun _ _=> ?_ | refine Tt.bind (V2.t ?_) fun _ _=> ?_ | refine Tt.mono (V2.t ?_) fun _ _=> ?_ | refine Tt.dn (fun _=> ?_) ?_ | refine Tt.di (fun _=> ?_) fun _=> ?_ | refine Tt.ite (fun _=> ?_) fun _=> ?_
 all_goals first | omega | ((refine ⟨_,_,rfl,?_,?_⟩);done) | (simp only [LL,LN,LB] at*;omega) | skip
 all_goals try simp (disch:=first | omega | (simp only [LL,LN];omega)) only [I64i] at*
 all_goals try simp only [LL,LN,LB] at*
 all_goals (repeat' first | omega | (with_reducible first | assumption | exact True.intro | apply Bw.app | apply Bw.tk | apply Bw.dr | apply Bw.cons | exact Bw.nil | apply Bw.set | apply Bw.rep | apply Bw.rd | apply Al.add | exact Al.nil | apply Al.rd | apply Al.rev | apply Al.cons | apply Ml.cons | exact Ml.nil | apply And.intro) | (simp only [LL,LN,LB] at*;omega) | exact And.right (by with_reducible assumption) | exact And.left (by with_reducible assumption) | with_reducible exact Or.inl True.intro | with_reducible exact Or.inr True.intro | (refine ⟨_,_,rfl,?_,?_⟩))
theorem Vy.t {a:Int} {b:Int} (h0_:True):Tt (fun k=>Vy.f k a b) (fun r=>True):=by
 simp only [Vy.f]
 repeat' with_reducible first | refine Tt.sw fun _ _=> ?_ | refine Tt.sb ?_ | refine Tt.ret ?_ | refine Tt.dn (fun _=> ?_) ?_ | refine Tt.di (fun _=> ?_) fun _=> ?_ | refine Tt.ite (fun _=> ?_) fun _=> ?_
 all_goals exact fin_
theorem V1.l0t (z_:Nat): ∀ {x:Li} {a:Int} {b:Int} {c:Int} {d:Int} (h0_:x.length%6=4) (h1_:x.length≤1000) (hn_:x.length=z_),Tt (fun k=>V1.l0 k x a b c d) (fun r=>r.length=4):=by
 induction z_ using Nat.strongRecOn with
 | ind z_ ih=>
 intro x a b c d h0_ h1_ hn_
 refine Tt.succ ?_
 simp only [V1.l0]
 repeat' with_reducible first | refine Tt.sw fun _ _=> ?_ | refine Tt.sb ?_ | refine Tt.ret ?_ | refine Tt.bind (Vw.t ?_) fun _ _=> ?_ | refine Tt.mono (Vw.t ?_) fun _ _=> ?_ | refine Tt.bind (Vy.t ?_) fun _ _=> ?_ | refine Tt.mono (Vy.t ?_) fun _ _=> ?_ | refine Tt.mono (ih _ ?_ ?_ ?_ rfl) fun _ _=> ?_ | refine Tt.dn (fun _=> ?_) ?_ | refine Tt.di (fun _=> ?_) fun _=> ?_ | refine Tt.ite (fun _=> ?_) fun _=> ?_
 all_goals exact fin_
theorem V1.t {a:Li} {b:Li} (h0_:a.length=4) (h1_:b.length=52):Tt (fun k=>V1.f k a b) (fun r=>r.length=4):=by
 simp only [V1.f]
 repeat' with_reducible first | refine Tt.sw fun _ _=> ?_ | refine Tt.sb ?_ | refine Tt.ret ?_ | refine Tt.mono (V1.l0t _ ?_ ?_ rfl) fun _ _=> ?_ | refine Tt.dn (fun _=> ?_) ?_ | refine Tt.di (fun _=> ?_) fun _=> ?_ | refine Tt.ite (fun _=> ?_) fun _=> ?_
 all_goals exact fin_
theorem Vt.l0t (z_:Nat): ∀ {t:Li} {x:Li} {i:Int} (h0_:t.length=4) (h1_:0≤i) (h2_:i≤4) (h3_:(x.length:Int)=2*i) (hn_:(4-i).toNat=z_),Tt (fun k=>Vt.l0 k t x i) (fun r=>r.1.length=8∧r.2=0):=by
 induction z_ using Nat.strongRecOn with
 | ind z_ ih=>
 intro t x i h0_ h1_ h2_ h3_ hn_
 refine Tt.succ ?_
 simp only [Vt.l0]
 repeat' with_reducible first | refine Tt.sw fun _ _=> ?_ | refine Tt.sb ?_ | refine Tt.ret ?_ | refine Tt.mono (ih _ ?_ ?_ ?_ ?_ ?_ rfl) fun _ _=> ?_ | refine Tt.dn (fun _=> ?_) ?_ | refine Tt.di (fun _=> ?_) fun _=> ?_ | refine Tt.ite (fun _=> ?_) fun _=> ?_
 all_goals exact fin_
theorem Vt.l1t (z_:Nat): ∀ {t:Li} {x:Li} {i:Int} (h0_:t.length=4) (h1_:0≤i) (h2_:i≤4) (h3_:(x.length:Int)=2*i) (hn_:(4-i).toNat=z_),Tt (fun k=>Vt.l1 k t x i) (fun r=>r.1.length=8∧r.2=0):=by
 induction z_ using Nat.strongRecOn with
 | ind z_ ih=>
 intro t x i h0_ h1_ h2_ h3_ hn_
 refine Tt.succ ?_
 simp only [Vt.l1]
 repeat' with_reducible first | refine Tt.sw fun _ _=> ?_ | refine Tt.sb ?_ | refine Tt.ret ?_ | refine Tt.mono (ih _ ?_ ?_ ?_ ?_ ?_ rfl) fun _ _=> ?_ | refine Tt.dn (fun _=> ?_) ?_ | refine Tt.di (fun _=> ?_) fun _=> ?_ | refine Tt.ite (fun _=> ?_) fun _=> ?_
 all_goals exact fin_
theorem Vt.t {a:Li×Li} {b:Li} {c:Bool} (h0_:b.length=8) (h1_:a.1.length=52) (h2_:a.2.length=52):Tt (fun k=>Vt.f k a b c) (fun r=>r.1.length=8∧r.2=0):=by
 simp only [Vt.f]
 repeat' with_reducible first | refine Tt.sw fun _ _=> ?_ | refine Tt.sb ?_ | refine Tt.ret ?_ | refine Tt.bind (Vz.t ?_ ?_) fun _ _=> ?_ | refine Tt.mono (Vz.t ?_ ?_) fun _ _=> ?_ | refine Tt.bind (V1.t ?_ ?_) fun _ _=> ?_ | refine Tt.mono (V1.t ?_ ?_) fun _ _=> ?_ | refine Tt.mono (Vt.l0t _ ?_ ?_ ?_ ?_ rfl) fun _ _=> ?_ | refine Tt.mono (Vt.l1t _ ?_ ?_ ?_ ?_ rfl) fun _ _=> ?_ | refine Tt.dn (fun _=> ?_) ?_ | refine Tt.di (fun _=> ?_) fun _=> ?_ | refine Tt.ite (fun _=> ?_) fun _=> ?_
 all_goals exact fin_
end Go.Scr.S

namespace Go.Scr.S
theorem Km.t {a:Int} {b:Int} (h0_:True):Tt (fun k=>Km.f k a b) (fun r=>True):=by
 simp only [Km.f]
 repeat' with_reducible first | refine Tt.sw fun _ _=> ?_ | refine Tt.sb ?_ | refine Tt.ret ?_ | refine Tt.dn (fun _=> ?_) ?_ | refine Tt.di (fun _=> ?_) fun _=> ?_ | refine Tt.ite (fun _=> ?_) fun _=> ?_
 all_goals exact fin_
theorem band_lt {k:IntKind} (hk:k= .u32∨k= .u8) (x:Int) (n:Nat) (hn:n<128):0≤band k x n∧band k x n≤n:=by
 have h: ∀m:Nat,(BitVec.ofInt m x &&& BitVec.ofInt m (n:Int)).toNat≤n:=fun m=>by
  rw [BitVec.toNat_and]
  refine Nat.le_trans Nat.and_le_right ?_
  have:(BitVec.ofInt m (n:Int))=BitVec.ofNat m n:=by simp
  rw [this,BitVec.toNat_ofNat];exact Nat.mod_le _ _
 rcases hk with rfl | rfl
 ·have e:band .u32 x n=U32 (((BitVec.ofInt 32 x &&& BitVec.ofInt 32 (n:Int)).toNat:Nat):Int):=rfl
  have:=h 32
  rw [e,U32e];omega
 ·have e:band .u8 x n=U8 (((BitVec.ofInt 8 x &&& BitVec.ofInt 8 (n:Int)).toNat:Nat):Int):=rfl
  have:=h 8
  rw [e,U8e];omega
theorem band3 (x:Int):0≤band .u32 x 3∧band .u32 x 3≤3:=band_lt (.inl rfl) x 3 (by decide)
theorem band15 (x:Int):0≤band .u32 x 15∧band .u32 x 15≤15:=band_lt (.inl rfl) x 15 (by decide)
theorem Kh.l0t (z_:Nat): ∀ {s:Li×Int} {b:Bool} {x:Int} {y:Int} {z:Int} {i:Int} (h0_:s.1.length=4) (h1_:0≤i) (h2_:i≤32) (hn_:(32-i).toNat=z_),Tt (fun k=>Kh.l0 k s b x y z i) (fun r=>True):=by
 induction z_ using Nat.strongRecOn with
 | ind z_ ih=>
 intro s b x y z i h0_ h1_ h2_ hn_
 refine Tt.succ ?_
 simp only [Kh.l0]
 repeat' with_reducible first | refine Tt.sw fun _ _=> ?_ | refine Tt.sb ?_ | refine Tt.ret ?_ | refine Tt.bind (Km.t ?_) fun _ _=> ?_ | refine Tt.mono (Km.t ?_) fun _ _=> ?_ | refine Tt.mono (ih _ ?_ ?_ ?_ ?_ rfl) fun _ _=> ?_ | refine Tt.dn (fun _=> ?_) ?_ | refine Tt.di (fun _=> ?_) fun _=> ?_ | refine Tt.ite (fun _=> ?_) fun _=> ?_
 all_goals first | omega | (exact (band3 _).1;done) | ((rw [h0_];exact Int.lt_of_le_of_lt (band3 _).2 (by decide));done) | (simp only [LL,LN,LB] at*;omega) | skip
 all_goals try simp (disch:=first | omega | (simp only [LL,LN];omega)) only [I64i] at*
 all_goals try simp only [LL,LN,LB] at*
 all_goals (repeat' first | omega | (with_reducible first | assumption | exact True.intro | apply Bw.app | apply Bw.tk | apply Bw.dr | apply Bw.cons | exact Bw.nil | apply Bw.set | apply Bw.rep | apply Bw.rd | apply Al.add | exact Al.nil | apply Al.rd | apply Al.rev | apply Al.cons | apply Ml.cons | exact Ml.nil | apply And.intro) | (simp only [LL,LN,LB] at*;omega) | exact And.right (by with_reducible assumption) | exact And.left (by with_reducible assumption) | with_reducible exact Or.inl True.intro | with_reducible exact Or.inr True.intro | exact (band3 _).1 | (rw [h0_];exact Int.lt_of_le_of_lt (band3 _).2 (by decide)))
theorem Kh.t {s:Li×Int} {x:Int} {y:Int} {b:Bool} (h0_:s.1.length=4):Tt (fun k=>Kh.f k s x y b) (fun r=>True):=by
 simp only [Kh.f]
 repeat' with_reducible first | refine Tt.sw fun _ _=> ?_ | refine Tt.sb ?_ | refine Tt.ret ?_ | refine Tt.mono (Kh.l0t _ ?_ ?_ ?_ rfl) fun _ _=> ?_ | refine Tt.dn (fun _=> ?_) ?_ | refine Tt.di (fun _=> ?_) fun _=> ?_ | refine Tt.ite (fun _=> ?_) fun _=> ?_
 all_goals exact fin_
theorem Y2.e {a:Li} (h:a.length≤1000000):Ev (fun k=>Y2.f k a) a:=by
 simp only [Y2.f]
 exact Ev.gd (by simp only [LN];omega) (Ev.ret _)
theorem Ka.l0t (z_:Nat): ∀ {a:Li} {x:Li} {i:Int} {j:Int} (h0_:0≤i) (h1_:j<a.length) (h2_:x.length=a.length) (h3_: -1≤j) (h4_:a.length≤1000000) (hn_:(j-i+1).toNat=z_),Tt (fun k=>Ka.l0 k a x i j) (fun r=>r.length=a.length):=by
 induction z_ using Nat.strongRecOn with
 | ind z_ ih=>
 intro a x i j h0_ h1_ h2_ h3_ h4_ hn_
 refine Tt.succ ?_
 simp only [Ka.l0]
 repeat' with_reducible first | refine Tt.sw fun _ _=> ?_ | refine Tt.sb ?_ | refine Tt.ret ?_ | refine Tt.mono (ih _ ?_ ?_ ?_ ?_ ?_ ?_ rfl) fun _ _=> ?_ | refine Tt.dn (fun _=> ?_) ?_ | refine Tt.di (fun _=> ?_) fun _=> ?_ | refine Tt.ite (fun _=> ?_) fun _=> ?_
 all_goals exact fin_
theorem Ka.t {a:Li} (h0_:a.length≤1000000):Tt (fun k=>Ka.f k a) (fun r=>r.length=a.length):=by
 simp only [Ka.f]
 repeat' with_reducible first | refine Tt.sw fun _ _=> ?_ | refine Tt.sb ?_ | refine Tt.ret ?_ | refine Tt.mono (Ka.l0t _ ?_ ?_ ?_ ?_ ?_ rfl) fun _ _=> ?_ | refine Tt.dn (fun _=> ?_) ?_ | refine Tt.di (fun _=> ?_) fun _=> ?_ | refine Tt.ite (fun _=> ?_) fun _=> ?_
 all_goals exact fin_
theorem Y7.t {n:Int} (h0_:0≤n) (h1_:n≤1000000000):Tt (fun k=>Y7.f k n) (fun r=>r.length=0):=by
 simp only [Y7.f]
 repeat' with_reducible first | refine Tt.sw fun _ _=> ?_ | refine Tt.sb ?_ | refine Tt.ret ?_ | refine Tt.dn (fun _=> ?_) ?_ | refine Tt.di (fun _=> ?_) fun _=> ?_ | refine Tt.ite (fun _=> ?_) fun _=> ?_
 all_goals exact fin_
theorem Y4.l1t (z_:Nat): ∀ {a:Lj} {x:Li} {i:Int} (h0_:0≤i) (h1_:a.length≤1000) (h2_:Ml 1000 a) (h3_:(x.length:Int)≤1000*i) (h4_:i≤a.length) (hn_:(a.length-i.toNat)=z_),Tt (fun k=>Y4.l1 k a x i) (fun r=>(r.length:Int)≤1000000):=by
 induction z_ using Nat.strongRecOn with
 | ind z_ ih=>
 intro a x i h0_ h1_ h2_ h3_ h4_ hn_
 refine Tt.succ ?_
 simp only [Y4.l1]
 repeat' with_reducible first | refine Tt.sw fun _ _=> ?_ | refine Tt.sb ?_ | refine Tt.ret ?_ | refine Tt.mono (ih _ ?_ ?_ ?_ ?_ ?_ ?_ rfl) fun _ _=> ?_ | refine Tt.dn (fun _=> ?_) ?_ | refine Tt.di (fun _=> ?_) fun _=> ?_ | refine Tt.ite (fun _=> ?_) fun _=> ?_
 all_goals first | omega | ((have b_:=h2_.rd i;omega);done) | ((have b_:=h2_.rd i;(try simp only [LL,LN] at*);omega);done) | (simp only [LL,LN,LB] at*;omega) | skip
 all_goals try simp (disch:=first | omega | (simp only [LL,LN];omega)) only [I64i] at*
 all_goals try simp only [LL,LN,LB] at*
 all_goals (repeat' first | omega | (with_reducible first | assumption | exact True.intro | apply Bw.app | apply Bw.tk | apply Bw.dr | apply Bw.cons | exact Bw.nil | apply Bw.set | apply Bw.rep | apply Bw.rd | apply Al.add | exact Al.nil | apply Al.rd | apply Al.rev | apply Al.cons | apply Ml.cons | exact Ml.nil | apply And.intro) | (simp only [LL,LN,LB] at*;omega) | exact And.right (by with_reducible assumption) | exact And.left (by with_reducible assumption) | with_reducible exact Or.inl True.intro | with_reducible exact Or.inr True.intro | (have b_:=h2_.rd i;omega) | (have b_:=h2_.rd i;(try simp only [LL,LN] at*);omega))
theorem Y4.l0t (z_:Nat): ∀ {a:Lj} {c:Int} {i:Int} (h0_:0≤i) (h1_:a.length≤1000) (h2_:Ml 1000 a) (h3_:0≤c) (h4_:c≤1000*i) (h5_:i≤a.length) (hn_:(a.length-i.toNat)=z_),Tt (fun k=>Y4.l0 k a c i) (fun r=>(r.length:Int)≤1000000):=by
 induction z_ using Nat.strongRecOn with
 | ind z_ ih=>
 intro a c i h0_ h1_ h2_ h3_ h4_ h5_ hn_
 refine Tt.succ ?_
 simp only [Y4.l0]
 repeat' with_reducible first | refine Tt.sw fun _ _=> ?_ | refine Tt.sb ?_ | refine Tt.ret ?_ | refine Tt.bind (Y7.t ?_ ?_) fun _ _=> ?_ | refine Tt.mono (Y7.t ?_ ?_) fun _ _=> ?_ | refine Tt.mono (Y4.l1t _ ?_ ?_ ?_ ?_ ?_ rfl) fun _ _=> ?_ | refine Tt.mono (ih _ ?_ ?_ ?_ ?_ ?_ ?_ ?_ rfl) fun _ _=> ?_ | refine Tt.dn (fun _=> ?_) ?_ | refine Tt.di (fun _=> ?_) fun _=> ?_ | refine Tt.ite (fun _=> ?_) fun _=> ?_
 all_goals first | omega | ((have b_:=h2_.rd i;omega);done) | ((have b_:=h2_.rd i;(try simp only [LL,LN] at*);omega);done) | (simp only [LL,LN,LB] at*;omega) | skip
 all_goals try simp (disch:=first | omega | (simp only [LL,LN];omega)) only [I64i] at*
 all_goals try simp only [LL,LN,LB] at*
 all_goals (repeat' first | omega | (with_reducible first | assumption | exact True.intro | apply Bw.app | apply Bw.tk | apply Bw.dr | apply Bw.cons | exact Bw.nil | apply Bw.set | apply Bw.rep | apply Bw.rd | apply Al.add | exact Al.nil | apply Al.rd | apply Al.rev | apply Al.cons | apply Ml.cons | exact Ml.nil | apply And.intro) | (simp only [LL,LN,LB] at*;omega) | exact And.right (by with_reducible assumption) | exact And.left (by with_reducible assumption) | with_reducible exact Or.inl True.intro | with_reducible exact Or.inr True.intro | (have b_:=h2_.rd i;omega) | (have b_:=h2_.rd i;(try simp only [LL,LN] at*);omega))
theorem Y4.t {a:Lj} (h0_:a.length≤1000) (h1_:Ml 1000 a):Tt (fun k=>Y4.f k a) (fun r=>(r.length:Int)≤1000000):=by
 simp only [Y4.f]
 repeat' with_reducible first | refine Tt.sw fun _ _=> ?_ | refine Tt.sb ?_ | refine Tt.ret ?_ | refine Tt.mono (Y4.l0t _ ?_ ?_ ?_ ?_ ?_ ?_ rfl) fun _ _=> ?_ | refine Tt.dn (fun _=> ?_) ?_ | refine Tt.di (fun _=> ?_) fun _=> ?_ | refine Tt.ite (fun _=> ?_) fun _=> ?_
 all_goals exact fin_
theorem Kk.t (h0_:True):Tt (fun k=>Kk.f k) (fun r=>r.length=8∧r.all (fun x=>Nat.beq x.size 16)=true):=by
 simp only [Kk.f]
 repeat' with_reducible first | refine Tt.sw fun _ _=> ?_ | refine Tt.sb ?_ | refine Tt.ret ?_ | refine Tt.dn (fun _=> ?_) ?_ | refine Tt.di (fun _=> ?_) fun _=> ?_ | refine Tt.ite (fun _=> ?_) fun _=> ?_
 all_goals first | omega | (rfl;done) | (simp only [LL,LN,LB] at*;omega) | skip
 all_goals try simp (disch:=first | omega | (simp only [LL,LN];omega)) only [I64i] at*
 all_goals try simp only [LL,LN,LB] at*
 all_goals (repeat' first | omega | (with_reducible first | assumption | exact True.intro | apply Bw.app | apply Bw.tk | apply Bw.dr | apply Bw.cons | exact Bw.nil | apply Bw.set | apply Bw.rep | apply Bw.rd | apply Al.add | exact Al.nil | apply Al.rd | apply Al.rev | apply Al.cons | apply Ml.cons | exact Ml.nil | apply And.intro) | (simp only [LL,LN,LB] at*;omega) | exact And.right (by with_reducible assumption) | exact And.left (by with_reducible assumption) | with_reducible exact Or.inl True.intro | with_reducible exact Or.inr True.intro | rfl)
theorem Kl.t {a:Int} (h0_:True):Tt (fun k=>Kl.f k a) (fun r=>True):=by
 simp only [Kl.f]
 repeat' with_reducible first | refine Tt.sw fun _ _=> ?_ | refine Tt.sb ?_ | refine Tt.ret ?_ | refine Tt.dn (fun _=> ?_) ?_ | refine Tt.di (fun _=> ?_) fun _=> ?_ | refine Tt.ite (fun _=> ?_) fun _=> ?_
 all_goals exact fin_
theorem Kb.l0t (z_:Nat): ∀ {a:Int} {b:Int} {t:List ByteArray} {x:Int} {i:Int} (h0_:0≤i) (h1_:i≤8) (h2_:t.length=8∧t.all (fun x=>Nat.beq x.size 16)=true) (hn_:(8-i).toNat=z_),Tt (fun k=>Kb.l0 k a b t x i) (fun r=>True):=by
 induction z_ using Nat.strongRecOn with
 | ind z_ ih=>
 intro a b t x i h0_ h1_ h2_ hn_
 refine Tt.succ ?_
 simp only [Kb.l0]
 repeat' with_reducible first | refine Tt.sw fun _ _=> ?_ | refine Tt.sb ?_ | refine Tt.ret ?_ | refine Tt.bind (Kl.t ?_) fun _ _=> ?_ | refine Tt.mono (Kl.t ?_) fun _ _=> ?_ | refine Tt.bind (Jb.t ?_) fun _ _=> ?_ | refine Tt.mono (Jb.t ?_) fun _ _=> ?_ | refine Tt.mono (ih _ ?_ ?_ ?_ ?_ rfl) fun _ _=> ?_ | refine Tt.dn (fun _=> ?_) ?_ | refine Tt.di (fun _=> ?_) fun _=> ?_ | refine Tt.ite (fun _=> ?_) fun _=> ?_
 all_goals first | omega | (exact (band15 _).1;done) | ((rw [rds_size h2_.2 (by omega) (by omega)];exact Int.lt_of_le_of_lt (band15 _).2 (by decide));done) | (simp only [LL,LN,LB] at*;omega) | skip
 all_goals try simp (disch:=first | omega | (simp only [LL,LN];omega)) only [I64i] at*
 all_goals try simp only [LL,LN,LB] at*
 all_goals (repeat' first | omega | (with_reducible first | assumption | exact True.intro | apply Bw.app | apply Bw.tk | apply Bw.dr | apply Bw.cons | exact Bw.nil | apply Bw.set | apply Bw.rep | apply Bw.rd | apply Al.add | exact Al.nil | apply Al.rd | apply Al.rev | apply Al.cons | apply Ml.cons | exact Ml.nil | apply And.intro) | (simp only [LL,LN,LB] at*;omega) | exact And.right (by with_reducible assumption) | exact And.left (by with_reducible assumption) | with_reducible exact Or.inl True.intro | with_reducible exact Or.inr True.intro | exact (band15 _).1 | (rw [rds_size h2_.2 (by omega) (by omega)];exact Int.lt_of_le_of_lt (band15 _).2 (by decide)))
theorem Kb.t {a:Int} {b:Int} (h0_:True):Tt (fun k=>Kb.f k a b) (fun r=>True):=by
 simp only [Kb.f]
 repeat' with_reducible first | refine Tt.sw fun _ _=> ?_ | refine Tt.sb ?_ | refine Tt.ret ?_ | refine Tt.bind (Kk.t ?_) fun _ _=> ?_ | refine Tt.mono (Kk.t ?_) fun _ _=> ?_ | refine Tt.mono (Kb.l0t _ ?_ ?_ ?_ rfl) fun _ _=> ?_ | refine Tt.dn (fun _=> ?_) ?_ | refine Tt.di (fun _=> ?_) fun _=> ?_ | refine Tt.ite (fun _=> ?_) fun _=> ?_
 all_goals exact fin_
theorem Kf.l0t (z_:Nat): ∀ {t:Li} {x:Int} {y:Int} {i:Int} (h0_:0≤i) (h1_:t.length≤1000000) (hn_:(t.length-i.toNat)=z_),Tt (fun k=>Kf.l0 k t x y i) (fun r=>True):=by
 induction z_ using Nat.strongRecOn with
 | ind z_ ih=>
 intro t x y i h0_ h1_ hn_
 refine Tt.succ ?_
 simp only [Kf.l0]
 repeat' with_reducible first | refine Tt.sw fun _ _=> ?_ | refine Tt.sb ?_ | refine Tt.ret ?_ | refine Tt.bind (Kb.t ?_) fun _ _=> ?_ | refine Tt.mono (Kb.t ?_) fun _ _=> ?_ | refine Tt.mono (ih _ ?_ ?_ ?_ rfl) fun _ _=> ?_ | refine Tt.dn (fun _=> ?_) ?_ | refine Tt.di (fun _=> ?_) fun _=> ?_ | refine Tt.ite (fun _=> ?_) fun _=> ?_
 all_goals exact fin_
theorem Kf.l1t (z_:Nat): ∀ {t:Li} {x:Int} {y:Int} {i:Int} (h0_:0≤i) (h1_:t.length≤1000000) (hn_:(t.length-i.toNat)=z_),Tt (fun k=>Kf.l1 k t x y i) (fun r=>True):=by
 induction z_ using Nat.strongRecOn with
 | ind z_ ih=>
 intro t x y i h0_ h1_ hn_
 refine Tt.succ ?_
 simp only [Kf.l1]
 repeat' with_reducible first | refine Tt.sw fun _ _=> ?_ | refine Tt.sb ?_ | refine Tt.ret ?_ | refine Tt.bind (Kb.t ?_) fun _ _=> ?_ | refine Tt.mono (Kb.t ?_) fun _ _=> ?_ | refine Tt.mono (ih _ ?_ ?_ ?_ rfl) fun _ _=> ?_ | refine Tt.dn (fun _=> ?_) ?_ | refine Tt.di (fun _=> ?_) fun _=> ?_ | refine Tt.ite (fun _=> ?_) fun _=> ?_
 all_goals exact fin_
theorem Kf.t {s:Li×Int} {x:Int} {y:Int} {b:Bool} (h0_:s.1.length=8):Tt (fun k=>Kf.f k s x y b) (fun r=>True):=by
 simp only [Kf.f]
 repeat' with_reducible first | refine Tt.sw fun _ _=> ?_ | refine Tt.sb ?_ | refine Tt.ret ?_ | refine Tt.ebind (Y2.e ?_) ?_ | refine Tt.bind (Ka.t ?_) fun _ _=> ?_ | refine Tt.mono (Ka.t ?_) fun _ _=> ?_ | refine Tt.bind (Y4.t ?_ ?_) fun _ _=> ?_ | refine Tt.mono (Y4.t ?_ ?_) fun _ _=> ?_ | refine Tt.mono (Kf.l0t _ ?_ ?_ rfl) fun _ _=> ?_ | refine Tt.mono (Kf.l1t _ ?_ ?_ rfl) fun _ _=> ?_ | refine Tt.dn (fun _=> ?_) ?_ | refine Tt.di (fun _=> ?_) fun _=> ?_ | refine Tt.ite (fun _=> ?_) fun _=> ?_
 all_goals exact fin_
theorem Kg.l0t (z_:Nat): ∀ {s:Li×Int} {x:Int} {y:Int} {i:Int} (h0_:s.1.length=26) (h1_:0≤i) (h2_:i≤26) (h3_:i%2=0) (hn_:(26-i).toNat=z_),Tt (fun k=>Kg.l0 k s x y i) (fun r=>True):=by
 induction z_ using Nat.strongRecOn with
 | ind z_ ih=>
 intro s x y i h0_ h1_ h2_ h3_ hn_
 refine Tt.succ ?_
 simp only [Kg.l0]
 repeat' with_reducible first | refine Tt.sw fun _ _=> ?_ | refine Tt.sb ?_ | refine Tt.ret ?_ | refine Tt.bind (Jb.t ?_) fun _ _=> ?_ | refine Tt.mono (Jb.t ?_) fun _ _=> ?_ | refine Tt.mono (ih _ ?_ ?_ ?_ ?_ ?_ rfl) fun _ _=> ?_ | refine Tt.dn (fun _=> ?_) ?_ | refine Tt.di (fun _=> ?_) fun _=> ?_ | refine Tt.ite (fun _=> ?_) fun _=> ?_
 all_goals exact fin_
theorem Kg.l1t (z_:Nat): ∀ {s:Li×Int} {x:Int} {y:Int} {i:Int} (h0_:s.1.length=26) (h1_:0≤i) (h2_:i≤24) (h3_:i%2=0) (hn_:i.toNat=z_),Tt (fun k=>Kg.l1 k s x y i) (fun r=>True):=by
 induction z_ using Nat.strongRecOn with
 | ind z_ ih=>
 intro s x y i h0_ h1_ h2_ h3_ hn_
 refine Tt.succ ?_
 simp only [Kg.l1]
 repeat' with_reducible first | refine Tt.sw fun _ _=> ?_ | refine Tt.sb ?_ | refine Tt.ret ?_ | refine Tt.bind (Jb.t ?_) fun _ _=> ?_ | refine Tt.mono (Jb.t ?_) fun _ _=> ?_ | refine Tt.mono (ih _ ?_ ?_ ?_ ?_ ?_ rfl) fun _ _=> ?_ | refine Tt.dn (fun _=> ?_) ?_ | refine Tt.di (fun _=> ?_) fun _=> ?_ | refine Tt.ite (fun _=> ?_) fun _=> ?_
 all_goals exact fin_
theorem Kg.t {s:Li×Int} {x:Int} {y:Int} {b:Bool} (h0_:s.1.length=26):Tt (fun k=>Kg.f k s x y b) (fun r=>True):=by
 simp only [Kg.f]
 repeat' with_reducible first | refine Tt.sw fun _ _=> ?_ | refine Tt.sb ?_ | refine Tt.ret ?_ | refine Tt.mono (Kg.l0t _ ?_ ?_ ?_ ?_ rfl) fun _ _=> ?_ | refine Tt.mono (Kg.l1t _ ?_ ?_ ?_ ?_ rfl) fun _ _=> ?_ | refine Tt.dn (fun _=> ?_) ?_ | refine Tt.di (fun _=> ?_) fun _=> ?_ | refine Tt.ite (fun _=> ?_) fun _=> ?_
 all_goals exact fin_
theorem Kn.t {x:Int} {y:Int} {b:Bool} (h0_:True):Tt (fun k=>Kn.f k x y b) (fun r=>r.length=8):=by
 simp only [Kn.f]
 repeat' with_reducible first | refine Tt.sw fun _ _=> ?_ | refine Tt.sb ?_ | refine Tt.ret ?_ | refine Tt.bind (Ja.t ?_) fun _ _=> ?_ | refine Tt.mono (Ja.t ?_) fun _ _=> ?_ | refine Tt.bind (K8.t ?_) fun _ _=> ?_ | refine Tt.mono (K8.t ?_) fun _ _=> ?_ | refine Tt.ebind (Concat.e ?_ ?_) ?_ | refine Tt.dn (fun _=> ?_) ?_ | refine Tt.di (fun _=> ?_) fun _=> ?_ | refine Tt.ite (fun _=> ?_) fun _=> ?_
 all_goals exact fin_
theorem Kj.l0t (z_:Nat): ∀ {b:Bool} {x:Li} {y:Li} (h0_:x.length≤1000) (h1_:y.length+x.length/4≤1000) (hn_:x.length=z_),Tt (fun k=>Kj.l0 k b x y) (fun r=>r.length=y.length+x.length/4):=by
 induction z_ using Nat.strongRecOn with
 | ind z_ ih=>
 intro b x y h0_ h1_ hn_
 refine Tt.succ ?_
 simp only [Kj.l0]
 repeat' with_reducible first | refine Tt.sw fun _ _=> ?_ | refine Tt.sb ?_ | refine Tt.ret ?_ | refine Tt.bind (K5.t ?_) fun _ _=> ?_ | refine Tt.mono (K5.t ?_) fun _ _=> ?_ | refine Tt.bind (K7.t ?_) fun _ _=> ?_ | refine Tt.mono (K7.t ?_) fun _ _=> ?_ | refine Tt.mono (ih _ ?_ ?_ ?_ rfl) fun _ _=> ?_ | refine Tt.dn (fun _=> ?_) ?_ | refine Tt.di (fun _=> ?_) fun _=> ?_ | refine Tt.ite (fun _=> ?_) fun _=> ?_
 all_goals exact fin_
theorem Kj.t {x:Li} {b:Bool} (h0_:x.length≤1000):Tt (fun k=>Kj.f k x b) (fun r=>r.length=x.length/4):=by
 simp only [Kj.f]
 repeat' with_reducible first | refine Tt.sw fun _ _=> ?_ | refine Tt.sb ?_ | refine Tt.ret ?_ | refine Tt.mono (Kj.l0t _ ?_ ?_ rfl) fun _ _=> ?_ | refine Tt.dn (fun _=> ?_) ?_ | refine Tt.di (fun _=> ?_) fun _=> ?_ | refine Tt.ite (fun _=> ?_) fun _=> ?_
 all_goals exact fin_
theorem Ki.l1t (z_:Nat): ∀ {a:Li} {u:Li} {x:Li} {y:Li} {p:Int} {q:Int} {i:Int} (h0_:0<a.length) (h1_:u.length=26) (h2_:x.length=a.length) (h3_:y.length=26) (h4_:0≤i) (h5_:i<78) (hn_:(78-i).toNat=z_),Tt (fun k=>Ki.l1 k a u x y p q i) (fun r=>r.length=26):=by
 induction z_ using Nat.strongRecOn with
 | ind z_ ih=>
 intro a u x y p q i h0_ h1_ h2_ h3_ h4_ h5_ hn_
 refine Tt.succ ?_
 simp only [Ki.l1]
 repeat' with_reducible first | refine Tt.sw fun _ _=> ?_ | refine Tt.sb ?_ | refine Tt.ret ?_ | refine Tt.bind (Jb.t ?_) fun _ _=> ?_ | refine Tt.mono (Jb.t ?_) fun _ _=> ?_ | refine Tt.mono (ih _ ?_ ?_ ?_ ?_ ?_ ?_ ?_ rfl) fun _ _=> ?_ | refine Tt.dn (fun _=> ?_) ?_ | refine Tt.di (fun _=> ?_) fun _=> ?_ | refine Tt.ite (fun _=> ?_) fun _=> ?_
 all_goals first | omega | (exact tm0 (by omega);done) | (exact tm1 (by omega);done) | (simp only [LL,LN,LB] at*;omega) | skip
 all_goals try simp (disch:=first | omega | (simp only [LL,LN];omega)) only [I64i] at*
 all_goals try simp only [LL,LN,LB] at*
 all_goals (repeat' first | omega | (with_reducible first | assumption | exact True.intro | apply Bw.app | apply Bw.tk | apply Bw.dr | apply Bw.cons | exact Bw.nil | apply Bw.set | apply Bw.rep | apply Bw.rd | apply Al.add | exact Al.nil | apply Al.rd | apply Al.rev | apply Al.cons | apply Ml.cons | exact Ml.nil | apply And.intro) | (simp only [LL,LN,LB] at*;omega) | exact And.right (by with_reducible assumption) | exact And.left (by with_reducible assumption) | with_reducible exact Or.inl True.intro | with_reducible exact Or.inr True.intro | exact tm0 (by omega) | exact tm1 (by omega))
theorem Ki.l0t (z_:Nat): ∀ {a:Li} {x:Li} (h0_:0<a.length) (h1_:0<x.length) (h2_:x.length≤26) (hn_:(26-x.length)=z_),Tt (fun k=>Ki.l0 k a x) (fun r=>r.length=26):=by
 induction z_ using Nat.strongRecOn with
 | ind z_ ih=>
 intro a x h0_ h1_ h2_ hn_
 refine Tt.succ ?_
 simp only [Ki.l0]
 repeat' with_reducible first | refine Tt.sw fun _ _=> ?_ | refine Tt.sb ?_ | refine Tt.ret ?_ | refine Tt.mono (Ki.l1t _ ?_ ?_ ?_ ?_ ?_ ?_ rfl) fun _ _=> ?_ | refine Tt.mono (ih _ ?_ ?_ ?_ ?_ rfl) fun _ _=> ?_ | refine Tt.dn (fun _=> ?_) ?_ | refine Tt.di (fun _=> ?_) fun _=> ?_ | refine Tt.ite (fun _=> ?_) fun _=> ?_
 all_goals exact fin_
theorem Ki.t {a:Li} (h0_:0<a.length):Tt (fun k=>Ki.f k a) (fun r=>r.length=26):=by
 simp only [Ki.f]
 repeat' with_reducible first | refine Tt.sw fun _ _=> ?_ | refine Tt.sb ?_ | refine Tt.ret ?_ | refine Tt.mono (Ki.l0t _ ?_ ?_ ?_ rfl) fun _ _=> ?_ | refine Tt.dn (fun _=> ?_) ?_ | refine Tt.di (fun _=> ?_) fun _=> ?_ | refine Tt.ite (fun _=> ?_) fun _=> ?_
 all_goals exact fin_
theorem Kc.t {t:Int} {a:Li} (h0_:(t=4∧a.length=16)∨(t=8∧a.length=16)∨(t=5∧a.length=32)):Tt (fun k=>Kc.f k t a) (fun r=> ∃s,r=(some s,0)∧s.2=t∧(t=4→s.1.length=4)∧(t=5→s.1.length=8)∧(t=8→s.1.length=26)):=by
 simp only [Kc.f]
 repeat' with_reducible first | refine Tt.sw fun _ _=> ?_ | refine Tt.sb ?_ | refine Tt.ret ?_ | refine Tt.bind (Kj.t ?_) fun _ _=> ?_ | refine Tt.mono (Kj.t ?_) fun _ _=> ?_ | refine Tt.bind (Ki.t ?_) fun _ _=> ?_ | refine Tt.mono (Ki.t ?_) fun _ _=> ?_ | refine Tt.dn (fun _=> ?_) ?_ | refine Tt.di (fun _=> ?_) fun _=> ?_ | refine Tt.ite (fun _=> ?_) fun _=> ?_
 all_goals first | omega | ((refine ⟨_,rfl,rfl,?_,?_,?_⟩);done) | ((intro h_;omega);done) | (simp only [LL,LN,LB] at*;omega) | skip
 all_goals try simp (disch:=first | omega | (simp only [LL,LN];omega)) only [I64i] at*
 all_goals try simp only [LL,LN,LB] at*
 all_goals (repeat' first | omega | (with_reducible first | assumption | exact True.intro | apply Bw.app | apply Bw.tk | apply Bw.dr | apply Bw.cons | exact Bw.nil | apply Bw.set | apply Bw.rep | apply Bw.rd | apply Al.add | exact Al.nil | apply Al.rd | apply Al.rev | apply Al.cons | apply Ml.cons | exact Ml.nil | apply And.intro) | (simp only [LL,LN,LB] at*;omega) | exact And.right (by with_reducible assumption) | exact And.left (by with_reducible assumption) | with_reducible exact Or.inl True.intro | with_reducible exact Or.inr True.intro | (refine ⟨_,rfl,rfl,?_,?_,?_⟩) | (intro h_;omega))
theorem Ke.t {s:Li×Int} {a:Li} {b:Bool} (h0_:a.length=8) (h1_:s.2=4→s.1.length=4) (h2_:s.2=5→s.1.length=8) (h3_:s.2=8→s.1.length=26):Tt (fun k=>Ke.f k s a b) (fun r=>r.1.length=8∧r.2=0):=by
 simp only [Ke.f]
 repeat' with_reducible first | refine Tt.sw fun _ _=> ?_ | refine Tt.sb ?_ | refine Tt.ret ?_ | refine Tt.bind (Kj.t ?_) fun _ _=> ?_ | refine Tt.mono (Kj.t ?_) fun _ _=> ?_ | refine Tt.bind (Kh.t ?_) fun _ _=> ?_ | refine Tt.mono (Kh.t ?_) fun _ _=> ?_ | refine Tt.bind (Kf.t ?_) fun _ _=> ?_ | refine Tt.mono (Kf.t ?_) fun _ _=> ?_ | refine Tt.bind (Kg.t ?_) fun _ _=> ?_ | refine Tt.mono (Kg.t ?_) fun _ _=> ?_ | refine Tt.bind (Kn.t ?_) fun _ _=> ?_ | refine Tt.mono (Kn.t ?_) fun _ _=> ?_ | refine Tt.dn (fun _=> ?_) ?_ | refine Tt.di (fun _=> ?_) fun _=> ?_ | refine Tt.ite (fun _=> ?_) fun _=> ?_
 all_goals exact fin_
end Go.Scr.S

namespace Go.Scr.S
theorem Jg.l0b (z_:Nat): ∀ {n:Int} {v:Int} {x:Li} {i:Int} (h0_:i≤n) (h1_:x.length=n.toNat) (h2_:n≤1000000) (h3_:Bw 0 255 x) (hn_:i.toNat=z_),Tt (fun k=>Jg.l0 k n v x i) (fun r=>Bw 0 255 r):=by
 induction z_ using Nat.strongRecOn with
 | ind z_ ih=>
 intro n v x i h0_ h1_ h2_ h3_ hn_
 refine Tt.succ ?_
 simp only [Jg.l0]
 repeat' with_reducible first | refine Tt.sw fun _ _=> ?_ | refine Tt.sb ?_ | refine Tt.ret ?_ | refine Tt.mono (ih _ ?_ ?_ ?_ ?_ ?_ rfl) fun _ _=> ?_ | refine Tt.dn (fun _=> ?_) ?_ | refine Tt.di (fun _=> ?_) fun _=> ?_ | refine Tt.ite (fun _=> ?_) fun _=> ?_
 all_goals exact fin_
theorem Jg.b {v:Int} {n:Int} (h0_:0≤n) (h1_:n≤1000000):Tt (fun k=>Jg.f k v n) (fun r=>Bw 0 255 r):=by
 simp only [Jg.f]
 repeat' with_reducible first | refine Tt.sw fun _ _=> ?_ | refine Tt.sb ?_ | refine Tt.ret ?_ | refine Tt.mono (Jg.l0b _ ?_ ?_ ?_ ?_ rfl) fun _ _=> ?_ | refine Tt.dn (fun _=> ?_) ?_ | refine Tt.di (fun _=> ?_) fun _=> ?_ | refine Tt.ite (fun _=> ?_) fun _=> ?_
 all_goals exact fin_
theorem K8.b {v:Int} (h0_:True):Tt (fun k=>K8.f k v) (fun r=>Bw 0 255 r):=by
 simp only [K8.f]
 repeat' with_reducible first | refine Tt.sw fun _ _=> ?_ | refine Tt.sb ?_ | refine Tt.ret ?_ | refine Tt.bind (Jg.b ?_ ?_) fun _ _=> ?_ | refine Tt.mono (Jg.b ?_ ?_) fun _ _=> ?_ | refine Tt.dn (fun _=> ?_) ?_ | refine Tt.di (fun _=> ?_) fun _=> ?_ | refine Tt.ite (fun _=> ?_) fun _=> ?_
 all_goals exact fin_
theorem Jh.l0b (z_:Nat): ∀ {a:Li} {x:Li} {i:Int} (h0_: -1≤i) (h1_:i<a.length) (h2_:a.length≤1000000) (h3_:x.length+i+1=a.length) (h4_:Bw 0 255 a) (h5_:Bw 0 255 x) (hn_:(i+1).toNat=z_),Tt (fun k=>Jh.l0 k a x i) (fun r=>Bw 0 255 r):=by
 induction z_ using Nat.strongRecOn with
 | ind z_ ih=>
 intro a x i h0_ h1_ h2_ h3_ h4_ h5_ hn_
 refine Tt.succ ?_
 simp only [Jh.l0]
 repeat' with_reducible first | refine Tt.sw fun _ _=> ?_ | refine Tt.sb ?_ | refine Tt.ret ?_ | refine Tt.mono (ih _ ?_ ?_ ?_ ?_ ?_ ?_ ?_ rfl) fun _ _=> ?_ | refine Tt.dn (fun _=> ?_) ?_ | refine Tt.di (fun _=> ?_) fun _=> ?_ | refine Tt.ite (fun _=> ?_) fun _=> ?_
 all_goals exact fin_
theorem Jh.b {a:Li} (h0_:a.length≤1000000) (h1_:Bw 0 255 a):Tt (fun k=>Jh.f k a) (fun r=>Bw 0 255 r):=by
 simp only [Jh.f]
 repeat' with_reducible first | refine Tt.sw fun _ _=> ?_ | refine Tt.sb ?_ | refine Tt.ret ?_ | refine Tt.mono (Jh.l0b _ ?_ ?_ ?_ ?_ ?_ ?_ rfl) fun _ _=> ?_ | refine Tt.dn (fun _=> ?_) ?_ | refine Tt.di (fun _=> ?_) fun _=> ?_ | refine Tt.ite (fun _=> ?_) fun _=> ?_
 all_goals exact fin_
theorem K8.c {v:Int}:Tt (fun k=>K8.f k v) (fun r=>r.length=4∧Bw 0 255 r):=Tt.and (K8.t trivial) (K8.b trivial)
theorem Ja.b {v:Int} (h0_:True):Tt (fun k=>Ja.f k v) (fun r=>Bw 0 255 r):=by
 simp only [Ja.f]
 repeat' with_reducible first | refine Tt.sw fun _ _=> ?_ | refine Tt.sb ?_ | refine Tt.ret ?_ | refine Tt.bind (K8.c) fun _ _=> ?_ | refine Tt.mono (K8.c) fun _ _=> ?_ | refine Tt.bind (Jh.b ?_ ?_) fun _ _=> ?_ | refine Tt.mono (Jh.b ?_ ?_) fun _ _=> ?_ | refine Tt.dn (fun _=> ?_) ?_ | refine Tt.di (fun _=> ?_) fun _=> ?_ | refine Tt.ite (fun _=> ?_) fun _=> ?_
 all_goals exact fin_
theorem Ja.c {v:Int}:Tt (fun k=>Ja.f k v) (fun r=>r.length=4∧Bw 0 255 r):=Tt.and (Ja.t trivial) (Ja.b trivial)
theorem bxu8 (a b:Int):0≤bxor .u8 a b∧bxor .u8 a b≤255:=by
 have e:bxor .u8 a b=U8 (((BitVec.ofInt 8 a ^^^ BitVec.ofInt 8 b).toNat:Nat):Int):=rfl
 rw [e,U8e];omega
theorem bou8 (a b:Int):0≤bor .u8 a b∧bor .u8 a b≤255:=by
 have e:bor .u8 a b=U8 (((BitVec.ofInt 8 a ||| BitVec.ofInt 8 b).toNat:Nat):Int):=rfl
 rw [e,U8e];omega
theorem Jd.l0b (z_:Nat): ∀ {a:Li} {b:Li} {x:Li} {i:Int} (h0_:0≤i) (h1_:a.length≤1000000) (h2_:a.length=b.length) (h3_:x.length=a.length) (h4_:Bw 0 255 x) (hn_:(a.length-i.toNat)=z_),Tt (fun k=>Jd.l0 k a b x i) (fun r=>Bw 0 255 r.1):=by
 induction z_ using Nat.strongRecOn with
 | ind z_ ih=>
 intro a b x i h0_ h1_ h2_ h3_ h4_ hn_
 refine Tt.succ ?_
 simp only [Jd.l0]
 repeat' with_reducible first | refine Tt.sw fun _ _=> ?_ | refine Tt.sb ?_ | refine Tt.ret ?_ | refine Tt.mono (ih _ ?_ ?_ ?_ ?_ ?_ ?_ rfl) fun _ _=> ?_ | refine Tt.dn (fun _=> ?_) ?_ | refine Tt.di (fun _=> ?_) fun _=> ?_ | refine Tt.ite (fun _=> ?_) fun _=> ?_
 all_goals first | omega | (exact (bxu8 _ _).1;done) | (exact (bxu8 _ _).2;done) | (simp only [LL,LN,LB] at*;omega) | skip
 all_goals try simp (disch:=first | omega | (simp only [LL,LN];omega)) only [I64i] at*
 all_goals try simp only [LL,LN,LB] at*
 all_goals (repeat' first | omega | (with_reducible first | assumption | exact True.intro | apply Bw.app | apply Bw.tk | apply Bw.dr | apply Bw.cons | exact Bw.nil | apply Bw.set | apply Bw.rep | apply Bw.rd | apply Al.add | exact Al.nil | apply Al.rd | apply Al.rev | apply Al.cons | apply Ml.cons | exact Ml.nil | apply And.intro) | (simp only [LL,LN,LB] at*;omega) | exact And.right (by with_reducible assumption) | exact And.left (by with_reducible assumption) | with_reducible exact Or.inl True.intro | with_reducible exact Or.inr True.intro | exact (bxu8 _ _).1 | exact (bxu8 _ _).2)
theorem Jd.b {a:Li} {b:Li} (h0_:a.length≤1000000):Tt (fun k=>Jd.f k a b) (fun r=>Bw 0 255 r.1):=by
 simp only [Jd.f]
 repeat' with_reducible first | refine Tt.sw fun _ _=> ?_ | refine Tt.sb ?_ | refine Tt.ret ?_ | refine Tt.mono (Jd.l0b _ ?_ ?_ ?_ ?_ ?_ rfl) fun _ _=> ?_ | refine Tt.dn (fun _=> ?_) ?_ | refine Tt.di (fun _=> ?_) fun _=> ?_ | refine Tt.ite (fun _=> ?_) fun _=> ?_
 all_goals exact fin_
theorem Jd.c {a b:Li} (h:a.length≤1000000) (e:a.length=b.length):Tt (fun k=>Jd.f k a b) (fun r=>r.1.length=a.length∧Bw 0 255 r.1):=(Tt.and (Jd.t h) (Jd.b h)).mono fun _ q=>⟨q.1.2 e,q.2⟩
theorem shr1 {x:Int} (h:0≤x):shr x 1=x/2:=by
 unfold shr
 rw [Int.fdiv_eq_ediv_of_nonneg _ (by decide)];rfl
theorem Vr.l0t (z_:Nat): ∀ {a2:Int} {x:Int} {y:Int} {z:Int} (h0_:0≤z) (h1_:z≤255) (hn_:z.toNat=z_),Tt (fun k=>Vr.l0 k a2 x y z) (fun r=>0≤r∧r≤255):=by
 induction z_ using Nat.strongRecOn with
 | ind z_ ih=>
 intro a2 x y z h0_ h1_ hn_
 refine Tt.succ ?_
 simp only [Vr.l0]
 repeat' with_reducible first | refine Tt.sw fun _ _=> ?_ | refine Tt.sb ?_ | refine Tt.ret ?_ | refine Tt.mono (ih _ ?_ ?_ ?_ rfl) fun _ _=> ?_ | refine Tt.dn (fun _=> ?_) ?_ | refine Tt.di (fun _=> ?_) fun _=> ?_ | refine Tt.ite (fun _=> ?_) fun _=> ?_
 all_goals first | omega | ((rw [shr1 h0_];omega);done) | (simp only [LL,LN,LB] at*;omega) | skip
 all_goals try simp (disch:=first | omega | (simp only [LL,LN];omega)) only [I64i] at*
 all_goals try simp only [LL,LN,LB] at*
 all_goals (repeat' first | omega | (with_reducible first | assumption | exact True.intro | apply Bw.app | apply Bw.tk | apply Bw.dr | apply Bw.cons | exact Bw.nil | apply Bw.set | apply Bw.rep | apply Bw.rd | apply Al.add | exact Al.nil | apply Al.rd | apply Al.rev | apply Al.cons | apply Ml.cons | exact Ml.nil | apply And.intro) | (simp only [LL,LN,LB] at*;omega) | exact And.right (by with_reducible assumption) | exact And.left (by with_reducible assumption) | with_reducible exact Or.inl True.intro | with_reducible exact Or.inr True.intro | (rw [shr1 h0_];omega))
theorem Vr.t {a:Int} {b:Int} {c:Int} (h0_:0≤b) (h1_:b≤255):Tt (fun k=>Vr.f k a b c) (fun r=>0≤r∧r≤255):=by
 simp only [Vr.f]
 repeat' with_reducible first | refine Tt.sw fun _ _=> ?_ | refine Tt.sb ?_ | refine Tt.ret ?_ | refine Tt.mono (Vr.l0t _ ?_ ?_ rfl) fun _ _=> ?_ | refine Tt.dn (fun _=> ?_) ?_ | refine Tt.di (fun _=> ?_) fun _=> ?_ | refine Tt.ite (fun _=> ?_) fun _=> ?_
 all_goals exact fin_
theorem band15b (x:Int):0≤band .u8 x 15∧band .u8 x 15≤15:=band_lt (.inr rfl) x 15 (by decide)
theorem nib {a:Int} (h:0≤a∧a≤15): ∃n:Nat,n<16∧a=n:=⟨a.toNat,by omega,by omega⟩
theorem bx15 {a b:Int} (ha:0≤a∧a≤15) (hb:0≤b∧b≤15):0≤bxor .u8 a b∧bxor .u8 a b≤15:=by
 obtain ⟨n,hn,rfl⟩:=nib ha
 obtain ⟨m,hm,rfl⟩:=nib hb
 have e:bxor .u8 (n:Int) (m:Int)=U8 (((BitVec.ofInt 8 (n:Int) ^^^ BitVec.ofInt 8 (m:Int)).toNat:Nat):Int):=rfl
 have:(BitVec.ofInt 8 (n:Int) ^^^ BitVec.ofInt 8 (m:Int)).toNat<2^4:=by
  rw [BitVec.toNat_xor,show BitVec.ofInt 8 (n:Int)=BitVec.ofNat 8 n by simp,show BitVec.ofInt 8 (m:Int)=BitVec.ofNat 8 m by simp,BitVec.toNat_ofNat,BitVec.toNat_ofNat,Nat.mod_eq_of_lt (by omega),Nat.mod_eq_of_lt (by omega)]
  exact Nat.xor_lt_two_pow hn hm
 rw [e,U8e];omega
theorem bo15 {a b:Int} (ha:0≤a∧a≤15) (hb:0≤b∧b≤15):0≤bor .u8 a b∧bor .u8 a b≤15:=by
 obtain ⟨n,hn,rfl⟩:=nib ha
 obtain ⟨m,hm,rfl⟩:=nib hb
 have e:bor .u8 (n:Int) (m:Int)=U8 (((BitVec.ofInt 8 (n:Int) ||| BitVec.ofInt 8 (m:Int)).toNat:Nat):Int):=rfl
 have:(BitVec.ofInt 8 (n:Int) ||| BitVec.ofInt 8 (m:Int)).toNat<2^4:=by
  rw [BitVec.toNat_or,show BitVec.ofInt 8 (n:Int)=BitVec.ofNat 8 n by simp,show BitVec.ofInt 8 (m:Int)=BitVec.ofNat 8 m by simp,BitVec.toNat_ofNat,BitVec.toNat_ofNat,Nat.mod_eq_of_lt (by omega),Nat.mod_eq_of_lt (by omega)]
  exact Nat.or_lt_two_pow hn hm
 rw [e,U8e];omega
theorem rs8 {i:Int} (h0:0≤i) (h1:i<4):(Scr.rdr ([]:Li) ([([1,164,85,135,90,88,219,158]:Li),([164,86,130,243,30,198,104,229]:Li),([2,161,252,193,71,174,61,25]:Li),([164,85,135,90,88,219,158,3]:Li)]:Lj) i).length=8:=Al.rd (n:=8) (by intro v hv;simp at hv;rcases hv with rfl | rfl | rfl | rfl<;>rfl) h0 h1
theorem K0.l0_l1 (z_:Nat):(∀(a:Li) (x:Li) (i:Int) (h0_:a.length=8) (h1_:Bw 0 255 a) (h2_:x.length=4) (h3_:0≤i) (h4_:i≤4) (hn_:(4-i).toNat*20+10=z_),Tt (fun k=>K0.l0 k a x i) (fun r=>True))∧(∀(a:Li) (i:Int) (n:Int) (x:Li) (j:Int) (h0_:a.length=8) (h1_:Bw 0 255 a) (h2_:x.length=4) (h3_:0≤i) (h4_:i<4) (h5_:n=8) (h6_:0≤j) (h7_:j≤8) (hn_:(4-i).toNat*20+(8-j).toNat=z_),Tt (fun k=>K0.l1 k a i n x j) (fun r=>True)):=by
 induction z_ using Nat.strongRecOn with
 | ind z_ ih=>
 have ih1:=fun m h=>(ih m h).1
 have ih2:=fun m h=>(ih m h).2
 clear ih
 constructor
 ·intro a x i h0_ h1_ h2_ h3_ h4_ hn_
  refine Tt.succ ?_
  simp only [K0.l0]
  repeat' with_reducible first | refine Tt.sw fun _ _=> ?_ | refine Tt.sb ?_ | refine Tt.ret ?_ | refine Tt.bind (K7.t ?_) fun _ _=> ?_ | refine Tt.mono (K7.t ?_) fun _ _=> ?_ | refine Tt.mono (ih1 _ ?_ _ _ _ ?_ ?_ ?_ ?_ ?_ rfl) fun _ _=> ?_ | refine Tt.mono (ih2 _ ?_ _ _ _ _ _ ?_ ?_ ?_ ?_ ?_ ?_ ?_ ?_ rfl) fun _ _=> ?_ | refine Tt.dn (fun _=> ?_) ?_ | refine Tt.di (fun _=> ?_) fun _=> ?_ | refine Tt.ite (fun _=> ?_) fun _=> ?_
  all_goals first | omega | (exact (h1_.rd0 _ (by decide)).1;done) | (exact (h1_.rd0 _ (by decide)).2;done) | ((rw [rs8 (by omega) (by omega)];rfl);done) | ((rw [rs8 (by omega) (by omega)];omega);done) | (simp only [LL,LN,LB] at*;omega) | skip
  all_goals try simp (disch:=first | omega | (simp only [LL,LN];omega)) only [I64i] at*
  all_goals try simp only [LL,LN,LB] at*
  all_goals (repeat' first | omega | (with_reducible first | assumption | exact True.intro | apply Bw.app | apply Bw.tk | apply Bw.dr | apply Bw.cons | exact Bw.nil | apply Bw.set | apply Bw.rep | apply Bw.rd | apply Al.add | exact Al.nil | apply Al.rd | apply Al.rev | apply Al.cons | apply Ml.cons | exact Ml.nil | apply And.intro) | (simp only [LL,LN,LB] at*;omega) | exact And.right (by with_reducible assumption) | exact And.left (by with_reducible assumption) | with_reducible exact Or.inl True.intro | with_reducible exact Or.inr True.intro | exact (h1_.rd0 _ (by decide)).1 | exact (h1_.rd0 _ (by decide)).2 | (rw [rs8 (by omega) (by omega)];rfl) | (rw [rs8 (by omega) (by omega)];omega))
 ·intro a i n x j h0_ h1_ h2_ h3_ h4_ h5_ h6_ h7_ hn_
  refine Tt.succ ?_
  simp only [K0.l1]
  repeat' with_reducible first | refine Tt.sw fun _ _=> ?_ | refine Tt.sb ?_ | refine Tt.ret ?_ | refine Tt.bind (Vr.t ?_ ?_) fun _ _=> ?_ | refine Tt.mono (Vr.t ?_ ?_) fun _ _=> ?_ | refine Tt.mono (ih1 _ ?_ _ _ _ ?_ ?_ ?_ ?_ ?_ rfl) fun _ _=> ?_ | refine Tt.mono (ih2 _ ?_ _ _ _ _ _ ?_ ?_ ?_ ?_ ?_ ?_ ?_ ?_ rfl) fun _ _=> ?_ | refine Tt.dn (fun _=> ?_) ?_ | refine Tt.di (fun _=> ?_) fun _=> ?_ | refine Tt.ite (fun _=> ?_) fun _=> ?_
  all_goals first | omega | (exact (h1_.rd0 _ (by decide)).1;done) | (exact (h1_.rd0 _ (by decide)).2;done) | ((rw [rs8 (by omega) (by omega)];rfl);done) | ((rw [rs8 (by omega) (by omega)];omega);done) | (simp only [LL,LN,LB] at*;omega) | skip
  all_goals try simp (disch:=first | omega | (simp only [LL,LN];omega)) only [I64i] at*
  all_goals try simp only [LL,LN,LB] at*
  all_goals (repeat' first | omega | (with_reducible first | assumption | exact True.intro | apply Bw.app | apply Bw.tk | apply Bw.dr | apply Bw.cons | exact Bw.nil | apply Bw.set | apply Bw.rep | apply Bw.rd | apply Al.add | exact Al.nil | apply Al.rd | apply Al.rev | apply Al.cons | apply Ml.cons | exact Ml.nil | apply And.intro) | (simp only [LL,LN,LB] at*;omega) | exact And.right (by with_reducible assumption) | exact And.left (by with_reducible assumption) | with_reducible exact Or.inl True.intro | with_reducible exact Or.inr True.intro | exact (h1_.rd0 _ (by decide)).1 | exact (h1_.rd0 _ (by decide)).2 | (rw [rs8 (by omega) (by omega)];rfl) | (rw [rs8 (by omega) (by omega)];omega))
theorem K0.l0t (z_:Nat) {a:Li} {x:Li} {i:Int} (h0_:a.length=8) (h1_:Bw 0 255 a) (h2_:x.length=4) (h3_:0≤i) (h4_:i≤4) (hn_:(4-i).toNat*20+10=z_):Tt (fun k=>K0.l0 k a x i) (fun r=>True):=(K0.l0_l1 z_).1 _ _ _ h0_ h1_ h2_ h3_ h4_ hn_
theorem K0.t {a:Li} (h0_:a.length=8) (h1_:Bw 0 255 a):Tt (fun k=>K0.f k a) (fun r=>True):=by
 simp only [K0.f]
 repeat' with_reducible first | refine Tt.sw fun _ _=> ?_ | refine Tt.sb ?_ | refine Tt.ret ?_ | refine Tt.mono (K0.l0t _ ?_ ?_ ?_ ?_ ?_ rfl) fun _ _=> ?_ | refine Tt.dn (fun _=> ?_) ?_ | refine Tt.di (fun _=> ?_) fun _=> ?_ | refine Tt.ite (fun _=> ?_) fun _=> ?_
 all_goals exact fin_
theorem K2.t {i:Int} (h0_:True):Tt (fun k=>K2.f k i) (fun r=>r.length=4):=by
 simp only [K2.f]
 repeat' with_reducible first | refine Tt.sw fun _ _=> ?_ | refine Tt.sb ?_ | refine Tt.ret ?_ | refine Tt.dn (fun _=> ?_) ?_ | refine Tt.di (fun _=> ?_) fun _=> ?_ | refine Tt.ite (fun _=> ?_) fun _=> ?_
 all_goals first | omega | (rfl;done) | (simp only [LL,LN,LB] at*;omega) | skip
 all_goals try simp (disch:=first | omega | (simp only [LL,LN];omega)) only [I64i] at*
 all_goals try simp only [LL,LN,LB] at*
 all_goals (repeat' first | omega | (with_reducible first | assumption | exact True.intro | apply Bw.app | apply Bw.tk | apply Bw.dr | apply Bw.cons | exact Bw.nil | apply Bw.set | apply Bw.rep | apply Bw.rd | apply Al.add | exact Al.nil | apply Al.rd | apply Al.rev | apply Al.cons | apply Ml.cons | exact Ml.nil | apply And.intro) | (simp only [LL,LN,LB] at*;omega) | exact And.right (by with_reducible assumption) | exact And.left (by with_reducible assumption) | with_reducible exact Or.inl True.intro | with_reducible exact Or.inr True.intro | rfl)
def hexy (s:ByteArray):Bool:=Nat.beq s.size 16&&(List.range 16).all fun j=>let c:=s.data.getD j 0;(Nat.ble 48 c.toNat&&Nat.ble c.toNat 57) ||(Nat.ble 65 c.toNat&&Nat.ble c.toNat 70)
theorem hexy_sb {s:ByteArray} (h:hexy s=true) {j:Int} (h0:0≤j) (h1:j≤15):(48≤sb s j∧sb s j≤57)∨(65≤sb s j∧sb s j≤70):=by
 unfold hexy at h
 rw [Bool.and_eq_true] at h
 have:=List.all_eq_true.1 h.2 j.toNat (List.mem_range.2 (by omega))
 simp only [Bool.or_eq_true,Bool.and_eq_true,Nat.ble_eq] at this
 unfold sb
 omega
theorem hexy_sz {s:ByteArray} (h:hexy s=true):s.size=16:=by
 unfold hexy at h
 rw [Bool.and_eq_true] at h
 exact Nat.eq_of_beq_eq_true h.1
theorem hexy_rds {l:List ByteArray} (a:l.all hexy=true) {i:Int} (h0:0≤i) (h1:i<l.length):hexy (Scr.rds l i)=true:=by
 have h2:i.toNat<l.length:=by omega
 have:Scr.rds l i=l[i.toNat]:=by unfold Scr.rds;rw [List.getD_eq_getElem?_getD,List.getElem?_eq_getElem h2];rfl
 rw [this]
 exact List.all_eq_true.1 a _ (List.getElem_mem h2)
theorem K3.t {i:Int} (h0_:True):Tt (fun k=>K3.f k i) (fun r=>r.length=4∧r.all hexy=true):=by
 simp only [K3.f]
 repeat' with_reducible first | refine Tt.sw fun _ _=> ?_ | refine Tt.sb ?_ | refine Tt.ret ?_ | refine Tt.dn (fun _=> ?_) ?_ | refine Tt.di (fun _=> ?_) fun _=> ?_ | refine Tt.ite (fun _=> ?_) fun _=> ?_
 all_goals first | omega | ((show List.all _ hexy=true;kernel_rfl);done) | ((show List.length _=4;rfl);done) | (simp only [LL,LN,LB] at*;omega) | skip
 all_goals try simp (disch:=first | omega | (simp only [LL,LN];omega)) only [I64i] at*
 all_goals try simp only [LL,LN,LB] at*
 all_goals (repeat' first | omega | (with_reducible first | assumption | exact True.intro | apply Bw.app | apply Bw.tk | apply Bw.dr | apply Bw.cons | exact Bw.nil | apply Bw.set | apply Bw.rep | apply Bw.rd | apply Al.add | exact Al.nil | apply Al.rd | apply Al.rev | apply Al.cons | apply Ml.cons | exact Ml.nil | apply And.intro) | (simp only [LL,LN,LB] at*;omega) | exact And.right (by with_reducible assumption) | exact And.left (by with_reducible assumption) | with_reducible exact Or.inl True.intro | with_reducible exact Or.inr True.intro | (show List.all _ hexy=true;kernel_rfl) | (show List.length _=4;rfl))
theorem K4.t {a:Int} (h0_:(48≤a∧a≤57)∨(65≤a∧a≤70)):Tt (fun k=>K4.f k a) (fun r=>0≤r∧r≤15):=by
 simp only [K4.f]
 repeat' with_reducible first | refine Tt.sw fun _ _=> ?_ | refine Tt.sb ?_ | refine Tt.ret ?_ | refine Tt.dn (fun _=> ?_) ?_ | refine Tt.di (fun _=> ?_) fun _=> ?_ | refine Tt.ite (fun _=> ?_) fun _=> ?_
 all_goals exact fin_
theorem y8 {x y:Int} (hx:0≤x∧x≤15) (hy:0≤y∧y≤15):0≤bxor .u8 (bxor .u8 x (bor .u8 (shr y 1) (band .u8 (shl .u8 y 3) 15))) (band .u8 (shl .u8 x 3) 15)∧bxor .u8 (bxor .u8 x (bor .u8 (shr y 1) (band .u8 (shl .u8 y 3) 15))) (band .u8 (shl .u8 x 3) 15)≤15:=
 bx15 (bx15 hx (bo15 (by rw [shr1 hy.1];omega) (band15b _))) (band15b _)
theorem Kw.l0t (z_:Nat): ∀ {t:List ByteArray} {x:Int} {y:Int} {i:Int} (h0_:t.length=4) (h1_:t.all hexy=true) (h2_:0≤x∧x≤15) (h3_:0≤y∧y≤15) (h4_:0≤i) (h5_:i≤4) (h6_:i%2=0) (hn_:(4-i).toNat=z_),Tt (fun k=>Kw.l0 k t x y i) (fun r=>0≤r∧r≤255):=by
 induction z_ using Nat.strongRecOn with
 | ind z_ ih=>
 intro t x y i h0_ h1_ h2_ h3_ h4_ h5_ h6_ hn_
 refine Tt.succ ?_
 simp only [Kw.l0]
 repeat' with_reducible first | refine Tt.sw fun _ _=> ?_ | refine Tt.sb ?_ | refine Tt.ret ?_ | refine Tt.bind (K4.t ?_) fun _ _=> ?_ | refine Tt.mono (K4.t ?_) fun _ _=> ?_ | refine Tt.mono (ih _ ?_ ?_ ?_ ?_ ?_ ?_ ?_ ?_ rfl) fun _ _=> ?_ | refine Tt.dn (fun _=> ?_) ?_ | refine Tt.di (fun _=> ?_) fun _=> ?_ | refine Tt.ite (fun _=> ?_) fun _=> ?_
 all_goals first | omega | (exact hexy_sb (hexy_rds h1_ (by omega) (by omega)) (bx15 h2_ h3_).1 (bx15 h2_ h3_).2;done) | (exact (bx15 h2_ h3_).1;done) | ((rw [hexy_sz (hexy_rds h1_ (by omega) (by omega))];exact Int.lt_of_le_of_lt (bx15 h2_ h3_).2 (by decide));done) | (exact (y8 h2_ h3_).1;done) | ((rw [hexy_sz (hexy_rds h1_ (by simp (disch:=omega) only [I64i];omega) (by simp (disch:=omega) only [I64i];omega))];exact Int.lt_of_le_of_lt (y8 h2_ h3_).2 (by decide));done) | (exact hexy_sb (hexy_rds h1_ (by first | omega | (simp (disch:=omega) only [I64i];omega)) (by first | omega | (simp (disch:=omega) only [I64i];omega))) (y8 h2_ h3_).1 (y8 h2_ h3_).2;done) | (exact (bou8 _ _).1;done) | (exact (bou8 _ _).2;done) | (simp only [LL,LN,LB] at*;omega) | skip
 all_goals try simp (disch:=first | omega | (simp only [LL,LN];omega)) only [I64i] at*
 all_goals try simp only [LL,LN,LB] at*
 all_goals (repeat' first | omega | (with_reducible first | assumption | exact True.intro | apply Bw.app | apply Bw.tk | apply Bw.dr | apply Bw.cons | exact Bw.nil | apply Bw.set | apply Bw.rep | apply Bw.rd | apply Al.add | exact Al.nil | apply Al.rd | apply Al.rev | apply Al.cons | apply Ml.cons | exact Ml.nil | apply And.intro) | (simp only [LL,LN,LB] at*;omega) | exact And.right (by with_reducible assumption) | exact And.left (by with_reducible assumption) | with_reducible exact Or.inl True.intro | with_reducible exact Or.inr True.intro | exact hexy_sb (hexy_rds h1_ (by omega) (by omega)) (bx15 h2_ h3_).1 (bx15 h2_ h3_).2 | exact (bx15 h2_ h3_).1 | (rw [hexy_sz (hexy_rds h1_ (by omega) (by omega))];exact Int.lt_of_le_of_lt (bx15 h2_ h3_).2 (by decide)) | exact (y8 h2_ h3_).1 | (rw [hexy_sz (hexy_rds h1_ (by simp (disch:=omega) only [I64i];omega) (by simp (disch:=omega) only [I64i];omega))];exact Int.lt_of_le_of_lt (y8 h2_ h3_).2 (by decide)) | exact hexy_sb (hexy_rds h1_ (by first | omega | (simp (disch:=omega) only [I64i];omega)) (by first | omega | (simp (disch:=omega) only [I64i];omega))) (y8 h2_ h3_).1 (y8 h2_ h3_).2 | exact (bou8 _ _).1 | exact (bou8 _ _).2)
end Go.Scr.S
