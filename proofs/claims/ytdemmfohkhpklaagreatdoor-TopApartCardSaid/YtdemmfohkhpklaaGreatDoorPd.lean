/- Plain functions that answer, whatever comes in. -/
import Derived.Test.YtdemmfohkhpklaaGreatDoorPt
import Derived.Test.YtdemmfohkhpklaaGreatDoorPa
import Derived.Test.YtdemmfohkhpklaaGreatDoorPb
import Derived.Test.YtdemmfohkhpklaaGreatDoorPc
set_option linter.unusedVariables false
set_option linter.unusedSimpArgs false
set_option maxRecDepth 10000
namespace Go.Scr.S
theorem shr4 {x:Int} (h:0≤x):shr x 4=x/16:=by
 unfold shr
 rw [Int.fdiv_eq_ediv_of_nonneg _ (by decide)];rfl
theorem Kw.t {i:Int} {a:Int} (h0_:0≤a) (h1_:a≤255):Tt (fun k=>Kw.f k i a) (fun r=>0≤r∧r≤255):=by
 simp only [Kw.f]
 repeat' with_reducible first | refine Tt.sw fun _ _=> ?_ | refine Tt.sb ?_ | refine Tt.ret ?_ | refine Tt.bind (K3.t ?_) fun _ _=> ?_ | refine Tt.mono (K3.t ?_) fun _ _=> ?_ | refine Tt.mono (Kw.l0t _ ?_ ?_ ?_ ?_ ?_ ?_ ?_ rfl) fun _ _=> ?_ | refine Tt.dn (fun _=> ?_) ?_ | refine Tt.di (fun _=> ?_) fun _=> ?_ | refine Tt.ite (fun _=> ?_) fun _=> ?_
 all_goals first | omega | ((rw [shr4 h0_];omega);done) | (exact (band15b _).1;done) | (exact (band15b _).2;done) | (simp only [LL,LN,LB] at*;omega) | skip
 all_goals try simp (disch:=first | omega | (simp only [LL,LN];omega)) only [I64i] at*
 all_goals try simp only [LL,LN,LB] at*
 all_goals (repeat' first | omega | (with_reducible first | assumption | exact True.intro | apply Bw.app | apply Bw.tk | apply Bw.dr | apply Bw.cons | exact Bw.nil | apply Bw.set | apply Bw.rep | apply Bw.rd | apply Al.add | exact Al.nil | apply Al.rd | apply Al.rev | apply Al.cons | apply Ml.cons | exact Ml.nil | apply And.intro) | (simp only [LL,LN,LB] at*;omega) | exact And.right (by with_reducible assumption) | exact And.left (by with_reducible assumption) | with_reducible exact Or.inl True.intro | with_reducible exact Or.inr True.intro | (rw [shr4 h0_];omega) | exact (band15b _).1 | exact (band15b _).2)
theorem K1.t (h0_:True):Tt (fun k=>K1.f k) (fun r=>True):=by
 simp only [K1.f]
 repeat' with_reducible first | refine Tt.sw fun _ _=> ?_ | refine Tt.sb ?_ | refine Tt.ret ?_ | refine Tt.dn (fun _=> ?_) ?_ | refine Tt.di (fun _=> ?_) fun _=> ?_ | refine Tt.ite (fun _=> ?_) fun _=> ?_
 all_goals exact fin_
theorem Kt.l2_l3 (z_:Nat):(∀(t:Li) (u:Li) (y:Li) (x:Li) (i:Int) (h0_:u.length=4) (h1_:Bw 0 255 y) (h2_:x.length=4) (h3_:0≤i) (h4_:i≤4) (hn_:(4-i).toNat*10+7=z_),Tt (fun k=>Kt.l2 k t u y x i) (fun r=>True))∧(∀(t:Li) (i:Int) (u:Li) (y:Li) (x:Li) (j:Int) (h0_:u.length=4) (h1_:Bw 0 255 y) (h2_:x.length=4) (h3_:0≤i) (h4_:i<4) (h5_:0≤j) (h6_:j≤4) (hn_:(4-i).toNat*10+(4-j).toNat=z_),Tt (fun k=>Kt.l3 k t i u y x j) (fun r=>True)):=by
 induction z_ using Nat.strongRecOn with
 | ind z_ ih=>
 have ih1:=fun m h=>(ih m h).1
 have ih2:=fun m h=>(ih m h).2
 clear ih
 constructor
 ·intro t u y x i h0_ h1_ h2_ h3_ h4_ hn_
  refine Tt.succ ?_
  simp only [Kt.l2]
  repeat' with_reducible first | refine Tt.sw fun _ _=> ?_ | refine Tt.sb ?_ | refine Tt.ret ?_ | refine Tt.bind (K7.t ?_) fun _ _=> ?_ | refine Tt.mono (K7.t ?_) fun _ _=> ?_ | refine Tt.mono (ih1 _ ?_ _ _ _ _ _ ?_ ?_ ?_ ?_ ?_ rfl) fun _ _=> ?_ | refine Tt.mono (ih2 _ ?_ _ _ _ _ _ _ ?_ ?_ ?_ ?_ ?_ ?_ ?_ rfl) fun _ _=> ?_ | refine Tt.dn (fun _=> ?_) ?_ | refine Tt.di (fun _=> ?_) fun _=> ?_ | refine Tt.ite (fun _=> ?_) fun _=> ?_
  all_goals first | omega | (exact (h1_.rd0 _ (by decide)).1;done) | (exact (h1_.rd0 _ (by decide)).2;done) | (simp only [LL,LN,LB] at*;omega) | skip
  all_goals try simp (disch:=first | omega | (simp only [LL,LN];omega)) only [I64i] at*
  all_goals try simp only [LL,LN,LB] at*
  all_goals (repeat' first | omega | (with_reducible first | assumption | exact True.intro | apply Bw.app | apply Bw.tk | apply Bw.dr | apply Bw.cons | exact Bw.nil | apply Bw.set | apply Bw.rep | apply Bw.rd | apply Al.add | exact Al.nil | apply Al.rd | apply Al.rev | apply Al.cons | apply Ml.cons | exact Ml.nil | apply And.intro) | (simp only [LL,LN,LB] at*;omega) | exact And.right (by with_reducible assumption) | exact And.left (by with_reducible assumption) | with_reducible exact Or.inl True.intro | with_reducible exact Or.inr True.intro | exact (h1_.rd0 _ (by decide)).1 | exact (h1_.rd0 _ (by decide)).2)
 ·intro t i u y x j h0_ h1_ h2_ h3_ h4_ h5_ h6_ hn_
  refine Tt.succ ?_
  simp only [Kt.l3]
  repeat' with_reducible first | refine Tt.sw fun _ _=> ?_ | refine Tt.sb ?_ | refine Tt.ret ?_ | refine Tt.bind (Vr.t ?_ ?_) fun _ _=> ?_ | refine Tt.mono (Vr.t ?_ ?_) fun _ _=> ?_ | refine Tt.mono (ih1 _ ?_ _ _ _ _ _ ?_ ?_ ?_ ?_ ?_ rfl) fun _ _=> ?_ | refine Tt.mono (ih2 _ ?_ _ _ _ _ _ _ ?_ ?_ ?_ ?_ ?_ ?_ ?_ rfl) fun _ _=> ?_ | refine Tt.dn (fun _=> ?_) ?_ | refine Tt.di (fun _=> ?_) fun _=> ?_ | refine Tt.ite (fun _=> ?_) fun _=> ?_
  all_goals first | omega | (exact (h1_.rd0 _ (by decide)).1;done) | (exact (h1_.rd0 _ (by decide)).2;done) | (simp only [LL,LN,LB] at*;omega) | skip
  all_goals try simp (disch:=first | omega | (simp only [LL,LN];omega)) only [I64i] at*
  all_goals try simp only [LL,LN,LB] at*
  all_goals (repeat' first | omega | (with_reducible first | assumption | exact True.intro | apply Bw.app | apply Bw.tk | apply Bw.dr | apply Bw.cons | exact Bw.nil | apply Bw.set | apply Bw.rep | apply Bw.rd | apply Al.add | exact Al.nil | apply Al.rd | apply Al.rev | apply Al.cons | apply Ml.cons | exact Ml.nil | apply And.intro) | (simp only [LL,LN,LB] at*;omega) | exact And.right (by with_reducible assumption) | exact And.left (by with_reducible assumption) | with_reducible exact Or.inl True.intro | with_reducible exact Or.inr True.intro | exact (h1_.rd0 _ (by decide)).1 | exact (h1_.rd0 _ (by decide)).2)
theorem Kt.l2t (z_:Nat) {t:Li} {u:Li} {y:Li} {x:Li} {i:Int} (h0_:u.length=4) (h1_:Bw 0 255 y) (h2_:x.length=4) (h3_:0≤i) (h4_:i≤4) (hn_:(4-i).toNat*10+7=z_):Tt (fun k=>Kt.l2 k t u y x i) (fun r=>True):=(Kt.l2_l3 z_).1 _ _ _ _ _ h0_ h1_ h2_ h3_ h4_ hn_
theorem Kt.l0_l1 (z_:Nat):(∀(a:Li) (x:Li) (i:Int) (h0_:x.length=4) (h1_:Bw 0 255 x) (h2_:0≤i) (h3_:i≤4) (h4_:i≤a.length) (hn_:i.toNat*10+7=z_),Tt (fun k=>Kt.l0 k a x i) (fun r=>True))∧(∀(a:Li) (t:Li) (u:Li) (i:Int) (x:Li) (j:Int) (h0_:u.length=4) (h1_:x.length=4) (h2_:Bw 0 255 x) (h3_:0≤i) (h4_:i≤4) (h5_:i≤a.length) (h6_:0≤j) (h7_:j≤4) (h8_:t.length=4) (hn_:i.toNat*10+(4-j).toNat=z_),Tt (fun k=>Kt.l1 k a t u i x j) (fun r=>True)):=by
 induction z_ using Nat.strongRecOn with
 | ind z_ ih=>
 have ih1:=fun m h=>(ih m h).1
 have ih2:=fun m h=>(ih m h).2
 clear ih
 constructor
 ·intro a x i h0_ h1_ h2_ h3_ h4_ hn_
  refine Tt.succ ?_
  simp only [Kt.l0]
  repeat' with_reducible first | refine Tt.sw fun _ _=> ?_ | refine Tt.sb ?_ | refine Tt.ret ?_ | refine Tt.bind (K2.t ?_) fun _ _=> ?_ | refine Tt.mono (K2.t ?_) fun _ _=> ?_ | refine Tt.mono (ih1 _ ?_ _ _ _ ?_ ?_ ?_ ?_ ?_ rfl) fun _ _=> ?_ | refine Tt.mono (ih2 _ ?_ _ _ _ _ _ _ ?_ ?_ ?_ ?_ ?_ ?_ ?_ ?_ ?_ rfl) fun _ _=> ?_ | refine Tt.dn (fun _=> ?_) ?_ | refine Tt.di (fun _=> ?_) fun _=> ?_ | refine Tt.ite (fun _=> ?_) fun _=> ?_
  all_goals first | omega | (exact (h2_.rd0 _ (by decide)).1;done) | (exact (h2_.rd0 _ (by decide)).2;done) | (simp only [LL,LN,LB] at*;omega) | skip
  all_goals try simp (disch:=first | omega | (simp only [LL,LN];omega)) only [I64i] at*
  all_goals try simp only [LL,LN,LB] at*
  all_goals (repeat' first | omega | (with_reducible first | assumption | exact True.intro | apply Bw.app | apply Bw.tk | apply Bw.dr | apply Bw.cons | exact Bw.nil | apply Bw.set | apply Bw.rep | apply Bw.rd | apply Al.add | exact Al.nil | apply Al.rd | apply Al.rev | apply Al.cons | apply Ml.cons | exact Ml.nil | apply And.intro) | (simp only [LL,LN,LB] at*;omega) | exact And.right (by with_reducible assumption) | exact And.left (by with_reducible assumption) | with_reducible exact Or.inl True.intro | with_reducible exact Or.inr True.intro | exact (h2_.rd0 _ (by decide)).1 | exact (h2_.rd0 _ (by decide)).2)
 ·intro a t u i x j h0_ h1_ h2_ h3_ h4_ h5_ h6_ h7_ h8_ hn_
  refine Tt.succ ?_
  simp only [Kt.l1]
  repeat' with_reducible first | refine Tt.sw fun _ _=> ?_ | refine Tt.sb ?_ | refine Tt.ret ?_ | refine Tt.bind (Kw.t ?_ ?_) fun _ _=> ?_ | refine Tt.mono (Kw.t ?_ ?_) fun _ _=> ?_ | refine Tt.bind (Ja.c) fun _ _=> ?_ | refine Tt.mono (Ja.c) fun _ _=> ?_ | refine Tt.bind (Jd.c ?_ ?_) fun _ _=> ?_ | refine Tt.mono (Jd.c ?_ ?_) fun _ _=> ?_ | refine Tt.bind (K1.t ?_) fun _ _=> ?_ | refine Tt.mono (K1.t ?_) fun _ _=> ?_ | refine Tt.mono (Kt.l2t _ ?_ ?_ ?_ ?_ ?_ rfl) fun _ _=> ?_ | refine Tt.mono (ih1 _ ?_ _ _ _ ?_ ?_ ?_ ?_ ?_ rfl) fun _ _=> ?_ | refine Tt.mono (ih2 _ ?_ _ _ _ _ _ _ ?_ ?_ ?_ ?_ ?_ ?_ ?_ ?_ ?_ rfl) fun _ _=> ?_ | refine Tt.dn (fun _=> ?_) ?_ | refine Tt.di (fun _=> ?_) fun _=> ?_ | refine Tt.ite (fun _=> ?_) fun _=> ?_
  all_goals first | omega | (exact (h2_.rd0 _ (by decide)).1;done) | (exact (h2_.rd0 _ (by decide)).2;done) | (simp only [LL,LN,LB] at*;omega) | skip
  all_goals try simp (disch:=first | omega | (simp only [LL,LN];omega)) only [I64i] at*
  all_goals try simp only [LL,LN,LB] at*
  all_goals (repeat' first | omega | (with_reducible first | assumption | exact True.intro | apply Bw.app | apply Bw.tk | apply Bw.dr | apply Bw.cons | exact Bw.nil | apply Bw.set | apply Bw.rep | apply Bw.rd | apply Al.add | exact Al.nil | apply Al.rd | apply Al.rev | apply Al.cons | apply Ml.cons | exact Ml.nil | apply And.intro) | (simp only [LL,LN,LB] at*;omega) | exact And.right (by with_reducible assumption) | exact And.left (by with_reducible assumption) | with_reducible exact Or.inl True.intro | with_reducible exact Or.inr True.intro | exact (h2_.rd0 _ (by decide)).1 | exact (h2_.rd0 _ (by decide)).2)
theorem Kt.l0t (z_:Nat) {a:Li} {x:Li} {i:Int} (h0_:x.length=4) (h1_:Bw 0 255 x) (h2_:0≤i) (h3_:i≤4) (h4_:i≤a.length) (hn_:i.toNat*10+7=z_):Tt (fun k=>Kt.l0 k a x i) (fun r=>True):=(Kt.l0_l1 z_).1 _ _ _ h0_ h1_ h2_ h3_ h4_ hn_
theorem mn4 (a:Nat):0≤mn (a:Int) 4∧mn (a:Int) 4≤4∧mn (a:Int) 4≤a:=by unfold mn;split<;>omega
theorem Kt.t {a:Int} {b:Li} (h0_:True):Tt (fun k=>Kt.f k a b) (fun r=>True):=by
 simp only [Kt.f]
 repeat' with_reducible first | refine Tt.sw fun _ _=> ?_ | refine Tt.sb ?_ | refine Tt.ret ?_ | refine Tt.bind (Ja.c) fun _ _=> ?_ | refine Tt.mono (Ja.c) fun _ _=> ?_ | refine Tt.mono (Kt.l0t _ ?_ ?_ ?_ ?_ ?_ rfl) fun _ _=> ?_ | refine Tt.dn (fun _=> ?_) ?_ | refine Tt.di (fun _=> ?_) fun _=> ?_ | refine Tt.ite (fun _=> ?_) fun _=> ?_
 all_goals first | omega | (exact (mn4 _).1;done) | (exact (mn4 _).2.1;done) | (exact (mn4 _).2.2;done) | (simp only [LL,LN,LB] at*;omega) | skip
 all_goals try simp (disch:=first | omega | (simp only [LL,LN];omega)) only [I64i] at*
 all_goals try simp only [LL,LN,LB] at*
 all_goals (repeat' first | omega | (with_reducible first | assumption | exact True.intro | apply Bw.app | apply Bw.tk | apply Bw.dr | apply Bw.cons | exact Bw.nil | apply Bw.set | apply Bw.rep | apply Bw.rd | apply Al.add | exact Al.nil | apply Al.rd | apply Al.rev | apply Al.cons | apply Ml.cons | exact Ml.nil | apply And.intro) | (simp only [LL,LN,LB] at*;omega) | exact And.right (by with_reducible assumption) | exact And.left (by with_reducible assumption) | with_reducible exact Or.inl True.intro | with_reducible exact Or.inr True.intro | exact (mn4 _).1 | exact (mn4 _).2.1 | exact (mn4 _).2.2)
theorem Ku.l1t (z_:Nat): ∀ {u:Li} {v:Li} {x:Li} {y:Li} {i:Int} (h0_:(x.length:Int)=2*i) (h1_:0≤i) (h2_:i<20) (h3_:y.length≤1000) (hn_:(20-i).toNat=z_),Tt (fun k=>Ku.l1 k u v x y i) (fun r=>r.1.length=40∧r.2.2=0):=by
 induction z_ using Nat.strongRecOn with
 | ind z_ ih=>
 intro u v x y i h0_ h1_ h2_ h3_ hn_
 refine Tt.succ ?_
 simp only [Ku.l1]
 repeat' with_reducible first | refine Tt.sw fun _ _=> ?_ | refine Tt.sb ?_ | refine Tt.ret ?_ | refine Tt.bind (Kt.t ?_) fun _ _=> ?_ | refine Tt.mono (Kt.t ?_) fun _ _=> ?_ | refine Tt.bind (Jb.t ?_) fun _ _=> ?_ | refine Tt.mono (Jb.t ?_) fun _ _=> ?_ | refine Tt.ebind (Y2.e ?_) ?_ | refine Tt.mono (ih _ ?_ ?_ ?_ ?_ ?_ rfl) fun _ _=> ?_ | refine Tt.dn (fun _=> ?_) ?_ | refine Tt.di (fun _=> ?_) fun _=> ?_ | refine Tt.ite (fun _=> ?_) fun _=> ?_
 all_goals exact fin_
theorem Ku.l0t (z_:Nat): ∀ {x:Li} {u:Li} {v:Li} {y:Li} (h0_:y.length%8=0) (h1_:Bw 0 255 y) (h2_:x.length+y.length≤1000) (h3_:u.length+y.length≤1000) (h4_:v.length+y.length≤1000) (hn_:y.length=z_),Tt (fun k=>Ku.l0 k x u v y) (fun r=>r.1.length=40∧r.2.2=0):=by
 induction z_ using Nat.strongRecOn with
 | ind z_ ih=>
 intro x u v y h0_ h1_ h2_ h3_ h4_ hn_
 refine Tt.succ ?_
 simp only [Ku.l0]
 repeat' with_reducible first | refine Tt.sw fun _ _=> ?_ | refine Tt.sb ?_ | refine Tt.ret ?_ | refine Tt.bind (K7.t ?_) fun _ _=> ?_ | refine Tt.mono (K7.t ?_) fun _ _=> ?_ | refine Tt.bind (K0.t ?_ ?_) fun _ _=> ?_ | refine Tt.mono (K0.t ?_ ?_) fun _ _=> ?_ | refine Tt.bind (Ka.t ?_) fun _ _=> ?_ | refine Tt.mono (Ka.t ?_) fun _ _=> ?_ | refine Tt.mono (Ku.l1t _ ?_ ?_ ?_ ?_ rfl) fun _ _=> ?_ | refine Tt.mono (ih _ ?_ ?_ ?_ ?_ ?_ ?_ rfl) fun _ _=> ?_ | refine Tt.dn (fun _=> ?_) ?_ | refine Tt.di (fun _=> ?_) fun _=> ?_ | refine Tt.ite (fun _=> ?_) fun _=> ?_
 all_goals exact fin_
theorem Ku.t {a:Li} (h0_:a.length=16∨a.length=24∨a.length=32) (h1_:Bw 0 255 a):Tt (fun k=>Ku.f k a) (fun r=>r.1.length=40∧r.2.2=0):=by
 simp only [Ku.f]
 repeat' with_reducible first | refine Tt.sw fun _ _=> ?_ | refine Tt.sb ?_ | refine Tt.ret ?_ | refine Tt.mono (Ku.l0t _ ?_ ?_ ?_ ?_ ?_ rfl) fun _ _=> ?_ | refine Tt.dn (fun _=> ?_) ?_ | refine Tt.di (fun _=> ?_) fun _=> ?_ | refine Tt.ite (fun _=> ?_) fun _=> ?_
 all_goals exact fin_
theorem Kv.t {a:Li} (h0_:a.length=16∨a.length=24∨a.length=32) (h1_:Bw 0 255 a):Tt (fun k=>Kv.f k a) (fun r=> ∃s,r=(some s,0)∧s.1.length=40):=by
 simp only [Kv.f]
 repeat' with_reducible first | refine Tt.sw fun _ _=> ?_ | refine Tt.sb ?_ | refine Tt.ret ?_ | refine Tt.bind (Ku.t ?_ ?_) fun _ _=> ?_ | refine Tt.mono (Ku.t ?_ ?_) fun _ _=> ?_ | refine Tt.dn (fun _=> ?_) ?_ | refine Tt.di (fun _=> ?_) fun _=> ?_ | refine Tt.ite (fun _=> ?_) fun _=> ?_
 all_goals first | omega | ((refine ⟨_,rfl,?_⟩);done) | (simp only [LL,LN,LB] at*;omega) | skip
 all_goals try simp (disch:=first | omega | (simp only [LL,LN];omega)) only [I64i] at*
 all_goals try simp only [LL,LN,LB] at*
 all_goals (repeat' first | omega | (with_reducible first | assumption | exact True.intro | apply Bw.app | apply Bw.tk | apply Bw.dr | apply Bw.cons | exact Bw.nil | apply Bw.set | apply Bw.rep | apply Bw.rd | apply Al.add | exact Al.nil | apply Al.rd | apply Al.rev | apply Al.cons | apply Ml.cons | exact Ml.nil | apply And.intro) | (simp only [LL,LN,LB] at*;omega) | exact And.right (by with_reducible assumption) | exact And.left (by with_reducible assumption) | with_reducible exact Or.inl True.intro | with_reducible exact Or.inr True.intro | (refine ⟨_,rfl,?_⟩))
theorem Kz.l0t (z_:Nat): ∀ {s:Li×Li} {n:Int} {x:Li} {i:Int} (h0_:s.1.length=40) (h1_:n=0∨n=4) (h2_:x.length=4) (h3_:0≤i) (h4_:i≤4) (hn_:(4-i).toNat=z_),Tt (fun k=>Kz.l0 k s n x i) (fun r=>r.length=4):=by
 induction z_ using Nat.strongRecOn with
 | ind z_ ih=>
 intro s n x i h0_ h1_ h2_ h3_ h4_ hn_
 refine Tt.succ ?_
 simp only [Kz.l0]
 repeat' with_reducible first | refine Tt.sw fun _ _=> ?_ | refine Tt.sb ?_ | refine Tt.ret ?_ | refine Tt.mono (ih _ ?_ ?_ ?_ ?_ ?_ ?_ rfl) fun _ _=> ?_ | refine Tt.dn (fun _=> ?_) ?_ | refine Tt.di (fun _=> ?_) fun _=> ?_ | refine Tt.ite (fun _=> ?_) fun _=> ?_
 all_goals exact fin_
theorem Kz.t {s:Li×Li} {x:Li} {n:Int} (h0_:s.1.length=40) (h1_:n=0∨n=4) (h2_:x.length=4):Tt (fun k=>Kz.f k s x n) (fun r=>r.length=4):=by
 simp only [Kz.f]
 repeat' with_reducible first | refine Tt.sw fun _ _=> ?_ | refine Tt.sb ?_ | refine Tt.ret ?_ | refine Tt.mono (Kz.l0t _ ?_ ?_ ?_ ?_ ?_ rfl) fun _ _=> ?_ | refine Tt.dn (fun _=> ?_) ?_ | refine Tt.di (fun _=> ?_) fun _=> ?_ | refine Tt.ite (fun _=> ?_) fun _=> ?_
 all_goals exact fin_
theorem Ky.t {s:Li×Li} {x:Int} {y:Int} {i:Int} (h0_:s.1.length=40) (h1_:0≤i) (h2_:i≤15):Tt (fun k=>Ky.f k s x y i) (fun r=>True):=by
 simp only [Ky.f]
 repeat' with_reducible first | refine Tt.sw fun _ _=> ?_ | refine Tt.sb ?_ | refine Tt.ret ?_ | refine Tt.bind (Kt.t ?_) fun _ _=> ?_ | refine Tt.mono (Kt.t ?_) fun _ _=> ?_ | refine Tt.bind (Jb.t ?_) fun _ _=> ?_ | refine Tt.mono (Jb.t ?_) fun _ _=> ?_ | refine Tt.dn (fun _=> ?_) ?_ | refine Tt.di (fun _=> ?_) fun _=> ?_ | refine Tt.ite (fun _=> ?_) fun _=> ?_
 all_goals exact fin_
theorem Kx.l2t (z_:Nat): ∀ {t:Li} {x:Li} {i:Int} (h0_:(x.length:Int)=4*i) (h1_:0≤i) (h2_:i≤4) (h3_:t.length=4) (hn_:(4-i).toNat=z_),Tt (fun k=>Kx.l2 k t x i) (fun r=>r.1.length=16∧r.2=0):=by
 induction z_ using Nat.strongRecOn with
 | ind z_ ih=>
 intro t x i h0_ h1_ h2_ h3_ hn_
 refine Tt.succ ?_
 simp only [Kx.l2]
 repeat' with_reducible first | refine Tt.sw fun _ _=> ?_ | refine Tt.sb ?_ | refine Tt.ret ?_ | refine Tt.bind (Ja.t ?_) fun _ _=> ?_ | refine Tt.mono (Ja.t ?_) fun _ _=> ?_ | refine Tt.mono (ih _ ?_ ?_ ?_ ?_ ?_ rfl) fun _ _=> ?_ | refine Tt.dn (fun _=> ?_) ?_ | refine Tt.di (fun _=> ?_) fun _=> ?_ | refine Tt.ite (fun _=> ?_) fun _=> ?_
 all_goals exact fin_
theorem Kx.l4t (z_:Nat): ∀ {t:Li} {x:Li} {i:Int} (h0_:(x.length:Int)=4*i) (h1_:0≤i) (h2_:i≤4) (h3_:t.length=4) (hn_:(4-i).toNat=z_),Tt (fun k=>Kx.l4 k t x i) (fun r=>r.1.length=16∧r.2=0):=by
 induction z_ using Nat.strongRecOn with
 | ind z_ ih=>
 intro t x i h0_ h1_ h2_ h3_ hn_
 refine Tt.succ ?_
 simp only [Kx.l4]
 repeat' with_reducible first | refine Tt.sw fun _ _=> ?_ | refine Tt.sb ?_ | refine Tt.ret ?_ | refine Tt.bind (Ja.t ?_) fun _ _=> ?_ | refine Tt.mono (Ja.t ?_) fun _ _=> ?_ | refine Tt.mono (ih _ ?_ ?_ ?_ ?_ ?_ rfl) fun _ _=> ?_ | refine Tt.dn (fun _=> ?_) ?_ | refine Tt.di (fun _=> ?_) fun _=> ?_ | refine Tt.ite (fun _=> ?_) fun _=> ?_
 all_goals exact fin_
theorem Kx.l1t (z_:Nat): ∀ {s:Li×Li} {x:Li} {i:Int} (h0_:s.1.length=40) (h1_:x.length=4) (h2_: -1≤i) (h3_:i≤15) (hn_:(i+1).toNat=z_),Tt (fun k=>Kx.l1 k s x i) (fun r=>r.1.length=16∧r.2=0):=by
 induction z_ using Nat.strongRecOn with
 | ind z_ ih=>
 intro s x i h0_ h1_ h2_ h3_ hn_
 refine Tt.succ ?_
 simp only [Kx.l1]
 repeat' with_reducible first | refine Tt.sw fun _ _=> ?_ | refine Tt.sb ?_ | refine Tt.ret ?_ | refine Tt.bind (Ky.t ?_ ?_ ?_) fun _ _=> ?_ | refine Tt.mono (Ky.t ?_ ?_ ?_) fun _ _=> ?_ | refine Tt.bind (Jb.t ?_) fun _ _=> ?_ | refine Tt.mono (Jb.t ?_) fun _ _=> ?_ | refine Tt.bind (Kz.t ?_ ?_ ?_) fun _ _=> ?_ | refine Tt.mono (Kz.t ?_ ?_ ?_) fun _ _=> ?_ | refine Tt.mono (Kx.l2t _ ?_ ?_ ?_ ?_ rfl) fun _ _=> ?_ | refine Tt.mono (ih _ ?_ ?_ ?_ ?_ ?_ rfl) fun _ _=> ?_ | refine Tt.dn (fun _=> ?_) ?_ | refine Tt.di (fun _=> ?_) fun _=> ?_ | refine Tt.ite (fun _=> ?_) fun _=> ?_
 all_goals exact fin_
theorem Kx.l3t (z_:Nat): ∀ {s:Li×Li} {x:Li} {i:Int} (h0_:s.1.length=40) (h1_:x.length=4) (h2_:0≤i) (h3_:i≤16) (hn_:(16-i).toNat=z_),Tt (fun k=>Kx.l3 k s x i) (fun r=>r.1.length=16∧r.2=0):=by
 induction z_ using Nat.strongRecOn with
 | ind z_ ih=>
 intro s x i h0_ h1_ h2_ h3_ hn_
 refine Tt.succ ?_
 simp only [Kx.l3]
 repeat' with_reducible first | refine Tt.sw fun _ _=> ?_ | refine Tt.sb ?_ | refine Tt.ret ?_ | refine Tt.bind (Ky.t ?_ ?_ ?_) fun _ _=> ?_ | refine Tt.mono (Ky.t ?_ ?_ ?_) fun _ _=> ?_ | refine Tt.bind (Jb.t ?_) fun _ _=> ?_ | refine Tt.mono (Jb.t ?_) fun _ _=> ?_ | refine Tt.bind (Kz.t ?_ ?_ ?_) fun _ _=> ?_ | refine Tt.mono (Kz.t ?_ ?_ ?_) fun _ _=> ?_ | refine Tt.mono (Kx.l4t _ ?_ ?_ ?_ ?_ rfl) fun _ _=> ?_ | refine Tt.mono (ih _ ?_ ?_ ?_ ?_ ?_ rfl) fun _ _=> ?_ | refine Tt.dn (fun _=> ?_) ?_ | refine Tt.di (fun _=> ?_) fun _=> ?_ | refine Tt.ite (fun _=> ?_) fun _=> ?_
 all_goals exact fin_
theorem Kx.l0t (z_:Nat): ∀ {s:Li×Li} {a:Li} {b:Bool} {x:Li} {i:Int} (h0_:s.1.length=40) (h1_:a.length=16) (h2_:x.length=4) (h3_:0≤i) (h4_:i≤4) (hn_:(4-i).toNat=z_),Tt (fun k=>Kx.l0 k s a b x i) (fun r=>r.1.length=16∧r.2=0):=by
 induction z_ using Nat.strongRecOn with
 | ind z_ ih=>
 intro s a b x i h0_ h1_ h2_ h3_ h4_ hn_
 refine Tt.succ ?_
 simp only [Kx.l0]
 repeat' with_reducible first | refine Tt.sw fun _ _=> ?_ | refine Tt.sb ?_ | refine Tt.ret ?_ | refine Tt.bind (K7.t ?_) fun _ _=> ?_ | refine Tt.mono (K7.t ?_) fun _ _=> ?_ | refine Tt.bind (Kz.t ?_ ?_ ?_) fun _ _=> ?_ | refine Tt.mono (Kz.t ?_ ?_ ?_) fun _ _=> ?_ | refine Tt.mono (Kx.l1t _ ?_ ?_ ?_ ?_ rfl) fun _ _=> ?_ | refine Tt.mono (Kx.l3t _ ?_ ?_ ?_ ?_ rfl) fun _ _=> ?_ | refine Tt.mono (ih _ ?_ ?_ ?_ ?_ ?_ ?_ rfl) fun _ _=> ?_ | refine Tt.dn (fun _=> ?_) ?_ | refine Tt.di (fun _=> ?_) fun _=> ?_ | refine Tt.ite (fun _=> ?_) fun _=> ?_
 all_goals exact fin_
theorem Kx.t {s:Li×Li} {a:Li} {b:Bool} (h0_:s.1.length=40) (h1_:a.length=16):Tt (fun k=>Kx.f k s a b) (fun r=>r.1.length=16∧r.2=0):=by
 simp only [Kx.f]
 repeat' with_reducible first | refine Tt.sw fun _ _=> ?_ | refine Tt.sb ?_ | refine Tt.ret ?_ | refine Tt.mono (Kx.l0t _ ?_ ?_ ?_ ?_ ?_ rfl) fun _ _=> ?_ | refine Tt.dn (fun _=> ?_) ?_ | refine Tt.di (fun _=> ?_) fun _=> ?_ | refine Tt.ite (fun _=> ?_) fun _=> ?_
 all_goals exact fin_
end Go.Scr.S

namespace Go.Scr.S
theorem Jd.d {a b:Li} (h:a.length=16) (e:b.length=16):Tt (fun k=>Jd.f k a b) (fun r=>r.1.length=16∧Bw 0 255 r.1):=(Jd.c (by omega) (by omega)).mono fun _ q=>⟨q.1.trans h,q.2⟩
theorem Jc.d {a:Li} {n:Int} (h:a.length=16):Tt (fun k=>Jc.f k a n) (fun r=>r.length=16):=(Jc.t (by omega)).mono fun _ q=>q.trans h
def Tr (r:Lj):Bool:=Nat.beq r.length 3&&r.all fun x=>Nat.beq x.length 16
theorem Qj.t:Tt (fun k=>Qj.f k) (fun r=>r.length=3∧Al 16 r):=(Tt.cl 100 Tr (by kernel_rfl) (fun m=>by kernel_rfl)).mono fun r h=>by
 unfold Tr at h
 rw [Bool.and_eq_true] at h
 exact ⟨Nat.eq_of_beq_eq_true h.1,fun v hv=>Nat.eq_of_beq_eq_true (List.all_eq_true.1 h.2 v hv)⟩
theorem Qg.t {a:Li} (h0_:a.length=16∨a.length=24∨a.length=32):Tt (fun k=>Qg.f k a) (fun r=>r=true):=by
 simp only [Qg.f]
 repeat' with_reducible first | refine Tt.sw fun _ _=> ?_ | refine Tt.sb ?_ | refine Tt.ret ?_ | refine Tt.dn (fun _=> ?_) ?_ | refine Tt.di (fun _=> ?_) fun _=> ?_ | refine Tt.ite (fun _=> ?_) fun _=> ?_
 all_goals first | omega | ((rcases h0_ with h_ | h_ | h_<;>rw [h_]<;>rfl);done) | (simp only [LL,LN,LB] at*;omega) | skip
 all_goals try simp (disch:=first | omega | (simp only [LL,LN];omega)) only [I64i] at*
 all_goals try simp only [LL,LN,LB] at*
 all_goals (repeat' first | omega | (with_reducible first | assumption | exact True.intro | apply Bw.app | apply Bw.tk | apply Bw.dr | apply Bw.cons | exact Bw.nil | apply Bw.set | apply Bw.rep | apply Bw.rd | apply Al.add | exact Al.nil | apply Al.rd | apply Al.rev | apply Al.cons | apply Ml.cons | exact Ml.nil | apply And.intro) | (simp only [LL,LN,LB] at*;omega) | exact And.right (by with_reducible assumption) | exact And.left (by with_reducible assumption) | with_reducible exact Or.inl True.intro | with_reducible exact Or.inr True.intro | (rcases h0_ with h_ | h_ | h_<;>rw [h_]<;>rfl))
theorem Qe.l0t (z_:Nat): ∀ {a:Lj} {n:Int} {b:Li} {x:Li} {i:Int} (h0_:Tb a) (h1_:n=1∨n=2) (h2_:Bw 0 255 b) (h3_:x.length=b.length) (h4_:0≤i) (h5_:b.length≤1000) (h6_:Bw 0 255 x) (hn_:(b.length-i.toNat)=z_),Tt (fun k=>Qe.l0 k a n b x i) (fun r=>r.length=b.length∧Bw 0 255 r):=by
 induction z_ using Nat.strongRecOn with
 | ind z_ ih=>
 intro a n b x i h0_ h1_ h2_ h3_ h4_ h5_ h6_ hn_
 refine Tt.succ ?_
 simp only [Qe.l0]
 repeat' with_reducible first | refine Tt.sw fun _ _=> ?_ | refine Tt.sb ?_ | refine Tt.ret ?_ | refine Tt.mono (ih _ ?_ ?_ ?_ ?_ ?_ ?_ ?_ ?_ rfl) fun _ _=> ?_ | refine Tt.dn (fun _=> ?_) ?_ | refine Tt.di (fun _=> ?_) fun _=> ?_ | refine Tt.ite (fun _=> ?_) fun _=> ?_
 all_goals first | omega | (exact (h2_.rd0 _ (by decide)).1;done) | ((rw [(h0_.rd (by simp (disch:=first | omega | (simp only [LL];omega)) only [I64i];simp only [LL];omega) (by simp (disch:=first | omega | (simp only [LL];omega)) only [I64i];simp only [LL];omega)).1];have b_:=h2_.rd0 i (by decide);omega);done) | (exact (Bw.rd0 (h0_.rd (by first | omega | (simp only [LL];omega)) (by first | omega | (simp only [LL];omega))).2 _ (by decide)).1;done) | (exact (Bw.rd0 (h0_.rd (by first | omega | (simp only [LL];omega)) (by first | omega | (simp only [LL];omega))).2 _ (by decide)).2;done) | (exact (h0_.rd (by first | omega | (simp only [LL];omega)) (by first | omega | (simp only [LL];omega))).2;done) | ((rw [(h0_.rd (by omega) (by omega)).1];have b_:=h2_.rd0 i (by decide);omega);done) | (simp only [LL,LN,LB] at*;omega) | skip
 all_goals try simp (disch:=first | omega | (simp only [LL,LN];omega)) only [I64i] at*
 all_goals try simp only [LL,LN,LB] at*
 all_goals (repeat' first | omega | (with_reducible first | assumption | exact True.intro | apply Bw.app | apply Bw.tk | apply Bw.dr | apply Bw.cons | exact Bw.nil | apply Bw.set | apply Bw.rep | apply Bw.rd | apply Al.add | exact Al.nil | apply Al.rd | apply Al.rev | apply Al.cons | apply Ml.cons | exact Ml.nil | apply And.intro) | (simp only [LL,LN,LB] at*;omega) | exact And.right (by with_reducible assumption) | exact And.left (by with_reducible assumption) | with_reducible exact Or.inl True.intro | with_reducible exact Or.inr True.intro | exact (h2_.rd0 _ (by decide)).1 | (rw [(h0_.rd (by simp (disch:=first | omega | (simp only [LL];omega)) only [I64i];simp only [LL];omega) (by simp (disch:=first | omega | (simp only [LL];omega)) only [I64i];simp only [LL];omega)).1];have b_:=h2_.rd0 i (by decide);omega) | exact (Bw.rd0 (h0_.rd (by first | omega | (simp only [LL];omega)) (by first | omega | (simp only [LL];omega))).2 _ (by decide)).1 | exact (Bw.rd0 (h0_.rd (by first | omega | (simp only [LL];omega)) (by first | omega | (simp only [LL];omega))).2 _ (by decide)).2 | exact (h0_.rd (by first | omega | (simp only [LL];omega)) (by first | omega | (simp only [LL];omega))).2 | (rw [(h0_.rd (by omega) (by omega)).1];have b_:=h2_.rd0 i (by decide);omega))
theorem Qe.t {a:Lj} {n:Int} {b:Li} (h0_:Tb a) (h1_:n=1∨n=2) (h2_:Bw 0 255 b) (h3_:b.length≤1000):Tt (fun k=>Qe.f k a n b) (fun r=>r.length=b.length∧Bw 0 255 r):=by
 simp only [Qe.f]
 repeat' with_reducible first | refine Tt.sw fun _ _=> ?_ | refine Tt.sb ?_ | refine Tt.ret ?_ | refine Tt.mono (Qe.l0t _ ?_ ?_ ?_ ?_ ?_ ?_ ?_ rfl) fun _ _=> ?_ | refine Tt.dn (fun _=> ?_) ?_ | refine Tt.di (fun _=> ?_) fun _=> ?_ | refine Tt.ite (fun _=> ?_) fun _=> ?_
 all_goals exact fin_
theorem Qi.t {i:Int} (h0_:True):Tt (fun k=>Qi.f k i) (fun r=>r.length=7∧Bw 0 15 r):=by
 simp only [Qi.f]
 repeat' with_reducible first | refine Tt.sw fun _ _=> ?_ | refine Tt.sb ?_ | refine Tt.ret ?_ | refine Tt.dn (fun _=> ?_) ?_ | refine Tt.di (fun _=> ?_) fun _=> ?_ | refine Tt.ite (fun _=> ?_) fun _=> ?_
 all_goals first | omega | (rfl;done) | (exact Bw.dec rfl;done) | (simp only [LL,LN,LB] at*;omega) | skip
 all_goals try simp (disch:=first | omega | (simp only [LL,LN];omega)) only [I64i] at*
 all_goals try simp only [LL,LN,LB] at*
 all_goals (repeat' first | omega | (with_reducible first | assumption | exact True.intro | apply Bw.app | apply Bw.tk | apply Bw.dr | apply Bw.cons | exact Bw.nil | apply Bw.set | apply Bw.rep | apply Bw.rd | apply Al.add | exact Al.nil | apply Al.rd | apply Al.rev | apply Al.cons | apply Ml.cons | exact Ml.nil | apply And.intro) | (simp only [LL,LN,LB] at*;omega) | exact And.right (by with_reducible assumption) | exact And.left (by with_reducible assumption) | with_reducible exact Or.inl True.intro | with_reducible exact Or.inr True.intro | rfl | exact Bw.dec rfl)
theorem Qb.l0_l1 (z_:Nat):(∀(a:Li) (x:Li) (i:Int) (h0_:a.length=16) (h1_:x.length=16) (h2_:Bw 0 255 x) (h3_:0≤i) (h4_:i≤16) (hn_:(16-i).toNat*10+9=z_),Tt (fun k=>Qb.l0 k a x i) (fun r=>r.1.length=16∧Bw 0 255 r.1))∧(∀(a:Li) (t:Li) (i:Int) (x:Li) (j:Int) (h0_:a.length=16) (h1_:x.length=16) (h2_:Bw 0 255 x) (h3_:0≤i) (h4_:i<16) (h5_:t.length=7∧Bw 0 15 t) (h6_:0≤j) (h7_:j≤7) (hn_:(16-i).toNat*10+(7-j).toNat=z_),Tt (fun k=>Qb.l1 k a t i x j) (fun r=>r.1.length=16∧Bw 0 255 r.1)):=by
 induction z_ using Nat.strongRecOn with
 | ind z_ ih=>
 have ih1:=fun m h=>(ih m h).1
 have ih2:=fun m h=>(ih m h).2
 clear ih
 constructor
 ·intro a x i h0_ h1_ h2_ h3_ h4_ hn_
  refine Tt.succ ?_
  simp only [Qb.l0]
  repeat' with_reducible first | refine Tt.sw fun _ _=> ?_ | refine Tt.sb ?_ | refine Tt.ret ?_ | refine Tt.bind (Qi.t ?_) fun _ _=> ?_ | refine Tt.mono (Qi.t ?_) fun _ _=> ?_ | refine Tt.mono (ih1 _ ?_ _ _ _ ?_ ?_ ?_ ?_ ?_ rfl) fun _ _=> ?_ | refine Tt.mono (ih2 _ ?_ _ _ _ _ _ ?_ ?_ ?_ ?_ ?_ ?_ ?_ ?_ rfl) fun _ _=> ?_ | refine Tt.dn (fun _=> ?_) ?_ | refine Tt.di (fun _=> ?_) fun _=> ?_ | refine Tt.ite (fun _=> ?_) fun _=> ?_
  all_goals first | omega | (exact (bxu8 _ _).1;done) | (exact (bxu8 _ _).2;done) | (exact (h5_.2.rd0 _ (by decide)).1;done) | ((have b_:=h5_.2.rd0 j (by decide);omega);done) | (simp only [LL,LN,LB] at*;omega) | skip
  all_goals try simp (disch:=first | omega | (simp only [LL,LN];omega)) only [I64i] at*
  all_goals try simp only [LL,LN,LB] at*
  all_goals (repeat' first | omega | (with_reducible first | assumption | exact True.intro | apply Bw.app | apply Bw.tk | apply Bw.dr | apply Bw.cons | exact Bw.nil | apply Bw.set | apply Bw.rep | apply Bw.rd | apply Al.add | exact Al.nil | apply Al.rd | apply Al.rev | apply Al.cons | apply Ml.cons | exact Ml.nil | apply And.intro) | (simp only [LL,LN,LB] at*;omega) | exact And.right (by with_reducible assumption) | exact And.left (by with_reducible assumption) | with_reducible exact Or.inl True.intro | with_reducible exact Or.inr True.intro | exact (bxu8 _ _).1 | exact (bxu8 _ _).2 | exact (h5_.2.rd0 _ (by decide)).1 | (have b_:=h5_.2.rd0 j (by decide);omega))
 ·intro a t i x j h0_ h1_ h2_ h3_ h4_ h5_ h6_ h7_ hn_
  refine Tt.succ ?_
  simp only [Qb.l1]
  repeat' with_reducible first | refine Tt.sw fun _ _=> ?_ | refine Tt.sb ?_ | refine Tt.ret ?_ | refine Tt.bind (Qi.t ?_) fun _ _=> ?_ | refine Tt.mono (Qi.t ?_) fun _ _=> ?_ | refine Tt.mono (ih1 _ ?_ _ _ _ ?_ ?_ ?_ ?_ ?_ rfl) fun _ _=> ?_ | refine Tt.mono (ih2 _ ?_ _ _ _ _ _ ?_ ?_ ?_ ?_ ?_ ?_ ?_ ?_ rfl) fun _ _=> ?_ | refine Tt.dn (fun _=> ?_) ?_ | refine Tt.di (fun _=> ?_) fun _=> ?_ | refine Tt.ite (fun _=> ?_) fun _=> ?_
  all_goals first | omega | (exact (bxu8 _ _).1;done) | (exact (bxu8 _ _).2;done) | (exact (h5_.2.rd0 _ (by decide)).1;done) | ((have b_:=h5_.2.rd0 j (by decide);omega);done) | (simp only [LL,LN,LB] at*;omega) | skip
  all_goals try simp (disch:=first | omega | (simp only [LL,LN];omega)) only [I64i] at*
  all_goals try simp only [LL,LN,LB] at*
  all_goals (repeat' first | omega | (with_reducible first | assumption | exact True.intro | apply Bw.app | apply Bw.tk | apply Bw.dr | apply Bw.cons | exact Bw.nil | apply Bw.set | apply Bw.rep | apply Bw.rd | apply Al.add | exact Al.nil | apply Al.rd | apply Al.rev | apply Al.cons | apply Ml.cons | exact Ml.nil | apply And.intro) | (simp only [LL,LN,LB] at*;omega) | exact And.right (by with_reducible assumption) | exact And.left (by with_reducible assumption) | with_reducible exact Or.inl True.intro | with_reducible exact Or.inr True.intro | exact (bxu8 _ _).1 | exact (bxu8 _ _).2 | exact (h5_.2.rd0 _ (by decide)).1 | (have b_:=h5_.2.rd0 j (by decide);omega))
theorem Qb.l0t (z_:Nat) {a:Li} {x:Li} {i:Int} (h0_:a.length=16) (h1_:x.length=16) (h2_:Bw 0 255 x) (h3_:0≤i) (h4_:i≤16) (hn_:(16-i).toNat*10+9=z_):Tt (fun k=>Qb.l0 k a x i) (fun r=>r.1.length=16∧Bw 0 255 r.1):=(Qb.l0_l1 z_).1 _ _ _ h0_ h1_ h2_ h3_ h4_ hn_
theorem Qb.t {a:Li} (h0_:a.length=16):Tt (fun k=>Qb.f k a) (fun r=>r.1.length=16∧Bw 0 255 r.1):=by
 simp only [Qb.f]
 repeat' with_reducible first | refine Tt.sw fun _ _=> ?_ | refine Tt.sb ?_ | refine Tt.ret ?_ | refine Tt.mono (Qb.l0t _ ?_ ?_ ?_ ?_ ?_ rfl) fun _ _=> ?_ | refine Tt.dn (fun _=> ?_) ?_ | refine Tt.di (fun _=> ?_) fun _=> ?_ | refine Tt.ite (fun _=> ?_) fun _=> ?_
 all_goals exact fin_
theorem Qf.t {a:Lj} {n:Int} {x:Li} {y:Li} (h0_:Tb a) (h1_:n=1∨n=2) (h2_:x.length=16) (h3_:y.length=16):Tt (fun k=>Qf.f k a n x y) (fun r=>r.length=16∧Bw 0 255 r):=by
 simp only [Qf.f]
 repeat' with_reducible first | refine Tt.sw fun _ _=> ?_ | refine Tt.sb ?_ | refine Tt.ret ?_ | refine Tt.bind (Jd.d ?_ ?_) fun _ _=> ?_ | refine Tt.mono (Jd.d ?_ ?_) fun _ _=> ?_ | refine Tt.bind (Qe.t ?_ ?_ ?_ ?_) fun _ _=> ?_ | refine Tt.mono (Qe.t ?_ ?_ ?_ ?_) fun _ _=> ?_ | refine Tt.bind (Qb.t ?_) fun _ _=> ?_ | refine Tt.mono (Qb.t ?_) fun _ _=> ?_ | refine Tt.dn (fun _=> ?_) ?_ | refine Tt.di (fun _=> ?_) fun _=> ?_ | refine Tt.ite (fun _=> ?_) fun _=> ?_
 all_goals exact fin_
theorem Qd.l0t (z_:Nat): ∀ {a:Li} {t:Li×Bool} {u:Li×Bool} {v:Li×Bool} {y:Int} {x:Lj} {i:Int} (h0_:16≤a.length) (h1_:a.length≤1000) (h2_:t.1.length=16) (h3_:u.1.length=16) (h4_:v.1.length=16) (h5_:0≤y) (h6_:y≤2) (h7_:(x.length:Int)=i) (h8_:Al 16 x) (h9_:0≤i) (h10_:i<13+2*y) (hn_:(20-i).toNat=z_),Tt (fun k=>Qd.l0 k a t u v y x i) (fun r=>Al 16 r∧13≤r.length∧r.length≤17):=by
 induction z_ using Nat.strongRecOn with
 | ind z_ ih=>
 intro a t u v y x i h0_ h1_ h2_ h3_ h4_ h5_ h6_ h7_ h8_ h9_ h10_ hn_
 refine Tt.succ ?_
 simp only [Qd.l0]
 repeat' with_reducible first | refine Tt.sw fun _ _=> ?_ | refine Tt.sb ?_ | refine Tt.ret ?_ | refine Tt.bind (Jc.d ?_) fun _ _=> ?_ | refine Tt.mono (Jc.d ?_) fun _ _=> ?_ | refine Tt.bind (Jd.d ?_ ?_) fun _ _=> ?_ | refine Tt.mono (Jd.d ?_ ?_) fun _ _=> ?_ | refine Tt.mono (ih _ ?_ ?_ ?_ ?_ ?_ ?_ ?_ ?_ ?_ ?_ ?_ ?_ rfl) fun _ _=> ?_ | refine Tt.dn (fun _=> ?_) ?_ | refine Tt.di (fun _=> ?_) fun _=> ?_ | refine Tt.ite (fun _=> ?_) fun _=> ?_
 all_goals first | omega | ((rw [Al.rd (n:=16) (Al.cons (by simp only [LN];omega) (Al.cons h2_ (Al.cons h3_ (Al.cons h4_ Al.nil)))) (by first | omega | (simp only [LL];omega)) (by simp only [LL,LN];omega)];try omega);done) | (simp only [LL,LN,LB] at*;omega) | skip
 all_goals try simp (disch:=first | omega | (simp only [LL,LN];omega)) only [I64i] at*
 all_goals try simp only [LL,LN,LB] at*
 all_goals (repeat' first | omega | (with_reducible first | assumption | exact True.intro | apply Bw.app | apply Bw.tk | apply Bw.dr | apply Bw.cons | exact Bw.nil | apply Bw.set | apply Bw.rep | apply Bw.rd | apply Al.add | exact Al.nil | apply Al.rd | apply Al.rev | apply Al.cons | apply Ml.cons | exact Ml.nil | apply And.intro) | (simp only [LL,LN,LB] at*;omega) | exact And.right (by with_reducible assumption) | exact And.left (by with_reducible assumption) | with_reducible exact Or.inl True.intro | with_reducible exact Or.inr True.intro | (rw [Al.rd (n:=16) (Al.cons (by simp only [LN];omega) (Al.cons h2_ (Al.cons h3_ (Al.cons h4_ Al.nil)))) (by first | omega | (simp only [LL];omega)) (by simp only [LL,LN];omega)];try omega))
theorem Qd.t {m:Lj} {a:Li} (h0_:Tb m) (h1_:a.length=16∨a.length=24∨a.length=32):Tt (fun k=>Qd.f k m a) (fun r=>Al 16 r∧13≤r.length∧r.length≤17):=by
 simp only [Qd.f]
 repeat' first
  | with_reducible refine Tt.sw fun _ _=> ?_
  | with_reducible refine Tt.sb ?_
  | with_reducible refine Tt.ret ?_
  | (with_reducible refine Tt.gd ?_ ?_;·first | omega | (simp only [LL,LN,LB] at*;omega) | (simp (disch:=first | omega | (simp only [LL,LN];omega)) only [I64i];first | omega | (simp only [LL,LN,LB] at*;omega)))
  | (with_reducible refine Tt.gn ?_ ?_;·first | omega | (simp only [LL,LN,LB] at*;omega) | (simp (disch:=first | omega | (simp only [LL,LN];omega)) only [I64i];first | omega | (simp only [LL,LN,LB] at*;omega)))
  | (with_reducible refine Tt.pos ?_ ?_;·first | omega | (simp only [LL,LN,LB] at*;omega) | (simp (disch:=first | omega | (simp only [LL,LN];omega)) only [I64i];first | omega | (simp only [LL,LN,LB] at*;omega)))
  | (with_reducible refine Tt.neg ?_ ?_;·first | omega | (simp only [LL,LN,LB] at*;omega) | (simp (disch:=first | omega | (simp only [LL,LN];omega)) only [I64i];first | omega | (simp only [LL,LN,LB] at*;omega)))
  | with_reducible refine Tt.bind (Qj.t) (fun _ _=> ?_)
  | with_reducible refine Tt.mono (Qj.t) (fun _ _=> ?_)
  | with_reducible refine Tt.bind (Qf.t ?_ ?_ ?_ ?_) (fun _ _=> ?_)
  | with_reducible refine Tt.mono (Qf.t ?_ ?_ ?_ ?_) (fun _ _=> ?_)
  | with_reducible refine Tt.bind (Jd.d ?_ ?_) (fun _ _=> ?_)
  | with_reducible refine Tt.mono (Jd.d ?_ ?_) (fun _ _=> ?_)
  | with_reducible refine Tt.mono (Qd.l0t _ ?_ ?_ ?_ ?_ ?_ ?_ ?_ ?_ ?_ ?_ ?_ rfl) (fun _ _=> ?_)
  | with_reducible refine Tt.di (fun _=> ?_) (fun _=> ?_)
  | with_reducible refine Tt.ite (fun _=> ?_) (fun _=> ?_)
 all_goals (try simp (disch:=first | omega | (simp only [LL,LN];omega)) only [I64i])
 all_goals (try simp only [LL,LN,LB] at*)
 all_goals (repeat' first | omega | with_reducible assumption | with_reducible exact True.intro | with_reducible apply Bw.app | with_reducible apply Bw.tk | with_reducible apply Bw.dr | with_reducible apply Bw.cons | with_reducible exact Bw.nil | with_reducible apply Bw.set | with_reducible apply Bw.rep | with_reducible apply Bw.rd | with_reducible apply Al.add | with_reducible exact Al.nil | with_reducible apply Al.rd | with_reducible apply Al.rev | with_reducible apply Al.cons | with_reducible apply Ml.cons | with_reducible exact Ml.nil | with_reducible apply And.intro | (simp only [LL,LN,LB] at*;omega) | exact And.right (by with_reducible assumption) | exact And.left (by with_reducible assumption) | with_reducible exact Or.inl True.intro | with_reducible exact Or.inr True.intro)
end Go.Scr.S

namespace Go.Scr.S
theorem Qa.l1t (z_:Nat): ∀ {s:Lj×Lj} {x:Li} {i:Int} (h0_:Tb s.1) (h1_:Al 16 s.2) (h2_:13≤s.2.length) (h3_:s.2.length≤17) (h4_:x.length=16) (h5_:Bw 0 255 x) (h6_: -1≤i) (h7_:i<s.2.length) (hn_:(i+1).toNat=z_),Tt (fun k=>Qa.l1 k s x i) (fun r=>r.1.length=16∧r.2=0):=by
 induction z_ using Nat.strongRecOn with
 | ind z_ ih=>
 intro s x i h0_ h1_ h2_ h3_ h4_ h5_ h6_ h7_ hn_
 refine Tt.succ ?_
 simp only [Qa.l1]
 repeat' with_reducible first | refine Tt.sw fun _ _=> ?_ | refine Tt.sb ?_ | refine Tt.ret ?_ | refine Tt.bind (Qb.t ?_) fun _ _=> ?_ | refine Tt.mono (Qb.t ?_) fun _ _=> ?_ | refine Tt.bind (Qe.t ?_ ?_ ?_ ?_) fun _ _=> ?_ | refine Tt.mono (Qe.t ?_ ?_ ?_ ?_) fun _ _=> ?_ | refine Tt.bind (Jd.d ?_ ?_) fun _ _=> ?_ | refine Tt.mono (Jd.d ?_ ?_) fun _ _=> ?_ | refine Tt.mono (ih _ ?_ ?_ ?_ ?_ ?_ ?_ ?_ ?_ ?_ rfl) fun _ _=> ?_ | refine Tt.dn (fun _=> ?_) ?_ | refine Tt.di (fun _=> ?_) fun _=> ?_ | refine Tt.ite (fun _=> ?_) fun _=> ?_
 all_goals exact fin_
theorem Qa.l0t (z_:Nat): ∀ {s:Lj×Lj} {x:Li} (h0_:Tb s.1) (h1_:Al 16 s.2) (h2_:13≤s.2.length) (h3_:s.2.length≤17) (h4_:x.length=16) (hn_:0=z_),Tt (fun k=>Qa.l0 k s x) (fun r=>r.1.length=16∧r.2=0):=by
 induction z_ using Nat.strongRecOn with
 | ind z_ ih=>
 intro s x h0_ h1_ h2_ h3_ h4_ hn_
 refine Tt.succ ?_
 simp only [Qa.l0]
 repeat' with_reducible first | refine Tt.sw fun _ _=> ?_ | refine Tt.sb ?_ | refine Tt.ret ?_ | refine Tt.bind (Qb.t ?_) fun _ _=> ?_ | refine Tt.mono (Qb.t ?_) fun _ _=> ?_ | refine Tt.bind (Qe.t ?_ ?_ ?_ ?_) fun _ _=> ?_ | refine Tt.mono (Qe.t ?_ ?_ ?_ ?_) fun _ _=> ?_ | refine Tt.bind (Jd.d ?_ ?_) fun _ _=> ?_ | refine Tt.mono (Jd.d ?_ ?_) fun _ _=> ?_ | refine Tt.mono (Qa.l1t _ ?_ ?_ ?_ ?_ ?_ ?_ ?_ ?_ rfl) fun _ _=> ?_ | refine Tt.mono (ih _ ?_ ?_ ?_ ?_ ?_ ?_ rfl) fun _ _=> ?_ | refine Tt.dn (fun _=> ?_) ?_ | refine Tt.di (fun _=> ?_) fun _=> ?_ | refine Tt.ite (fun _=> ?_) fun _=> ?_
 all_goals exact fin_
theorem Qa.l3t (z_:Nat): ∀ {s:Lj×Lj} {x:Li} {i:Int} (h0_:Tb s.1) (h1_:Al 16 s.2) (h2_:13≤s.2.length) (h3_:s.2.length≤17) (h4_:x.length=16) (h5_:0≤i) (h6_:i<s.2.length) (hn_:(18-i).toNat=z_),Tt (fun k=>Qa.l3 k s x i) (fun r=>r.1.length=16∧r.2=0):=by
 induction z_ using Nat.strongRecOn with
 | ind z_ ih=>
 intro s x i h0_ h1_ h2_ h3_ h4_ h5_ h6_ hn_
 refine Tt.succ ?_
 simp only [Qa.l3]
 repeat' with_reducible first | refine Tt.sw fun _ _=> ?_ | refine Tt.sb ?_ | refine Tt.ret ?_ | refine Tt.bind (Qf.t ?_ ?_ ?_ ?_) fun _ _=> ?_ | refine Tt.mono (Qf.t ?_ ?_ ?_ ?_) fun _ _=> ?_ | refine Tt.bind (Qe.t ?_ ?_ ?_ ?_) fun _ _=> ?_ | refine Tt.mono (Qe.t ?_ ?_ ?_ ?_) fun _ _=> ?_ | refine Tt.bind (Jd.d ?_ ?_) fun _ _=> ?_ | refine Tt.mono (Jd.d ?_ ?_) fun _ _=> ?_ | refine Tt.mono (ih _ ?_ ?_ ?_ ?_ ?_ ?_ ?_ ?_ rfl) fun _ _=> ?_ | refine Tt.dn (fun _=> ?_) ?_ | refine Tt.di (fun _=> ?_) fun _=> ?_ | refine Tt.ite (fun _=> ?_) fun _=> ?_
 all_goals exact fin_
theorem Qa.l2t (z_:Nat): ∀ {s:Lj×Lj} {x:Li} {i:Int} (h0_:Tb s.1) (h1_:Al 16 s.2) (h2_:13≤s.2.length) (h3_:s.2.length≤17) (h4_:x.length=16) (h5_:i=0) (hn_:0=z_),Tt (fun k=>Qa.l2 k s x i) (fun r=>r.1.length=16∧r.2=0):=by
 induction z_ using Nat.strongRecOn with
 | ind z_ ih=>
 intro s x i h0_ h1_ h2_ h3_ h4_ h5_ hn_
 refine Tt.succ ?_
 simp only [Qa.l2]
 repeat' with_reducible first | refine Tt.sw fun _ _=> ?_ | refine Tt.sb ?_ | refine Tt.ret ?_ | refine Tt.bind (Qf.t ?_ ?_ ?_ ?_) fun _ _=> ?_ | refine Tt.mono (Qf.t ?_ ?_ ?_ ?_) fun _ _=> ?_ | refine Tt.bind (Qe.t ?_ ?_ ?_ ?_) fun _ _=> ?_ | refine Tt.mono (Qe.t ?_ ?_ ?_ ?_) fun _ _=> ?_ | refine Tt.bind (Jd.d ?_ ?_) fun _ _=> ?_ | refine Tt.mono (Jd.d ?_ ?_) fun _ _=> ?_ | refine Tt.mono (Qa.l3t _ ?_ ?_ ?_ ?_ ?_ ?_ ?_ rfl) fun _ _=> ?_ | refine Tt.mono (ih _ ?_ ?_ ?_ ?_ ?_ ?_ ?_ rfl) fun _ _=> ?_ | refine Tt.dn (fun _=> ?_) ?_ | refine Tt.di (fun _=> ?_) fun _=> ?_ | refine Tt.ite (fun _=> ?_) fun _=> ?_
 all_goals exact fin_
theorem Qa.t {s:Lj×Lj} {x:Li} {b:Bool} (h0_:Tb s.1) (h1_:Al 16 s.2) (h2_:13≤s.2.length) (h3_:s.2.length≤17) (h4_:x.length=16):Tt (fun k=>Qa.f k s x b) (fun r=>r.1.length=16∧r.2=0):=by
 simp only [Qa.f]
 repeat' with_reducible first | refine Tt.sw fun _ _=> ?_ | refine Tt.sb ?_ | refine Tt.ret ?_ | refine Tt.mono (Qa.l0t _ ?_ ?_ ?_ ?_ ?_ rfl) fun _ _=> ?_ | refine Tt.mono (Qa.l2t _ ?_ ?_ ?_ ?_ ?_ ?_ rfl) fun _ _=> ?_ | refine Tt.dn (fun _=> ?_) ?_ | refine Tt.di (fun _=> ?_) fun _=> ?_ | refine Tt.ite (fun _=> ?_) fun _=> ?_
 all_goals exact fin_
end Go.Scr.S
