/- Plain functions that answer, whatever comes in. -/
import Derived.Test.YtdemmfohkhpklaaGreatDoorPt
import Derived.Test.YtdemmfohkhpklaaGreatDoorPa
set_option linter.unusedVariables false
set_option linter.unusedSimpArgs false
set_option maxRecDepth 10000
namespace Go.Scr.S
theorem Vh.l2_l3 (z_:Nat):(∀(a0:Li) (t3:Li×Li) (x4:Li) (x6:Lj) (x24:Int) (h0_:a0.length=8) (h1_:t3.2.length=48) (h2_:Bw 1 56 t3.2) (h3_:x4.length=56) (h4_:Bw 1 64 x4) (h5_:0≤x24) (h6_:x24≤16) (h7_:(x6.length:Int)=x24) (h8_:Al 6 x6) (hn_:(16-x24).toNat*100+60=z_),Tt (fun k=>Vh.l2 k a0 t3 x4 x6 x24) (fun r=>r.2=0∧r.1.length=16∧Al 6 r.1))∧(∀(a0:Li) (u:Li) (v:Li) (t3:Li×Li) (x24:Int) (x6:Lj) (y:Int) (x:Li) (i:Int) (h0_:a0.length=8) (h1_:t3.2.length=48) (h2_:Bw 1 56 t3.2) (h3_:u.length=28) (h4_:v.length=28) (h5_:Bw 1 64 u) (h6_:Bw 1 64 v) (h7_:0≤x24) (h8_:x24<16) (h9_:(x6.length:Int)=x24) (h10_:Al 6 x6) (h11_:1≤y) (h12_:y≤2) (h13_:0≤i) (h14_:i≤48) (h15_:Bw 1 64 x) (h16_:(x.length:Int)=i) (hn_:(16-x24).toNat*100+(48-i).toNat=z_),Tt (fun k=>Vh.l3 k a0 u v t3 x24 x6 y x i) (fun r=>r.2=0∧r.1.length=16∧Al 6 r.1)):=by
 induction z_ using Nat.strongRecOn with
 | ind z_ ih=>
 have ih1:=fun m h=>(ih m h).1
 have ih2:=fun m h=>(ih m h).2
 clear ih
 constructor
 ·intro a0 t3 x4 x6 x24 h0_ h1_ h2_ h3_ h4_ h5_ h6_ h7_ h8_ hn_
  refine Tt.succ ?_
  simp only [Vh.l2]
  repeat' with_reducible first | refine Tt.sw fun _ _=> ?_ | refine Tt.sb ?_ | refine Tt.ret ?_ | refine Tt.ebind (Y1.e ?_) ?_ | refine Tt.mono (ih1 _ ?_ _ _ _ _ _ ?_ ?_ ?_ ?_ ?_ ?_ ?_ ?_ ?_ rfl) fun _ _=> ?_ | refine Tt.mono (ih2 _ ?_ _ _ _ _ _ _ _ _ _ ?_ ?_ ?_ ?_ ?_ ?_ ?_ ?_ ?_ ?_ ?_ ?_ ?_ ?_ ?_ ?_ ?_ rfl) fun _ _=> ?_ | refine Tt.dn (fun _=> ?_) ?_ | refine Tt.di (fun _=> ?_) fun _=> ?_ | refine Tt.ite (fun _=> ?_) fun _=> ?_
  all_goals first | omega | (assumption;done) | ((simp only [h0_];assumption);done) | ((have b_:=Bw.rd h2_ (i:=i) (by omega) (by omega);(try simp only [LL,LN] at*);omega);done) | (simp only [LL,LN,LB] at*;omega) | skip
  all_goals try simp (disch:=first | omega | (simp only [LL,LN];omega)) only [I64i] at*
  all_goals try simp only [LL,LN,LB] at*
  all_goals (repeat' first | omega | (with_reducible first | assumption | exact True.intro | apply Bw.app | apply Bw.tk | apply Bw.dr | apply Bw.cons | exact Bw.nil | apply Bw.set | apply Bw.rep | apply Bw.rd | apply Al.add | exact Al.nil | apply Al.rd | apply Al.rev | apply Al.cons | apply Ml.cons | exact Ml.nil | apply And.intro) | (simp only [LL,LN,LB] at*;omega) | exact And.right (by with_reducible assumption) | exact And.left (by with_reducible assumption) | with_reducible exact Or.inl True.intro | with_reducible exact Or.inr True.intro | assumption | (simp only [h0_];assumption) | (have b_:=Bw.rd h2_ (i:=i) (by omega) (by omega);(try simp only [LL,LN] at*);omega))
 ·intro a0 u v t3 x24 x6 y x i h0_ h1_ h2_ h3_ h4_ h5_ h6_ h7_ h8_ h9_ h10_ h11_ h12_ h13_ h14_ h15_ h16_ hn_
  refine Tt.succ ?_
  simp only [Vh.l3]
  repeat' with_reducible first | refine Tt.sw fun _ _=> ?_ | refine Tt.sb ?_ | refine Tt.ret ?_ | refine Tt.bind (Qn.t ?_ ?_ ?_) fun _ _=> ?_ | refine Tt.mono (Qn.t ?_ ?_ ?_) fun _ _=> ?_ | refine Tt.mono (ih1 _ ?_ _ _ _ _ _ ?_ ?_ ?_ ?_ ?_ ?_ ?_ ?_ ?_ rfl) fun _ _=> ?_ | refine Tt.mono (ih2 _ ?_ _ _ _ _ _ _ _ _ _ ?_ ?_ ?_ ?_ ?_ ?_ ?_ ?_ ?_ ?_ ?_ ?_ ?_ ?_ ?_ ?_ ?_ rfl) fun _ _=> ?_ | refine Tt.dn (fun _=> ?_) ?_ | refine Tt.di (fun _=> ?_) fun _=> ?_ | refine Tt.ite (fun _=> ?_) fun _=> ?_
  all_goals first | omega | (assumption;done) | ((simp only [h0_];assumption);done) | ((have b_:=Bw.rd h2_ (i:=i) (by omega) (by omega);(try simp only [LL,LN] at*);omega);done) | (simp only [LL,LN,LB] at*;omega) | skip
  all_goals try simp (disch:=first | omega | (simp only [LL,LN];omega)) only [I64i] at*
  all_goals try simp only [LL,LN,LB] at*
  all_goals (repeat' first | omega | (with_reducible first | assumption | exact True.intro | apply Bw.app | apply Bw.tk | apply Bw.dr | apply Bw.cons | exact Bw.nil | apply Bw.set | apply Bw.rep | apply Bw.rd | apply Al.add | exact Al.nil | apply Al.rd | apply Al.rev | apply Al.cons | apply Ml.cons | exact Ml.nil | apply And.intro) | (simp only [LL,LN,LB] at*;omega) | exact And.right (by with_reducible assumption) | exact And.left (by with_reducible assumption) | with_reducible exact Or.inl True.intro | with_reducible exact Or.inr True.intro | assumption | (simp only [h0_];assumption) | (have b_:=Bw.rd h2_ (i:=i) (by omega) (by omega);(try simp only [LL,LN] at*);omega))
theorem Vh.l2t (z_:Nat) {a0:Li} {t3:Li×Li} {x4:Li} {x6:Lj} {x24:Int} (h0_:a0.length=8) (h1_:t3.2.length=48) (h2_:Bw 1 56 t3.2) (h3_:x4.length=56) (h4_:Bw 1 64 x4) (h5_:0≤x24) (h6_:x24≤16) (h7_:(x6.length:Int)=x24) (h8_:Al 6 x6) (hn_:(16-x24).toNat*100+60=z_):Tt (fun k=>Vh.l2 k a0 t3 x4 x6 x24) (fun r=>r.2=0∧r.1.length=16∧Al 6 r.1):=(Vh.l2_l3 z_).1 _ _ _ _ _ h0_ h1_ h2_ h3_ h4_ h5_ h6_ h7_ h8_ hn_
theorem Vh.l1t (z_:Nat): ∀ {a0:Li} {t3:Li×Li} {u:Li} {v:Li} {x24:Int} {x6:Lj} {y:Int} {x:Li} {i:Int} (h0_:a0.length=8) (h1_:t3.2.length=48) (h2_:Bw 1 56 t3.2) (h3_:u.length=28) (h4_:v.length=28) (h5_:Bw 1 64 u) (h6_:Bw 1 64 v) (h7_:0≤x24) (h8_:x24<16) (h9_:(x6.length:Int)=x24) (h10_:Al 6 x6) (h11_:1≤y) (h12_:y≤2) (h13_:0≤i) (h14_:i≤48) (h15_:Bw 1 64 x) (h16_:(x.length:Int)=i) (hn_:(48-i).toNat=z_),Tt (fun k=>Vh.l1 k a0 t3 u v x24 x6 y x i) (fun r=>r.2=0∧r.1.length=16∧Al 6 r.1):=by
 induction z_ using Nat.strongRecOn with
 | ind z_ ih=>
 intro a0 t3 u v x24 x6 y x i h0_ h1_ h2_ h3_ h4_ h5_ h6_ h7_ h8_ h9_ h10_ h11_ h12_ h13_ h14_ h15_ h16_ hn_
 refine Tt.succ ?_
 simp only [Vh.l1]
 repeat' with_reducible first | refine Tt.sw fun _ _=> ?_ | refine Tt.sb ?_ | refine Tt.ret ?_ | refine Tt.bind (Qn.t ?_ ?_ ?_) fun _ _=> ?_ | refine Tt.mono (Qn.t ?_ ?_ ?_) fun _ _=> ?_ | refine Tt.mono (Vh.l2t _ ?_ ?_ ?_ ?_ ?_ ?_ ?_ ?_ ?_ rfl) fun _ _=> ?_ | refine Tt.mono (ih _ ?_ ?_ ?_ ?_ ?_ ?_ ?_ ?_ ?_ ?_ ?_ ?_ ?_ ?_ ?_ ?_ ?_ ?_ rfl) fun _ _=> ?_ | refine Tt.dn (fun _=> ?_) ?_ | refine Tt.di (fun _=> ?_) fun _=> ?_ | refine Tt.ite (fun _=> ?_) fun _=> ?_
 all_goals first | omega | (assumption;done) | ((simp only [h0_];assumption);done) | ((have b_:=Bw.rd h2_ (i:=i) (by omega) (by omega);(try simp only [LL,LN] at*);omega);done) | (simp only [LL,LN,LB] at*;omega) | skip
 all_goals try simp (disch:=first | omega | (simp only [LL,LN];omega)) only [I64i] at*
 all_goals try simp only [LL,LN,LB] at*
 all_goals (repeat' first | omega | (with_reducible first | assumption | exact True.intro | apply Bw.app | apply Bw.tk | apply Bw.dr | apply Bw.cons | exact Bw.nil | apply Bw.set | apply Bw.rep | apply Bw.rd | apply Al.add | exact Al.nil | apply Al.rd | apply Al.rev | apply Al.cons | apply Ml.cons | exact Ml.nil | apply And.intro) | (simp only [LL,LN,LB] at*;omega) | exact And.right (by with_reducible assumption) | exact And.left (by with_reducible assumption) | with_reducible exact Or.inl True.intro | with_reducible exact Or.inr True.intro | assumption | (simp only [h0_];assumption) | (have b_:=Bw.rd h2_ (i:=i) (by omega) (by omega);(try simp only [LL,LN] at*);omega))
theorem Vh.l0t (z_:Nat): ∀ {a0:Li} {t3:Li×Li} {x4:Li} {x6:Lj} {x24:Int} (h0_:a0.length=8) (h1_:t3.2.length=48) (h2_:Bw 1 56 t3.2) (h3_:x4.length=56) (h4_:Bw 1 64 x4) (h5_:0≤x24) (h6_:x24≤16) (h7_:(x6.length:Int)=x24) (h8_:Al 6 x6) (hn_:0=z_),Tt (fun k=>Vh.l0 k a0 t3 x4 x6 x24) (fun r=>r.2=0∧r.1.length=16∧Al 6 r.1):=by
 induction z_ using Nat.strongRecOn with
 | ind z_ ih=>
 intro a0 t3 x4 x6 x24 h0_ h1_ h2_ h3_ h4_ h5_ h6_ h7_ h8_ hn_
 refine Tt.succ ?_
 simp only [Vh.l0]
 repeat' with_reducible first | refine Tt.sw fun _ _=> ?_ | refine Tt.sb ?_ | refine Tt.ret ?_ | refine Tt.ebind (Y1.e ?_) ?_ | refine Tt.mono (Vh.l1t _ ?_ ?_ ?_ ?_ ?_ ?_ ?_ ?_ ?_ ?_ ?_ ?_ ?_ ?_ ?_ ?_ ?_ rfl) fun _ _=> ?_ | refine Tt.mono (ih _ ?_ ?_ ?_ ?_ ?_ ?_ ?_ ?_ ?_ ?_ rfl) fun _ _=> ?_ | refine Tt.dn (fun _=> ?_) ?_ | refine Tt.di (fun _=> ?_) fun _=> ?_ | refine Tt.ite (fun _=> ?_) fun _=> ?_
 all_goals exact fin_
theorem Vk.e:Ev (fun k=>Vk.f k) (c1T,c2T):=Ev.of 200 (fun m=>by kernel_rfl)
theorem Vh.t {a0:Li} (h0_:a0.length=8):Tt (fun k=>Vh.f k a0) (fun r=>r.2=0∧r.1.length=16∧Al 6 r.1):=by
 simp only [Vh.f]
 repeat' with_reducible first | refine Tt.sw fun _ _=> ?_ | refine Tt.sb ?_ | refine Tt.ret ?_ | refine Tt.ebind (Vk.e) ?_ | refine Tt.mono (Vh.l0t _ ?_ ?_ ?_ ?_ ?_ ?_ ?_ ?_ ?_ rfl) fun _ _=> ?_ | refine Tt.dn (fun _=> ?_) ?_ | refine Tt.di (fun _=> ?_) fun _=> ?_ | refine Tt.ite (fun _=> ?_) fun _=> ?_
 all_goals first | omega | (exact Bw.dec rfl;done) | (rfl;done) | (simp only [LL,LN,LB] at*;omega) | skip
 all_goals try simp (disch:=first | omega | (simp only [LL,LN];omega)) only [I64i] at*
 all_goals try simp only [LL,LN,LB] at*
 all_goals (repeat' first | omega | (with_reducible first | assumption | exact True.intro | apply Bw.app | apply Bw.tk | apply Bw.dr | apply Bw.cons | exact Bw.nil | apply Bw.set | apply Bw.rep | apply Bw.rd | apply Al.add | exact Al.nil | apply Al.rd | apply Al.rev | apply Al.cons | apply Ml.cons | exact Ml.nil | apply And.intro) | (simp only [LL,LN,LB] at*;omega) | exact And.right (by with_reducible assumption) | exact And.left (by with_reducible assumption) | with_reducible exact Or.inl True.intro | with_reducible exact Or.inr True.intro | exact Bw.dec rfl | rfl)
end Go.Scr.S

namespace Go.Scr.S
theorem Vq.e:Ev (fun k=>Vq.f k) weT:=Ev.of 200 (fun m=>by kernel_rfl)
theorem Vm.e:Ev (fun k=>Vm.f k) ipT:=Ev.of 200 (fun m=>by kernel_rfl)
theorem Ql.e:Ev (fun k=>Ql.f k ipT) (fpT,true):=Ev.of 200 (fun m=>by kernel_rfl)
theorem Vp.t {a:Int} (h0_:True):Tt (fun k=>Vp.f k a) (fun r=>True):=by
 simp only [Vp.f]
 repeat' with_reducible first | refine Tt.sw fun _ _=> ?_ | refine Tt.sb ?_ | refine Tt.ret ?_ | refine Tt.dn (fun _=> ?_) ?_ | refine Tt.di (fun _=> ?_) fun _=> ?_ | refine Tt.ite (fun _=> ?_) fun _=> ?_
 all_goals exact fin_
theorem Vj.t {a:Int} {i:Int} (h0_:0≤i) (h1_:i<4):Tt (fun k=>Vj.f k a i) (fun r=>r.size=16):=by
 simp only [Vj.f]
 repeat' with_reducible first | refine Tt.sw fun _ _=> ?_ | refine Tt.sb ?_ | refine Tt.ret ?_ | refine Tt.dn (fun _=> ?_) ?_ | refine Tt.di (fun _=> ?_) fun _=> ?_ | refine Tt.ite (fun _=> ?_) fun _=> ?_
 all_goals first | omega | (exact rds_size (by kernel_rfl) (by omega) (by simp only [LN];omega);done) | (simp only [LL,LN,LB] at*;omega) | skip
 all_goals try simp (disch:=first | omega | (simp only [LL,LN];omega)) only [I64i] at*
 all_goals try simp only [LL,LN,LB] at*
 all_goals (repeat' first | omega | (with_reducible first | assumption | exact True.intro | apply Bw.app | apply Bw.tk | apply Bw.dr | apply Bw.cons | exact Bw.nil | apply Bw.set | apply Bw.rep | apply Bw.rd | apply Al.add | exact Al.nil | apply Al.rd | apply Al.rev | apply Al.cons | apply Ml.cons | exact Ml.nil | apply And.intro) | (simp only [LL,LN,LB] at*;omega) | exact And.right (by with_reducible assumption) | exact And.left (by with_reducible assumption) | with_reducible exact Or.inl True.intro | with_reducible exact Or.inr True.intro | exact rds_size (by kernel_rfl) (by omega) (by simp only [LN];omega))
theorem Concat_ev {x y:Li} (hx:x.length≤100000000) (hy:y.length≤100000000):Ev (fun k=>Y3.f k [x,y]) (x++y):=by
 have e0:Scr.rdr [] [x,y] 0=x:=rfl
 have e1:Scr.rdr [] [x,y] 1=y:=rfl
 have h1:I64 (0+1)=1:=rfl
 have h2:I64 (1+1)=2:=rfl
 have hl:([x,y]:Lj).length=2:=rfl
 have g: ∀c:Int,0≤c→c≤300000000→Ev (fun k=>Y6.f k c) []:=by
  intro c c0 c1
  simp only [Y6.f]
  refine Ev.gn (by omega) ?_
  by_cases e:c=0
  ·exact Ev.gn (by simp only [LL];omega) (Ev.ret _)
  ·exact Ev.gd (by simp only [LL];omega) (Ev.gd (by simp only [LL];omega) (Ev.gd (by simp only [LL];omega) (by rw [List.take_zero];exact Ev.ret _)))
 simp only [Y3.f]
 refine Ev.succ ?_
 simp only [Y3.l0]
 refine Ev.gd (by rw [hl];decide) (Ev.gd (by omega) (Ev.gd (by rw [hl];decide) (Ev.sb (Ev.gn (by rw [e0];simp only [LL];omega) ?_))))
 rw [h1,e0]
 refine Ev.succ ?_
 simp only [Y3.l0]
 refine Ev.gd (by rw [hl];decide) (Ev.gd (by omega) (Ev.gd (by rw [hl];decide) (Ev.sb (Ev.gn (by rw [e1];simp (disch:=omega) only [I64i];omega) ?_))))
 rw [h2,e1]
 refine Ev.succ ?_
 simp only [Y3.l0]
 refine Ev.gn (by rw [hl];decide) (Ev.bind (g _ (by simp (disch:=omega) only [I64i];omega) (by simp (disch:=omega) only [I64i];omega)) ?_)
 refine Ev.succ ?_
 simp only [Y3.l1]
 refine Ev.gd (by rw [hl];decide) (Ev.gd (by omega) (Ev.gd (by rw [hl];decide) (Ev.gd (by rw [e0];simp only [LN];omega) ?_)))
 rw [h1,e0]
 refine Ev.succ ?_
 simp only [Y3.l1]
 refine Ev.gd (by rw [hl];decide) (Ev.gd (by omega) (Ev.gd (by rw [hl];decide) (Ev.gd (by rw [e1];simp only [LN];omega) ?_)))
 rw [h2,e1]
 refine Ev.succ ?_
 simp only [Y3.l1]
 exact Ev.gn (by rw [hl];decide) (Ev.ret _)
theorem Concat.e {x y:Li} (hx:x.length≤100000000) (hy:y.length≤100000000):Ev (fun k=>Y3.f k [x,y]) (x++y):=Concat_ev hx hy
def mxT:Li:=[16,7,20,21,29,12,28,17,1,15,23,26,5,18,31,10,2,8,24,14,32,27,3,9,19,13,30,6,22,11,4,25]
theorem Vn.e:Ev (fun k=>Vn.f k) mxT:=Ev.ret _
theorem Vg.l0_l1 (z_:Nat):(∀(t16:Li×Bool) (x8:Li) (x9:Int) (h0_:t16.1.length≤1000) (h1_:x8.length=4) (h2_:0≤x9) (h3_:x9<8) (hn_:(8-x9).toNat*10+7=z_),Tt (fun k=>Vg.l0 k t16 x8 x9) (fun r=>r.1.length=4))∧(∀(t16:Li×Bool) (u:Int) (v:Int) (x8:Li) (x9:Int) (c:Int) (j:Int) (h0_:t16.1.length≤1000) (h1_:x8.length=4) (h2_:0≤x9) (h3_:x9<8) (h4_:0≤u) (h5_:u≤1) (h6_:0≤v) (h7_:v≤1) (h8_:0≤c) (h9_:(j=1∧c<1)∨(j=2∧c<2)∨(j=3∧c<4)∨(j=4∧c<8)∨(j=5∧c<16)) (hn_:(8-x9).toNat*10+(5-j).toNat=z_),Tt (fun k=>Vg.l1 k t16 u v x8 x9 c j) (fun r=>r.1.length=4)):=by
 induction z_ using Nat.strongRecOn with
 | ind z_ ih=>
 have ih1:=fun m h=>(ih m h).1
 have ih2:=fun m h=>(ih m h).2
 clear ih
 constructor
 ·intro t16 x8 x9 h0_ h1_ h2_ h3_ hn_
  refine Tt.succ ?_
  simp only [Vg.l0]
  repeat' with_reducible first | refine Tt.sw fun _ _=> ?_ | refine Tt.sb ?_ | refine Tt.ret ?_ | refine Tt.bind (Qk.t ?_ ?_) fun _ _=> ?_ | refine Tt.mono (Qk.t ?_ ?_) fun _ _=> ?_ | refine Tt.mono (ih1 _ ?_ _ _ _ ?_ ?_ ?_ ?_ rfl) fun _ _=> ?_ | refine Tt.mono (ih2 _ ?_ _ _ _ _ _ _ _ ?_ ?_ ?_ ?_ ?_ ?_ ?_ ?_ ?_ ?_ rfl) fun _ _=> ?_ | refine Tt.dn (fun _=> ?_) ?_ | refine Tt.di (fun _=> ?_) fun _=> ?_ | refine Tt.ite (fun _=> ?_) fun _=> ?_
  all_goals first | omega | ((simp only [LN,h1_];exact Bw.dec rfl);done) | ((simp only [LN];rw [h1_];exact Bw.dec rfl);done) | (exact Nat.le_of_ble_eq_true rfl;done) | (assumption;done) | (exact .inl ⟨trivial,by decide⟩;done) | (simp only [LL,LN,LB] at*;omega) | skip
  all_goals try simp (disch:=first | omega | (simp only [LL,LN];omega)) only [I64i] at*
  all_goals try simp only [LL,LN,LB] at*
  all_goals (repeat' first | omega | (with_reducible first | assumption | exact True.intro | apply Bw.app | apply Bw.tk | apply Bw.dr | apply Bw.cons | exact Bw.nil | apply Bw.set | apply Bw.rep | apply Bw.rd | apply Al.add | exact Al.nil | apply Al.rd | apply Al.rev | apply Al.cons | apply Ml.cons | exact Ml.nil | apply And.intro) | (simp only [LL,LN,LB] at*;omega) | exact And.right (by with_reducible assumption) | exact And.left (by with_reducible assumption) | with_reducible exact Or.inl True.intro | with_reducible exact Or.inr True.intro | (simp only [LN,h1_];exact Bw.dec rfl) | (simp only [LN];rw [h1_];exact Bw.dec rfl) | exact Nat.le_of_ble_eq_true rfl | assumption | exact .inl ⟨trivial,by decide⟩)
 ·intro t16 u v x8 x9 c j h0_ h1_ h2_ h3_ h4_ h5_ h6_ h7_ h8_ h9_ hn_
  refine Tt.succ ?_
  simp only [Vg.l1]
  repeat' with_reducible first | refine Tt.sw fun _ _=> ?_ | refine Tt.sb ?_ | refine Tt.ret ?_ | refine Tt.bind (Qk.t ?_ ?_) fun _ _=> ?_ | refine Tt.mono (Qk.t ?_ ?_) fun _ _=> ?_ | refine Tt.bind (Vj.t ?_ ?_) fun _ _=> ?_ | refine Tt.mono (Vj.t ?_ ?_) fun _ _=> ?_ | refine Tt.bind (Vp.t ?_) fun _ _=> ?_ | refine Tt.mono (Vp.t ?_) fun _ _=> ?_ | refine Tt.ebind (Vn.e) ?_ | refine Tt.bind (Qn.t ?_ ?_ ?_) fun _ _=> ?_ | refine Tt.mono (Qn.t ?_ ?_ ?_) fun _ _=> ?_ | refine Tt.mono (ih1 _ ?_ _ _ _ ?_ ?_ ?_ ?_ rfl) fun _ _=> ?_ | refine Tt.mono (ih2 _ ?_ _ _ _ _ _ _ _ ?_ ?_ ?_ ?_ ?_ ?_ ?_ ?_ ?_ ?_ rfl) fun _ _=> ?_ | refine Tt.dn (fun _=> ?_) ?_ | refine Tt.di (fun _=> ?_) fun _=> ?_ | refine Tt.ite (fun _=> ?_) fun _=> ?_
  all_goals first | omega | ((simp only [LN,h1_];exact Bw.dec rfl);done) | ((simp only [LN];rw [h1_];exact Bw.dec rfl);done) | (exact Nat.le_of_ble_eq_true rfl;done) | (assumption;done) | (exact .inl ⟨trivial,by decide⟩;done) | (simp only [LL,LN,LB] at*;omega) | skip
  all_goals try simp (disch:=first | omega | (simp only [LL,LN];omega)) only [I64i] at*
  all_goals try simp only [LL,LN,LB] at*
  all_goals (repeat' first | omega | (with_reducible first | assumption | exact True.intro | apply Bw.app | apply Bw.tk | apply Bw.dr | apply Bw.cons | exact Bw.nil | apply Bw.set | apply Bw.rep | apply Bw.rd | apply Al.add | exact Al.nil | apply Al.rd | apply Al.rev | apply Al.cons | apply Ml.cons | exact Ml.nil | apply And.intro) | (simp only [LL,LN,LB] at*;omega) | exact And.right (by with_reducible assumption) | exact And.left (by with_reducible assumption) | with_reducible exact Or.inl True.intro | with_reducible exact Or.inr True.intro | (simp only [LN,h1_];exact Bw.dec rfl) | (simp only [LN];rw [h1_];exact Bw.dec rfl) | exact Nat.le_of_ble_eq_true rfl | assumption | exact .inl ⟨trivial,by decide⟩)
theorem Vg.l0t (z_:Nat) {t16:Li×Bool} {x8:Li} {x9:Int} (h0_:t16.1.length≤1000) (h1_:x8.length=4) (h2_:0≤x9) (h3_:x9<8) (hn_:(8-x9).toNat*10+7=z_):Tt (fun k=>Vg.l0 k t16 x8 x9) (fun r=>r.1.length=4):=(Vg.l0_l1 z_).1 _ _ _ h0_ h1_ h2_ h3_ hn_
theorem Vg.t {a0:Li} {a1:Li} (h0_:a0.length=4) (h1_:a1.length=6):Tt (fun k=>Vg.f k a0 a1) (fun r=>r.1.length=4):=by
 simp only [Vg.f]
 repeat' with_reducible first | refine Tt.sw fun _ _=> ?_ | refine Tt.sb ?_ | refine Tt.ret ?_ | refine Tt.ebind (Vq.e) ?_ | refine Tt.bind (Qn.t ?_ ?_ ?_) fun _ _=> ?_ | refine Tt.mono (Qn.t ?_ ?_ ?_) fun _ _=> ?_ | refine Tt.bind (Jd.t ?_) fun _ _=> ?_ | refine Tt.mono (Jd.t ?_) fun _ _=> ?_ | refine Tt.mono (Vg.l0t _ ?_ ?_ ?_ ?_ rfl) fun _ _=> ?_ | refine Tt.dn (fun _=> ?_) ?_ | refine Tt.di (fun _=> ?_) fun _=> ?_ | refine Tt.ite (fun _=> ?_) fun _=> ?_
 all_goals first | omega | ((simp only [h0_];exact Bw.dec rfl);done) | (exact Nat.le_of_ble_eq_true rfl;done) | (assumption;done) | ((have h_:weT.length=48:=rfl;omega);done) | (simp only [LL,LN,LB] at*;omega) | skip
 all_goals try simp (disch:=first | omega | (simp only [LL,LN];omega)) only [I64i] at*
 all_goals try simp only [LL,LN,LB] at*
 all_goals (repeat' first | omega | (with_reducible first | assumption | exact True.intro | apply Bw.app | apply Bw.tk | apply Bw.dr | apply Bw.cons | exact Bw.nil | apply Bw.set | apply Bw.rep | apply Bw.rd | apply Al.add | exact Al.nil | apply Al.rd | apply Al.rev | apply Al.cons | apply Ml.cons | exact Ml.nil | apply And.intro) | (simp only [LL,LN,LB] at*;omega) | exact And.right (by with_reducible assumption) | exact And.left (by with_reducible assumption) | with_reducible exact Or.inl True.intro | with_reducible exact Or.inr True.intro | (simp only [h0_];exact Bw.dec rfl) | exact Nat.le_of_ble_eq_true rfl | assumption | (have h_:weT.length=48:=rfl;omega))
theorem Vo.l2t (z_:Nat): ∀ {a1:Lj} {x:Li} {y:Li} {i:Int} (h0_:x.length=4) (h1_:y.length=4) (h2_:Al 6 a1) (h3_:0≤i) (h4_:a1.length≤1000) (hn_:(a1.length-i.toNat)=z_),Tt (fun k=>Vo.l2 k a1 ipT x y i) (fun r=>r.length=8):=by
 induction z_ using Nat.strongRecOn with
 | ind z_ ih=>
 intro a1 x y i h0_ h1_ h2_ h3_ h4_ hn_
 refine Tt.succ ?_
 simp only [Vo.l2]
 repeat' with_reducible first | refine Tt.sw fun _ _=> ?_ | refine Tt.sb ?_ | refine Tt.ret ?_ | refine Tt.bind (Vg.t ?_ ?_) fun _ _=> ?_ | refine Tt.mono (Vg.t ?_ ?_) fun _ _=> ?_ | refine Tt.bind (Jd.t ?_) fun _ _=> ?_ | refine Tt.mono (Jd.t ?_) fun _ _=> ?_ | refine Tt.ebind (Ql.e) ?_ | refine Tt.ebind (Concat.e ?_ ?_) ?_ | refine Tt.bind (Qn.t ?_ ?_ ?_) fun _ _=> ?_ | refine Tt.mono (Qn.t ?_ ?_ ?_) fun _ _=> ?_ | refine Tt.mono (ih _ ?_ ?_ ?_ ?_ ?_ ?_ rfl) fun _ _=> ?_ | refine Tt.dn (fun _=> ?_) ?_ | refine Tt.di (fun _=> ?_) fun _=> ?_ | refine Tt.ite (fun _=> ?_) fun _=> ?_
 all_goals first | omega | (exact h2_.rd (by omega) (by omega);done) | ((simp only [LN,h0_,h1_];exact Bw.dec rfl);done) | (exact Nat.le_of_ble_eq_true rfl;done) | (assumption;done) | ((have h_:fpT.length=64:=rfl;omega);done) | (simp only [LL,LN,LB] at*;omega) | skip
 all_goals try simp (disch:=first | omega | (simp only [LL,LN];omega)) only [I64i] at*
 all_goals try simp only [LL,LN,LB] at*
 all_goals (repeat' first | omega | (with_reducible first | assumption | exact True.intro | apply Bw.app | apply Bw.tk | apply Bw.dr | apply Bw.cons | exact Bw.nil | apply Bw.set | apply Bw.rep | apply Bw.rd | apply Al.add | exact Al.nil | apply Al.rd | apply Al.rev | apply Al.cons | apply Ml.cons | exact Ml.nil | apply And.intro) | (simp only [LL,LN,LB] at*;omega) | exact And.right (by with_reducible assumption) | exact And.left (by with_reducible assumption) | with_reducible exact Or.inl True.intro | with_reducible exact Or.inr True.intro | exact h2_.rd (by omega) (by omega) | (simp only [LN,h0_,h1_];exact Bw.dec rfl) | exact Nat.le_of_ble_eq_true rfl | assumption | (have h_:fpT.length=64:=rfl;omega))
theorem Vo.l1t (z_:Nat): ∀ {a1:Lj} {x:Li} {y:Li} {i:Int} (h0_:x.length=4) (h1_:y.length=4) (h2_:Al 6 a1) (h3_:0≤i) (h4_:a1.length≤1000) (hn_:0=z_),Tt (fun k=>Vo.l1 k a1 ipT x y i) (fun r=>r.length=8):=by
 induction z_ using Nat.strongRecOn with
 | ind z_ ih=>
 intro a1 x y i h0_ h1_ h2_ h3_ h4_ hn_
 refine Tt.succ ?_
 simp only [Vo.l1]
 repeat' with_reducible first | refine Tt.sw fun _ _=> ?_ | refine Tt.sb ?_ | refine Tt.ret ?_ | refine Tt.bind (Vg.t ?_ ?_) fun _ _=> ?_ | refine Tt.mono (Vg.t ?_ ?_) fun _ _=> ?_ | refine Tt.bind (Jd.t ?_) fun _ _=> ?_ | refine Tt.mono (Jd.t ?_) fun _ _=> ?_ | refine Tt.ebind (Ql.e) ?_ | refine Tt.ebind (Concat.e ?_ ?_) ?_ | refine Tt.bind (Qn.t ?_ ?_ ?_) fun _ _=> ?_ | refine Tt.mono (Qn.t ?_ ?_ ?_) fun _ _=> ?_ | refine Tt.mono (Vo.l2t _ ?_ ?_ ?_ ?_ ?_ rfl) fun _ _=> ?_ | refine Tt.mono (ih _ ?_ ?_ ?_ ?_ ?_ ?_ rfl) fun _ _=> ?_ | refine Tt.dn (fun _=> ?_) ?_ | refine Tt.di (fun _=> ?_) fun _=> ?_ | refine Tt.ite (fun _=> ?_) fun _=> ?_
 all_goals first | omega | (exact h2_.rd (by omega) (by omega);done) | ((simp only [LN,h0_,h1_];exact Bw.dec rfl);done) | (exact Nat.le_of_ble_eq_true rfl;done) | (assumption;done) | ((have h_:fpT.length=64:=rfl;omega);done) | (simp only [LL,LN,LB] at*;omega) | skip
 all_goals try simp (disch:=first | omega | (simp only [LL,LN];omega)) only [I64i] at*
 all_goals try simp only [LL,LN,LB] at*
 all_goals (repeat' first | omega | (with_reducible first | assumption | exact True.intro | apply Bw.app | apply Bw.tk | apply Bw.dr | apply Bw.cons | exact Bw.nil | apply Bw.set | apply Bw.rep | apply Bw.rd | apply Al.add | exact Al.nil | apply Al.rd | apply Al.rev | apply Al.cons | apply Ml.cons | exact Ml.nil | apply And.intro) | (simp only [LL,LN,LB] at*;omega) | exact And.right (by with_reducible assumption) | exact And.left (by with_reducible assumption) | with_reducible exact Or.inl True.intro | with_reducible exact Or.inr True.intro | exact h2_.rd (by omega) (by omega) | (simp only [LN,h0_,h1_];exact Bw.dec rfl) | exact Nat.le_of_ble_eq_true rfl | assumption | (have h_:fpT.length=64:=rfl;omega))
theorem Vo.l0t (z_:Nat): ∀ {a1:Lj} {x:Li} {y:Li} {i:Int} (h0_:x.length=4) (h1_:y.length=4) (h2_:Al 6 a1) (h3_:0≤i) (h4_:a1.length≤1000) (hn_:0=z_),Tt (fun k=>Vo.l0 k a1 ipT x y i) (fun r=>r.length=8):=by
 induction z_ using Nat.strongRecOn with
 | ind z_ ih=>
 intro a1 x y i h0_ h1_ h2_ h3_ h4_ hn_
 refine Tt.succ ?_
 simp only [Vo.l0]
 repeat' with_reducible first | refine Tt.sw fun _ _=> ?_ | refine Tt.sb ?_ | refine Tt.ret ?_ | refine Tt.bind (Vg.t ?_ ?_) fun _ _=> ?_ | refine Tt.mono (Vg.t ?_ ?_) fun _ _=> ?_ | refine Tt.bind (Jd.t ?_) fun _ _=> ?_ | refine Tt.mono (Jd.t ?_) fun _ _=> ?_ | refine Tt.ebind (Ql.e) ?_ | refine Tt.ebind (Concat.e ?_ ?_) ?_ | refine Tt.bind (Qn.t ?_ ?_ ?_) fun _ _=> ?_ | refine Tt.mono (Qn.t ?_ ?_ ?_) fun _ _=> ?_ | refine Tt.mono (Vo.l1t _ ?_ ?_ ?_ ?_ ?_ rfl) fun _ _=> ?_ | refine Tt.mono (ih _ ?_ ?_ ?_ ?_ ?_ ?_ rfl) fun _ _=> ?_ | refine Tt.dn (fun _=> ?_) ?_ | refine Tt.di (fun _=> ?_) fun _=> ?_ | refine Tt.ite (fun _=> ?_) fun _=> ?_
 all_goals first | omega | (exact h2_.rd (by omega) (by omega);done) | ((simp only [LN,h0_,h1_];exact Bw.dec rfl);done) | (exact Nat.le_of_ble_eq_true rfl;done) | (assumption;done) | ((have h_:fpT.length=64:=rfl;omega);done) | (simp only [LL,LN,LB] at*;omega) | skip
 all_goals try simp (disch:=first | omega | (simp only [LL,LN];omega)) only [I64i] at*
 all_goals try simp only [LL,LN,LB] at*
 all_goals (repeat' first | omega | (with_reducible first | assumption | exact True.intro | apply Bw.app | apply Bw.tk | apply Bw.dr | apply Bw.cons | exact Bw.nil | apply Bw.set | apply Bw.rep | apply Bw.rd | apply Al.add | exact Al.nil | apply Al.rd | apply Al.rev | apply Al.cons | apply Ml.cons | exact Ml.nil | apply And.intro) | (simp only [LL,LN,LB] at*;omega) | exact And.right (by with_reducible assumption) | exact And.left (by with_reducible assumption) | with_reducible exact Or.inl True.intro | with_reducible exact Or.inr True.intro | exact h2_.rd (by omega) (by omega) | (simp only [LN,h0_,h1_];exact Bw.dec rfl) | exact Nat.le_of_ble_eq_true rfl | assumption | (have h_:fpT.length=64:=rfl;omega))
theorem Vo.t {a0:Li} {a1:Lj} (h0_:a0.length=8) (h1_:Al 6 a1) (h2_:a1.length≤1000):Tt (fun k=>Vo.f k a0 a1) (fun r=>r.length=8):=by
 simp only [Vo.f]
 repeat' with_reducible first | refine Tt.sw fun _ _=> ?_ | refine Tt.sb ?_ | refine Tt.ret ?_ | refine Tt.ebind (Vm.e) ?_ | refine Tt.bind (Qn.t ?_ ?_ ?_) fun _ _=> ?_ | refine Tt.mono (Qn.t ?_ ?_ ?_) fun _ _=> ?_ | refine Tt.mono (Vo.l0t _ ?_ ?_ ?_ ?_ ?_ rfl) fun _ _=> ?_ | refine Tt.dn (fun _=> ?_) ?_ | refine Tt.di (fun _=> ?_) fun _=> ?_ | refine Tt.ite (fun _=> ?_) fun _=> ?_
 all_goals first | omega | ((simp only [h0_];exact Bw.dec rfl);done) | (exact Nat.le_of_ble_eq_true rfl;done) | (assumption;done) | ((have h_:ipT.length=64:=rfl;(try simp only [LN] at*);omega);done) | (simp only [LL,LN,LB] at*;omega) | skip
 all_goals try simp (disch:=first | omega | (simp only [LL,LN];omega)) only [I64i] at*
 all_goals try simp only [LL,LN,LB] at*
 all_goals (repeat' first | omega | (with_reducible first | assumption | exact True.intro | apply Bw.app | apply Bw.tk | apply Bw.dr | apply Bw.cons | exact Bw.nil | apply Bw.set | apply Bw.rep | apply Bw.rd | apply Al.add | exact Al.nil | apply Al.rd | apply Al.rev | apply Al.cons | apply Ml.cons | exact Ml.nil | apply And.intro) | (simp only [LL,LN,LB] at*;omega) | exact And.right (by with_reducible assumption) | exact And.left (by with_reducible assumption) | with_reducible exact Or.inl True.intro | with_reducible exact Or.inr True.intro | (simp only [h0_];exact Bw.dec rfl) | exact Nat.le_of_ble_eq_true rfl | assumption | (have h_:ipT.length=64:=rfl;(try simp only [LN] at*);omega))
end Go.Scr.S

namespace Go.Scr.S
section
variable {x:Lk} {i:Int}
theorem Kd.a (a:Kd x) (h:0≤i∧i<x.length):(Scr.rdr [] x i).length=16:=(a.rd h.1 h.2).1
theorem Kd.b (a:Kd x) (h:0≤i∧i<x.length):(Scr.rdr [] x i).length≤1000:=by rw [a.a h];decide
theorem Kd.c (a:Kd x) (h:0≤i∧i<x.length):(Scr.rdr [] x i).length≤1000000000:=by rw [a.a h];decide
theorem Kd.d (a:Kd x) (h:0≤i∧i<x.length):Al 6 (Scr.rdr [] x i):=(a.rd h.1 h.2).2
theorem Kd.e (a:Kd x) (h:0≤i∧i<x.length):(Scr.rdr [] x i).reverse.length≤1000:=by rw [List.length_reverse,a.a h];decide
theorem Kd.f (a:Kd x) (h:0≤i∧i<x.length):Al 6 (Scr.rdr [] x i).reverse:=(a.rd h.1 h.2).2.rev
end
theorem Vf.l1t (z_:Nat): ∀ {a0:Lk} {b:Bool} {x:Li} {i:Int} (h0_:x.length=8) (h1_:Kd a0) (h2_:0≤i) (h3_:a0.length≤1000) (hn_:(a0.length-i.toNat)=z_),Tt (fun k=>Vf.l1 k a0 b x i) (fun r=>r.1.length=8∧r.2=0):=by
 induction z_ using Nat.strongRecOn with
 | ind z_ ih=>
 intro a0 b x i h0_ h1_ h2_ h3_ hn_
 refine Tt.succ ?_
 simp only [Vf.l1]
 repeat' with_reducible first | refine Tt.sw fun _ _=> ?_ | refine Tt.sb ?_ | refine Tt.ret ?_ | refine Tt.bind (Vo.t ?_ ?_ ?_) fun _ _=> ?_ | refine Tt.mono (Vo.t ?_ ?_ ?_) fun _ _=> ?_ | refine Tt.mono (ih _ ?_ ?_ ?_ ?_ ?_ rfl) fun _ _=> ?_ | refine Tt.dn (fun _=> ?_) ?_ | refine Tt.di (fun _=> ?_) fun _=> ?_ | refine Tt.ite (fun _=> ?_) fun _=> ?_
 all_goals first | omega | (exact Kd.a h1_ (by first | omega | (simp (disch:=omega) only [I64i];omega));done) | (exact Kd.b h1_ (by first | omega | (simp (disch:=omega) only [I64i];omega));done) | (exact Kd.c h1_ (by first | omega | (simp (disch:=omega) only [I64i];omega));done) | (exact Kd.d h1_ (by first | omega | (simp (disch:=omega) only [I64i];omega));done) | (exact Kd.e h1_ (by first | omega | (simp (disch:=omega) only [I64i];omega));done) | (exact Kd.f h1_ (by first | omega | (simp (disch:=omega) only [I64i];omega));done) | (simp only [LL,LN,LB] at*;omega) | skip
 all_goals try simp (disch:=first | omega | (simp only [LL,LN];omega)) only [I64i] at*
 all_goals try simp only [LL,LN,LB] at*
 all_goals (repeat' first | omega | (with_reducible first | assumption | exact True.intro | apply Bw.app | apply Bw.tk | apply Bw.dr | apply Bw.cons | exact Bw.nil | apply Bw.set | apply Bw.rep | apply Bw.rd | apply Al.add | exact Al.nil | apply Al.rd | apply Al.rev | apply Al.cons | apply Ml.cons | exact Ml.nil | apply And.intro) | (simp only [LL,LN,LB] at*;omega) | exact And.right (by with_reducible assumption) | exact And.left (by with_reducible assumption) | with_reducible exact Or.inl True.intro | with_reducible exact Or.inr True.intro | exact Kd.a h1_ (by first | omega | (simp (disch:=omega) only [I64i];omega)) | exact Kd.b h1_ (by first | omega | (simp (disch:=omega) only [I64i];omega)) | exact Kd.c h1_ (by first | omega | (simp (disch:=omega) only [I64i];omega)) | exact Kd.d h1_ (by first | omega | (simp (disch:=omega) only [I64i];omega)) | exact Kd.e h1_ (by first | omega | (simp (disch:=omega) only [I64i];omega)) | exact Kd.f h1_ (by first | omega | (simp (disch:=omega) only [I64i];omega)))
theorem Vf.l2t (z_:Nat): ∀ {a0:Lk} {b:Bool} {x:Li} {i:Int} (h0_:x.length=8) (h1_:Kd a0) (h2_:0≤i) (h3_:a0.length≤1000) (hn_:(a0.length-i.toNat)=z_),Tt (fun k=>Vf.l2 k a0 b x i) (fun r=>r.1.length=8∧r.2=0):=by
 induction z_ using Nat.strongRecOn with
 | ind z_ ih=>
 intro a0 b x i h0_ h1_ h2_ h3_ hn_
 refine Tt.succ ?_
 simp only [Vf.l2]
 repeat' with_reducible first | refine Tt.sw fun _ _=> ?_ | refine Tt.sb ?_ | refine Tt.ret ?_ | refine Tt.bind (Vo.t ?_ ?_ ?_) fun _ _=> ?_ | refine Tt.mono (Vo.t ?_ ?_ ?_) fun _ _=> ?_ | refine Tt.mono (ih _ ?_ ?_ ?_ ?_ ?_ rfl) fun _ _=> ?_ | refine Tt.dn (fun _=> ?_) ?_ | refine Tt.di (fun _=> ?_) fun _=> ?_ | refine Tt.ite (fun _=> ?_) fun _=> ?_
 all_goals first | omega | (exact Kd.a h1_ (by first | omega | (simp (disch:=omega) only [I64i];omega));done) | (exact Kd.b h1_ (by first | omega | (simp (disch:=omega) only [I64i];omega));done) | (exact Kd.c h1_ (by first | omega | (simp (disch:=omega) only [I64i];omega));done) | (exact Kd.d h1_ (by first | omega | (simp (disch:=omega) only [I64i];omega));done) | (exact Kd.e h1_ (by first | omega | (simp (disch:=omega) only [I64i];omega));done) | (exact Kd.f h1_ (by first | omega | (simp (disch:=omega) only [I64i];omega));done) | (simp only [LL,LN,LB] at*;omega) | skip
 all_goals try simp (disch:=first | omega | (simp only [LL,LN];omega)) only [I64i] at*
 all_goals try simp only [LL,LN,LB] at*
 all_goals (repeat' first | omega | (with_reducible first | assumption | exact True.intro | apply Bw.app | apply Bw.tk | apply Bw.dr | apply Bw.cons | exact Bw.nil | apply Bw.set | apply Bw.rep | apply Bw.rd | apply Al.add | exact Al.nil | apply Al.rd | apply Al.rev | apply Al.cons | apply Ml.cons | exact Ml.nil | apply And.intro) | (simp only [LL,LN,LB] at*;omega) | exact And.right (by with_reducible assumption) | exact And.left (by with_reducible assumption) | with_reducible exact Or.inl True.intro | with_reducible exact Or.inr True.intro | exact Kd.a h1_ (by first | omega | (simp (disch:=omega) only [I64i];omega)) | exact Kd.b h1_ (by first | omega | (simp (disch:=omega) only [I64i];omega)) | exact Kd.c h1_ (by first | omega | (simp (disch:=omega) only [I64i];omega)) | exact Kd.d h1_ (by first | omega | (simp (disch:=omega) only [I64i];omega)) | exact Kd.e h1_ (by first | omega | (simp (disch:=omega) only [I64i];omega)) | exact Kd.f h1_ (by first | omega | (simp (disch:=omega) only [I64i];omega)))
theorem Vf.l3t (z_:Nat): ∀ {a0:Lk} {b:Bool} {x:Li} {i:Int} (h0_:x.length=8) (h1_:Kd a0) (h2_:0≤i) (h3_:a0.length≤1000) (hn_:(a0.length-i.toNat)=z_),Tt (fun k=>Vf.l3 k a0 b x i) (fun r=>r.1.length=8∧r.2=0):=by
 induction z_ using Nat.strongRecOn with
 | ind z_ ih=>
 intro a0 b x i h0_ h1_ h2_ h3_ hn_
 refine Tt.succ ?_
 simp only [Vf.l3]
 repeat' with_reducible first | refine Tt.sw fun _ _=> ?_ | refine Tt.sb ?_ | refine Tt.ret ?_ | refine Tt.bind (Vo.t ?_ ?_ ?_) fun _ _=> ?_ | refine Tt.mono (Vo.t ?_ ?_ ?_) fun _ _=> ?_ | refine Tt.mono (ih _ ?_ ?_ ?_ ?_ ?_ rfl) fun _ _=> ?_ | refine Tt.dn (fun _=> ?_) ?_ | refine Tt.di (fun _=> ?_) fun _=> ?_ | refine Tt.ite (fun _=> ?_) fun _=> ?_
 all_goals first | omega | (exact Kd.a h1_ (by first | omega | (simp (disch:=omega) only [I64i];omega));done) | (exact Kd.b h1_ (by first | omega | (simp (disch:=omega) only [I64i];omega));done) | (exact Kd.c h1_ (by first | omega | (simp (disch:=omega) only [I64i];omega));done) | (exact Kd.d h1_ (by first | omega | (simp (disch:=omega) only [I64i];omega));done) | (exact Kd.e h1_ (by first | omega | (simp (disch:=omega) only [I64i];omega));done) | (exact Kd.f h1_ (by first | omega | (simp (disch:=omega) only [I64i];omega));done) | (simp only [LL,LN,LB] at*;omega) | skip
 all_goals try simp (disch:=first | omega | (simp only [LL,LN];omega)) only [I64i] at*
 all_goals try simp only [LL,LN,LB] at*
 all_goals (repeat' first | omega | (with_reducible first | assumption | exact True.intro | apply Bw.app | apply Bw.tk | apply Bw.dr | apply Bw.cons | exact Bw.nil | apply Bw.set | apply Bw.rep | apply Bw.rd | apply Al.add | exact Al.nil | apply Al.rd | apply Al.rev | apply Al.cons | apply Ml.cons | exact Ml.nil | apply And.intro) | (simp only [LL,LN,LB] at*;omega) | exact And.right (by with_reducible assumption) | exact And.left (by with_reducible assumption) | with_reducible exact Or.inl True.intro | with_reducible exact Or.inr True.intro | exact Kd.a h1_ (by first | omega | (simp (disch:=omega) only [I64i];omega)) | exact Kd.b h1_ (by first | omega | (simp (disch:=omega) only [I64i];omega)) | exact Kd.c h1_ (by first | omega | (simp (disch:=omega) only [I64i];omega)) | exact Kd.d h1_ (by first | omega | (simp (disch:=omega) only [I64i];omega)) | exact Kd.e h1_ (by first | omega | (simp (disch:=omega) only [I64i];omega)) | exact Kd.f h1_ (by first | omega | (simp (disch:=omega) only [I64i];omega)))
theorem Vf.l0t (z_:Nat): ∀ {a0:Lk} {b:Bool} {x:Li} {i:Int} (h0_:x.length=8) (h1_:Kd a0) (h2_:0≤i) (h3_:a0.length≤1000) (h4_:i<a0.length) (hn_:0=z_),Tt (fun k=>Vf.l0 k a0 b x i) (fun r=>r.1.length=8∧r.2=0):=by
 induction z_ using Nat.strongRecOn with
 | ind z_ ih=>
 intro a0 b x i h0_ h1_ h2_ h3_ h4_ hn_
 refine Tt.succ ?_
 simp only [Vf.l0]
 repeat' with_reducible first | refine Tt.sw fun _ _=> ?_ | refine Tt.sb ?_ | refine Tt.ret ?_ | refine Tt.bind (Vo.t ?_ ?_ ?_) fun _ _=> ?_ | refine Tt.mono (Vo.t ?_ ?_ ?_) fun _ _=> ?_ | refine Tt.mono (Vf.l1t _ ?_ ?_ ?_ ?_ rfl) fun _ _=> ?_ | refine Tt.mono (Vf.l2t _ ?_ ?_ ?_ ?_ rfl) fun _ _=> ?_ | refine Tt.mono (Vf.l3t _ ?_ ?_ ?_ ?_ rfl) fun _ _=> ?_ | refine Tt.mono (ih _ ?_ ?_ ?_ ?_ ?_ ?_ rfl) fun _ _=> ?_ | refine Tt.dn (fun _=> ?_) ?_ | refine Tt.di (fun _=> ?_) fun _=> ?_ | refine Tt.ite (fun _=> ?_) fun _=> ?_
 all_goals first | omega | (exact Kd.a h1_ (by first | omega | (simp (disch:=omega) only [I64i];omega));done) | (exact Kd.b h1_ (by first | omega | (simp (disch:=omega) only [I64i];omega));done) | (exact Kd.c h1_ (by first | omega | (simp (disch:=omega) only [I64i];omega));done) | (exact Kd.d h1_ (by first | omega | (simp (disch:=omega) only [I64i];omega));done) | (exact Kd.e h1_ (by first | omega | (simp (disch:=omega) only [I64i];omega));done) | (exact Kd.f h1_ (by first | omega | (simp (disch:=omega) only [I64i];omega));done) | (simp only [LL,LN,LB] at*;omega) | skip
 all_goals try simp (disch:=first | omega | (simp only [LL,LN];omega)) only [I64i] at*
 all_goals try simp only [LL,LN,LB] at*
 all_goals (repeat' first | omega | (with_reducible first | assumption | exact True.intro | apply Bw.app | apply Bw.tk | apply Bw.dr | apply Bw.cons | exact Bw.nil | apply Bw.set | apply Bw.rep | apply Bw.rd | apply Al.add | exact Al.nil | apply Al.rd | apply Al.rev | apply Al.cons | apply Ml.cons | exact Ml.nil | apply And.intro) | (simp only [LL,LN,LB] at*;omega) | exact And.right (by with_reducible assumption) | exact And.left (by with_reducible assumption) | with_reducible exact Or.inl True.intro | with_reducible exact Or.inr True.intro | exact Kd.a h1_ (by first | omega | (simp (disch:=omega) only [I64i];omega)) | exact Kd.b h1_ (by first | omega | (simp (disch:=omega) only [I64i];omega)) | exact Kd.c h1_ (by first | omega | (simp (disch:=omega) only [I64i];omega)) | exact Kd.d h1_ (by first | omega | (simp (disch:=omega) only [I64i];omega)) | exact Kd.e h1_ (by first | omega | (simp (disch:=omega) only [I64i];omega)) | exact Kd.f h1_ (by first | omega | (simp (disch:=omega) only [I64i];omega)))
theorem Vf.t {a0:Lk} {a1:Li} {b:Bool} (h0_:a1.length=8) (h1_:Kd a0) (h2_:0<a0.length) (h3_:a0.length≤1000):Tt (fun k=>Vf.f k a0 a1 b) (fun r=>r.1.length=8∧r.2=0):=by
 simp only [Vf.f]
 repeat' with_reducible first | refine Tt.sw fun _ _=> ?_ | refine Tt.sb ?_ | refine Tt.ret ?_ | refine Tt.mono (Vf.l0t _ ?_ ?_ ?_ ?_ ?_ rfl) fun _ _=> ?_ | refine Tt.dn (fun _=> ?_) ?_ | refine Tt.di (fun _=> ?_) fun _=> ?_ | refine Tt.ite (fun _=> ?_) fun _=> ?_
 all_goals exact fin_
theorem Vi.l0t (z_:Nat): ∀ {a0:Li} {x:Lk} {i:Int} (h0_:0≤i) (h1_:Kd x) (h2_:(x.length:Int)=i) (h3_:a0.length=8∨a0.length=16∨a0.length=24) (h4_:8*i≤a0.length) (hn_:(24-i.toNat)=z_),Tt (fun k=>Vi.l0 k a0 x i) (fun r=> ∃ks,r=(some ks,0)∧Kd ks∧0<ks.length∧ks.length≤3):=by
 induction z_ using Nat.strongRecOn with
 | ind z_ ih=>
 intro a0 x i h0_ h1_ h2_ h3_ h4_ hn_
 refine Tt.succ ?_
 simp only [Vi.l0]
 repeat' with_reducible first | refine Tt.sw fun _ _=> ?_ | refine Tt.sb ?_ | refine Tt.ret ?_ | refine Tt.bind (Vh.t ?_) fun _ _=> ?_ | refine Tt.mono (Vh.t ?_) fun _ _=> ?_ | refine Tt.mono (ih _ ?_ ?_ ?_ ?_ ?_ ?_ rfl) fun _ _=> ?_ | refine Tt.dn (fun _=> ?_) ?_ | refine Tt.di (fun _=> ?_) fun _=> ?_ | refine Tt.ite (fun _=> ?_) fun _=> ?_
 all_goals first | omega | ((refine ⟨_,rfl,?_,?_,?_⟩);done) | (with_reducible apply Kd.add;done) | (exact Kd.a h1_ (by omega);done) | (exact Kd.d h1_ (by omega);done) | (exact And.right (And.right (by assumption));done) | (simp only [LL,LN,LB] at*;omega) | skip
 all_goals try simp (disch:=first | omega | (simp only [LL,LN];omega)) only [I64i] at*
 all_goals try simp only [LL,LN,LB] at*
 all_goals (repeat' first | omega | (with_reducible first | assumption | exact True.intro | apply Bw.app | apply Bw.tk | apply Bw.dr | apply Bw.cons | exact Bw.nil | apply Bw.set | apply Bw.rep | apply Bw.rd | apply Al.add | exact Al.nil | apply Al.rd | apply Al.rev | apply Al.cons | apply Ml.cons | exact Ml.nil | apply And.intro) | (simp only [LL,LN,LB] at*;omega) | exact And.right (by with_reducible assumption) | exact And.left (by with_reducible assumption) | with_reducible exact Or.inl True.intro | with_reducible exact Or.inr True.intro | (refine ⟨_,rfl,?_,?_,?_⟩) | with_reducible apply Kd.add | exact Kd.a h1_ (by omega) | exact Kd.d h1_ (by omega) | exact And.right (And.right (by assumption)))
theorem Vi.t {a0:Li} (h0_:a0.length=8∨a0.length=16∨a0.length=24):Tt (fun k=>Vi.f k a0) (fun r=> ∃ks,r=(some ks,0)∧Kd ks∧0<ks.length∧ks.length≤3):=by
 simp only [Vi.f]
 repeat' with_reducible first | refine Tt.sw fun _ _=> ?_ | refine Tt.sb ?_ | refine Tt.ret ?_ | refine Tt.mono (Vi.l0t _ ?_ ?_ ?_ ?_ ?_ rfl) fun _ _=> ?_ | refine Tt.dn (fun _=> ?_) ?_ | refine Tt.di (fun _=> ?_) fun _=> ?_ | refine Tt.ite (fun _=> ?_) fun _=> ?_
 all_goals first | omega | (exact Kd.nil;done) | (simp only [LL,LN,LB] at*;omega) | skip
 all_goals try simp (disch:=first | omega | (simp only [LL,LN];omega)) only [I64i] at*
 all_goals try simp only [LL,LN,LB] at*
 all_goals (repeat' first | omega | (with_reducible first | assumption | exact True.intro | apply Bw.app | apply Bw.tk | apply Bw.dr | apply Bw.cons | exact Bw.nil | apply Bw.set | apply Bw.rep | apply Bw.rd | apply Al.add | exact Al.nil | apply Al.rd | apply Al.rev | apply Al.cons | apply Ml.cons | exact Ml.nil | apply And.intro) | (simp only [LL,LN,LB] at*;omega) | exact And.right (by with_reducible assumption) | exact And.left (by with_reducible assumption) | with_reducible exact Or.inl True.intro | with_reducible exact Or.inr True.intro | exact Kd.nil)
end Go.Scr.S
