/- Plain functions that answer, whatever comes in. -/
import Derived.Test.YtdemmfohkhpklaaGreatDoorPt
set_option linter.unusedVariables false
set_option linter.unusedSimpArgs false
set_option maxRecDepth 10000
namespace Go.Scr.S
theorem Qk.t {a:Li} {i:Int} (h0_:i<1000000000) (h1_:a.length≤1000000000):Tt (fun k=>Qk.f k a i) (fun r=>0≤r∧r≤1):=by
 simp only [Qk.f]
 repeat' with_reducible first | refine Tt.sw fun _ _=> ?_ | refine Tt.sb ?_ | refine Tt.ret ?_ | refine Tt.dn (fun _=> ?_) ?_ | refine Tt.di (fun _=> ?_) fun _=> ?_ | refine Tt.ite (fun _=> ?_) fun _=> ?_
 all_goals first | omega | (exact (band1 _).1;done) | (exact (band1 _).2;done) | (simp only [LL,LN,LB] at*;omega) | skip
 all_goals try simp (disch:=first | omega | (simp only [LL,LN];omega)) only [I64i] at*
 all_goals try simp only [LL,LN,LB] at*
 all_goals (repeat' first | omega | (with_reducible first | assumption | exact True.intro | apply Bw.app | apply Bw.tk | apply Bw.dr | apply Bw.cons | exact Bw.nil | apply Bw.set | apply Bw.rep | apply Bw.rd | apply Al.add | exact Al.nil | apply Al.rd | apply Al.rev | apply Al.cons | apply Ml.cons | exact Ml.nil | apply And.intro) | (simp only [LL,LN,LB] at*;omega) | exact And.right (by with_reducible assumption) | exact And.left (by with_reducible assumption) | with_reducible exact Or.inl True.intro | with_reducible exact Or.inr True.intro | exact (band1 _).1 | exact (band1 _).2)
end Go.Scr.S

namespace Go.Scr.S
theorem tm0 {a b:Int} (h:0≤a):0≤Int.tmod a b:=Int.tmod_nonneg _ h
theorem tm1 {a b:Int} (h:0<b):Int.tmod a b<b:=Int.tmod_lt_of_pos _ h
theorem tm2 {a b:Int} (h:0<b): -b<Int.tmod a b:=Int.lt_tmod_of_pos _ h
theorem Jf.t {a b:Int} (hb:0<b) (h1:b≤1000000000000):Tt (fun k=>Jf.f k a b) (fun r=>0≤r∧r<b):=by
 simp only [Jf.f]
 refine Tt.gn (by omega) (Tt.gn (by omega) (Tt.ret ?_))
 have h2:=tm1 (a:=a) hb
 have h3:=tm2 (a:=a) hb
 exact ⟨tm0 (by rw [I64e];omega),tm1 hb⟩
theorem Jc.l0t (z_:Nat): ∀ {a:Li} {t:Int} {x:Li} {i:Int} (h0_:0≤i) (h1_:a.length≤1000000) (h2_:0<a.length) (h3_:0≤t) (h4_:t≤1000000000) (h5_:x.length=a.length) (hn_:(a.length-i.toNat)=z_),Tt (fun k=>Jc.l0 k a t x i) (fun r=>r.length=a.length):=by
 induction z_ using Nat.strongRecOn with
 | ind z_ ih=>
 intro a t x i h0_ h1_ h2_ h3_ h4_ h5_ hn_
 refine Tt.succ ?_
 simp only [Jc.l0]
 repeat' with_reducible first | refine Tt.sw fun _ _=> ?_ | refine Tt.sb ?_ | refine Tt.ret ?_ | refine Tt.mono (ih _ ?_ ?_ ?_ ?_ ?_ ?_ ?_ rfl) fun _ _=> ?_ | refine Tt.dn (fun _=> ?_) ?_ | refine Tt.di (fun _=> ?_) fun _=> ?_ | refine Tt.ite (fun _=> ?_) fun _=> ?_
 all_goals first | omega | (exact tm0 (by simp only [I64e,tdv];omega);done) | (exact tm1 (by omega);done) | (exact Int.lt_of_lt_of_le (tm1 (by omega)) (by omega);done) | (simp only [LL,LN,LB] at*;omega) | skip
 all_goals try simp (disch:=first | omega | (simp only [LL,LN];omega)) only [I64i] at*
 all_goals try simp only [LL,LN,LB] at*
 all_goals (repeat' first | omega | (with_reducible first | assumption | exact True.intro | apply Bw.app | apply Bw.tk | apply Bw.dr | apply Bw.cons | exact Bw.nil | apply Bw.set | apply Bw.rep | apply Bw.rd | apply Al.add | exact Al.nil | apply Al.rd | apply Al.rev | apply Al.cons | apply Ml.cons | exact Ml.nil | apply And.intro) | (simp only [LL,LN,LB] at*;omega) | exact And.right (by with_reducible assumption) | exact And.left (by with_reducible assumption) | with_reducible exact Or.inl True.intro | with_reducible exact Or.inr True.intro | exact tm0 (by simp only [I64e,tdv];omega) | exact tm1 (by omega) | exact Int.lt_of_lt_of_le (tm1 (by omega)) (by omega))
theorem Jc.t {a:Li} {n:Int} (h0_:a.length≤1000000):Tt (fun k=>Jc.f k a n) (fun r=>r.length=a.length):=by
 simp only [Jc.f]
 repeat' with_reducible first | refine Tt.sw fun _ _=> ?_ | refine Tt.sb ?_ | refine Tt.ret ?_ | refine Tt.bind (Jf.t ?_ ?_) fun _ _=> ?_ | refine Tt.mono (Jf.t ?_ ?_) fun _ _=> ?_ | refine Tt.mono (Jc.l0t _ ?_ ?_ ?_ ?_ ?_ ?_ rfl) fun _ _=> ?_ | refine Tt.dn (fun _=> ?_) ?_ | refine Tt.di (fun _=> ?_) fun _=> ?_ | refine Tt.ite (fun _=> ?_) fun _=> ?_
 all_goals exact fin_
theorem Je.l0t (z_:Nat): ∀ {a:Li} {x:Int} {i:Int} (h0_:0≤i) (h1_:a.length≤1000000) (hn_:(a.length-i.toNat)=z_),Tt (fun k=>Je.l0 k a x i) (fun r=>True):=by
 induction z_ using Nat.strongRecOn with
 | ind z_ ih=>
 intro a x i h0_ h1_ hn_
 refine Tt.succ ?_
 simp only [Je.l0]
 repeat' with_reducible first | refine Tt.sw fun _ _=> ?_ | refine Tt.sb ?_ | refine Tt.ret ?_ | refine Tt.mono (ih _ ?_ ?_ ?_ rfl) fun _ _=> ?_ | refine Tt.dn (fun _=> ?_) ?_ | refine Tt.di (fun _=> ?_) fun _=> ?_ | refine Tt.ite (fun _=> ?_) fun _=> ?_
 all_goals exact fin_
theorem Je.t {a:Li} (h0_:a.length≤1000000):Tt (fun k=>Je.f k a) (fun r=>True):=by
 simp only [Je.f]
 repeat' with_reducible first | refine Tt.sw fun _ _=> ?_ | refine Tt.sb ?_ | refine Tt.ret ?_ | refine Tt.mono (Je.l0t _ ?_ ?_ rfl) fun _ _=> ?_ | refine Tt.dn (fun _=> ?_) ?_ | refine Tt.di (fun _=> ?_) fun _=> ?_ | refine Tt.ite (fun _=> ?_) fun _=> ?_
 all_goals exact fin_
theorem K5.t {a:Li} (h0_:a.length≤1000000):Tt (fun k=>K5.f k a) (fun r=>True):=by
 simp only [K5.f]
 repeat' with_reducible first | refine Tt.sw fun _ _=> ?_ | refine Tt.sb ?_ | refine Tt.ret ?_ | refine Tt.bind (Je.t ?_) fun _ _=> ?_ | refine Tt.mono (Je.t ?_) fun _ _=> ?_ | refine Tt.dn (fun _=> ?_) ?_ | refine Tt.di (fun _=> ?_) fun _=> ?_ | refine Tt.ite (fun _=> ?_) fun _=> ?_
 all_goals exact fin_
theorem Jh.l0t (z_:Nat): ∀ {a:Li} {x:Li} {i:Int} (h0_: -1≤i) (h1_:i<a.length) (h2_:a.length≤1000000) (h3_:x.length+i+1=a.length) (hn_:(i+1).toNat=z_),Tt (fun k=>Jh.l0 k a x i) (fun r=>r.length=a.length):=by
 induction z_ using Nat.strongRecOn with
 | ind z_ ih=>
 intro a x i h0_ h1_ h2_ h3_ hn_
 refine Tt.succ ?_
 simp only [Jh.l0]
 repeat' with_reducible first | refine Tt.sw fun _ _=> ?_ | refine Tt.sb ?_ | refine Tt.ret ?_ | refine Tt.mono (ih _ ?_ ?_ ?_ ?_ ?_ rfl) fun _ _=> ?_ | refine Tt.dn (fun _=> ?_) ?_ | refine Tt.di (fun _=> ?_) fun _=> ?_ | refine Tt.ite (fun _=> ?_) fun _=> ?_
 all_goals exact fin_
theorem Jh.t {a:Li} (h0_:a.length≤1000000):Tt (fun k=>Jh.f k a) (fun r=>r.length=a.length):=by
 simp only [Jh.f]
 repeat' with_reducible first | refine Tt.sw fun _ _=> ?_ | refine Tt.sb ?_ | refine Tt.ret ?_ | refine Tt.mono (Jh.l0t _ ?_ ?_ ?_ ?_ rfl) fun _ _=> ?_ | refine Tt.dn (fun _=> ?_) ?_ | refine Tt.di (fun _=> ?_) fun _=> ?_ | refine Tt.ite (fun _=> ?_) fun _=> ?_
 all_goals exact fin_
theorem K7.t {a:Li} (h0_:a.length≤1000000):Tt (fun k=>K7.f k a) (fun r=>True):=by
 simp only [K7.f]
 repeat' with_reducible first | refine Tt.sw fun _ _=> ?_ | refine Tt.sb ?_ | refine Tt.ret ?_ | refine Tt.bind (Jh.t ?_) fun _ _=> ?_ | refine Tt.mono (Jh.t ?_) fun _ _=> ?_ | refine Tt.bind (K5.t ?_) fun _ _=> ?_ | refine Tt.mono (K5.t ?_) fun _ _=> ?_ | refine Tt.dn (fun _=> ?_) ?_ | refine Tt.di (fun _=> ?_) fun _=> ?_ | refine Tt.ite (fun _=> ?_) fun _=> ?_
 all_goals exact fin_
theorem Jb.t {a:Int} {n:Int} (h0_:True):Tt (fun k=>Jb.f k a n) (fun r=>True):=by
 simp only [Jb.f]
 repeat' with_reducible first | refine Tt.sw fun _ _=> ?_ | refine Tt.sb ?_ | refine Tt.ret ?_ | refine Tt.bind (Jf.t ?_ ?_) fun _ _=> ?_ | refine Tt.mono (Jf.t ?_ ?_) fun _ _=> ?_ | refine Tt.dn (fun _=> ?_) ?_ | refine Tt.di (fun _=> ?_) fun _=> ?_ | refine Tt.ite (fun _=> ?_) fun _=> ?_
 all_goals exact fin_
theorem Jg.l0t (z_:Nat): ∀ {n:Int} {v:Int} {x:Li} {i:Int} (h0_:i≤n) (h1_:x.length=n.toNat) (h2_:n≤1000000) (hn_:i.toNat=z_),Tt (fun k=>Jg.l0 k n v x i) (fun r=>r.length=n.toNat):=by
 induction z_ using Nat.strongRecOn with
 | ind z_ ih=>
 intro n v x i h0_ h1_ h2_ hn_
 refine Tt.succ ?_
 simp only [Jg.l0]
 repeat' with_reducible first | refine Tt.sw fun _ _=> ?_ | refine Tt.sb ?_ | refine Tt.ret ?_ | refine Tt.mono (ih _ ?_ ?_ ?_ ?_ rfl) fun _ _=> ?_ | refine Tt.dn (fun _=> ?_) ?_ | refine Tt.di (fun _=> ?_) fun _=> ?_ | refine Tt.ite (fun _=> ?_) fun _=> ?_
 all_goals exact fin_
theorem Jg.t {v:Int} {n:Int} (h0_:0≤n) (h1_:n≤1000000):Tt (fun k=>Jg.f k v n) (fun r=>r.length=n.toNat):=by
 simp only [Jg.f]
 repeat' with_reducible first | refine Tt.sw fun _ _=> ?_ | refine Tt.sb ?_ | refine Tt.ret ?_ | refine Tt.mono (Jg.l0t _ ?_ ?_ ?_ rfl) fun _ _=> ?_ | refine Tt.dn (fun _=> ?_) ?_ | refine Tt.di (fun _=> ?_) fun _=> ?_ | refine Tt.ite (fun _=> ?_) fun _=> ?_
 all_goals exact fin_
theorem K8.t {v:Int} (h0_:True):Tt (fun k=>K8.f k v) (fun r=>r.length=4):=by
 simp only [K8.f]
 repeat' with_reducible first | refine Tt.sw fun _ _=> ?_ | refine Tt.sb ?_ | refine Tt.ret ?_ | refine Tt.bind (Jg.t ?_ ?_) fun _ _=> ?_ | refine Tt.mono (Jg.t ?_ ?_) fun _ _=> ?_ | refine Tt.dn (fun _=> ?_) ?_ | refine Tt.di (fun _=> ?_) fun _=> ?_ | refine Tt.ite (fun _=> ?_) fun _=> ?_
 all_goals exact fin_
theorem Ja.t {v:Int} (h0_:True):Tt (fun k=>Ja.f k v) (fun r=>r.length=4):=by
 simp only [Ja.f]
 repeat' with_reducible first | refine Tt.sw fun _ _=> ?_ | refine Tt.sb ?_ | refine Tt.ret ?_ | refine Tt.bind (K8.t ?_) fun _ _=> ?_ | refine Tt.mono (K8.t ?_) fun _ _=> ?_ | refine Tt.bind (Jh.t ?_) fun _ _=> ?_ | refine Tt.mono (Jh.t ?_) fun _ _=> ?_ | refine Tt.dn (fun _=> ?_) ?_ | refine Tt.di (fun _=> ?_) fun _=> ?_ | refine Tt.ite (fun _=> ?_) fun _=> ?_
 all_goals exact fin_
theorem Jd.l0t (z_:Nat): ∀ {a:Li} {b:Li} {x:Li} {i:Int} (h0_:0≤i) (h1_:a.length≤1000000) (h2_:a.length=b.length) (h3_:x.length=a.length) (hn_:(a.length-i.toNat)=z_),Tt (fun k=>Jd.l0 k a b x i) (fun r=>r.1.length=a.length∧r.2=true):=by
 induction z_ using Nat.strongRecOn with
 | ind z_ ih=>
 intro a b x i h0_ h1_ h2_ h3_ hn_
 refine Tt.succ ?_
 simp only [Jd.l0]
 repeat' with_reducible first | refine Tt.sw fun _ _=> ?_ | refine Tt.sb ?_ | refine Tt.ret ?_ | refine Tt.mono (ih _ ?_ ?_ ?_ ?_ ?_ rfl) fun _ _=> ?_ | refine Tt.dn (fun _=> ?_) ?_ | refine Tt.di (fun _=> ?_) fun _=> ?_ | refine Tt.ite (fun _=> ?_) fun _=> ?_
 all_goals exact fin_
theorem Jd.t {a:Li} {b:Li} (h0_:a.length≤1000000):Tt (fun k=>Jd.f k a b) (fun r=>r.1.length≤a.length∧(a.length=b.length→r.1.length=a.length)):=by
 simp only [Jd.f]
 repeat' with_reducible first | refine Tt.sw fun _ _=> ?_ | refine Tt.sb ?_ | refine Tt.ret ?_ | refine Tt.mono (Jd.l0t _ ?_ ?_ ?_ ?_ rfl) fun _ _=> ?_ | refine Tt.dn (fun _=> ?_) ?_ | refine Tt.di (fun _=> ?_) fun _=> ?_ | refine Tt.ite (fun _=> ?_) fun _=> ?_
 all_goals exact fin_
end Go.Scr.S

namespace Go.Scr.S
theorem Qn.l0t (z_:Nat): ∀ {a0:Li} {a1:Li} {y1:Int} {x:Li} {i:Int} (h0_:0≤i) (h1_:a1.length≤1000) (h2_:a0.length≤1000) (h3_:Bw 1 (8*a0.length) a1) (h4_:x.length=(a1.length+7)/8) (h5_:y1=(a1.length+7)/8) (hn_:(a1.length-i.toNat)=z_),Tt (fun k=>Qn.l0 k a0 a1 y1 x i) (fun r=>r.1.length=(a1.length+7)/8):=by
 induction z_ using Nat.strongRecOn with
 | ind z_ ih=>
 intro a0 a1 y1 x i h0_ h1_ h2_ h3_ h4_ h5_ hn_
 refine Tt.succ ?_
 simp only [Qn.l0]
 repeat' with_reducible first | refine Tt.sw fun _ _=> ?_ | refine Tt.sb ?_ | refine Tt.ret ?_ | refine Tt.bind (Qk.t ?_ ?_) fun _ _=> ?_ | refine Tt.mono (Qk.t ?_ ?_) fun _ _=> ?_ | refine Tt.mono (ih _ ?_ ?_ ?_ ?_ ?_ ?_ ?_ rfl) fun _ _=> ?_ | refine Tt.dn (fun _=> ?_) ?_ | refine Tt.di (fun _=> ?_) fun _=> ?_ | refine Tt.ite (fun _=> ?_) fun _=> ?_
 all_goals first | omega | (assumption;done) | ((have b_:=Bw.rd h3_ (i:=i) (by omega) (by omega);(try simp only [LL,LN] at*);omega);done) | (simp only [LL,LN,LB] at*;omega) | skip
 all_goals try simp (disch:=first | omega | (simp only [LL,LN];omega)) only [I64i] at*
 all_goals try simp only [LL,LN,LB] at*
 all_goals (repeat' first | omega | (with_reducible first | assumption | exact True.intro | apply Bw.app | apply Bw.tk | apply Bw.dr | apply Bw.cons | exact Bw.nil | apply Bw.set | apply Bw.rep | apply Bw.rd | apply Al.add | exact Al.nil | apply Al.rd | apply Al.rev | apply Al.cons | apply Ml.cons | exact Ml.nil | apply And.intro) | (simp only [LL,LN,LB] at*;omega) | exact And.right (by with_reducible assumption) | exact And.left (by with_reducible assumption) | with_reducible exact Or.inl True.intro | with_reducible exact Or.inr True.intro | assumption | (have b_:=Bw.rd h3_ (i:=i) (by omega) (by omega);(try simp only [LL,LN] at*);omega))
theorem Qn.t {a0:Li} {a1:Li} (h0_:a1.length≤1000) (h1_:a0.length≤1000) (h2_:Bw 1 (8*a0.length) a1):Tt (fun k=>Qn.f k a0 a1) (fun r=>r.1.length=(a1.length+7)/8):=by
 simp only [Qn.f]
 repeat' with_reducible first | refine Tt.sw fun _ _=> ?_ | refine Tt.sb ?_ | refine Tt.ret ?_ | refine Tt.mono (Qn.l0t _ ?_ ?_ ?_ ?_ ?_ ?_ rfl) fun _ _=> ?_ | refine Tt.dn (fun _=> ?_) ?_ | refine Tt.di (fun _=> ?_) fun _=> ?_ | refine Tt.ite (fun _=> ?_) fun _=> ?_
 all_goals first | omega | (assumption;done) | (simp only [LL,LN,LB] at*;omega) | skip
 all_goals try simp (disch:=first | omega | (simp only [LL,LN];omega)) only [I64i] at*
 all_goals try simp only [LL,LN,LB] at*
 all_goals (repeat' first | omega | (with_reducible first | assumption | exact True.intro | apply Bw.app | apply Bw.tk | apply Bw.dr | apply Bw.cons | exact Bw.nil | apply Bw.set | apply Bw.rep | apply Bw.rd | apply Al.add | exact Al.nil | apply Al.rd | apply Al.rev | apply Al.cons | apply Ml.cons | exact Ml.nil | apply And.intro) | (simp only [LL,LN,LB] at*;omega) | exact And.right (by with_reducible assumption) | exact And.left (by with_reducible assumption) | with_reducible exact Or.inl True.intro | with_reducible exact Or.inr True.intro | assumption)
theorem Y1.e {a:Li} (h:a.length≤1000000):Ev (fun k=>Y1.f k a) a:=by
 simp only [Y1.f]
 exact Ev.gd (by simp only [LN];omega) (Ev.ret _)
def ipT:Li:=[58,50,42,34,26,18,10,2,60,52,44,36,28,20,12,4,62,54,46,38,30,22,14,6,64,56,48,40,32,24,16,8,57,49,41,33,25,17,9,1,59,51,43,35,27,19,11,3,61,53,45,37,29,21,13,5,63,55,47,39,31,23,15,7]
def fpT:Li:=[40,8,48,16,56,24,64,32,39,7,47,15,55,23,63,31,38,6,46,14,54,22,62,30,37,5,45,13,53,21,61,29,36,4,44,12,52,20,60,28,35,3,43,11,51,19,59,27,34,2,42,10,50,18,58,26,33,1,41,9,49,17,57,25]
def weT:Li:=[32,1,2,3,4,5,4,5,6,7,8,9,8,9,10,11,12,13,12,13,14,15,16,17,16,17,18,19,20,21,20,21,22,23,24,25,24,25,26,27,28,29,28,29,30,31,32,1]
def c1T:Li:=[57,49,41,33,25,17,9,1,58,50,42,34,26,18,10,2,59,51,43,35,27,19,11,3,60,52,44,36,63,55,47,39,31,23,15,7,62,54,46,38,30,22,14,6,61,53,45,37,29,21,13,5,28,20,12,4]
def c2T:Li:=[14,17,11,24,1,5,3,28,15,6,21,10,23,19,12,4,26,8,16,7,27,20,13,2,41,52,31,37,47,55,30,40,51,45,33,48,44,49,39,56,34,53,46,42,50,36,29,32]
end Go.Scr.S
