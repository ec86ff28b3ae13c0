/- Plain functions that answer, whatever comes in. -/
import Derived.Test.YtdemmfohkhpklaaGreatDoorPt
set_option linter.unusedVariables false
set_option linter.unusedSimpArgs false
set_option maxRecDepth 10000
namespace Go.Scr.S
theorem slices_Index_int_int.l0t (z_:Nat): ∀ {a:Li} {v:Int} {i:Int} (h0_:0≤i) (h1_:a.length≤1000000000) (hn_:(a.length-i.toNat)=z_),Tt (fun k=>slices_Index_int_int.l0 k a v i) (fun r=>True):=by
 induction z_ using Nat.strongRecOn with
 | ind z_ ih=>
 intro a v i h0_ h1_ hn_
 refine Tt.succ ?_
 simp only [slices_Index_int_int.l0]
 repeat' with_reducible first | refine Tt.sw fun _ _=> ?_ | refine Tt.sb ?_ | refine Tt.ret ?_ | refine Tt.mono (ih _ ?_ ?_ ?_ rfl) fun _ _=> ?_ | refine Tt.dn (fun _=> ?_) ?_ | refine Tt.di (fun _=> ?_) fun _=> ?_ | refine Tt.ite (fun _=> ?_) fun _=> ?_
 all_goals first | omega | (simp only [LL,LN,LB] at*;omega) | skip
 all_goals try simp (disch:=first | omega | (simp only [LL,LN];omega)) only [I64i] at*
 all_goals try simp only [LL,LN,LB] at*
 all_goals (repeat' first | omega | (with_reducible first | assumption | exact True.intro | apply Bw.app | apply Bw.tk | apply Bw.dr | apply Bw.cons | exact Bw.nil | apply Bw.set | apply Bw.rep | apply Bw.rd | apply Al.add | exact Al.nil | apply Al.rd | apply Al.rev | apply Al.cons | apply Ml.cons | exact Ml.nil | apply And.intro) | (simp only [LL,LN,LB] at*;omega) | exact And.right (by with_reducible assumption) | exact And.left (by with_reducible assumption) | with_reducible exact Or.inl True.intro | with_reducible exact Or.inr True.intro)
theorem slices_Index_int_int.t {a:Li} {v:Int} (h0_:a.length≤1000000000):Tt (fun k=>slices_Index_int_int.f k a v) (fun r=>True):=by
 simp only [slices_Index_int_int.f]
 repeat' with_reducible first | refine Tt.sw fun _ _=> ?_ | refine Tt.sb ?_ | refine Tt.ret ?_ | refine Tt.mono (slices_Index_int_int.l0t _ ?_ ?_ rfl) fun _ _=> ?_ | refine Tt.dn (fun _=> ?_) ?_ | refine Tt.di (fun _=> ?_) fun _=> ?_ | refine Tt.ite (fun _=> ?_) fun _=> ?_
 all_goals first | omega | (simp only [LL,LN,LB] at*;omega) | skip
 all_goals try simp (disch:=first | omega | (simp only [LL,LN];omega)) only [I64i] at*
 all_goals try simp only [LL,LN,LB] at*
 all_goals (repeat' first | omega | (with_reducible first | assumption | exact True.intro | apply Bw.app | apply Bw.tk | apply Bw.dr | apply Bw.cons | exact Bw.nil | apply Bw.set | apply Bw.rep | apply Bw.rd | apply Al.add | exact Al.nil | apply Al.rd | apply Al.rev | apply Al.cons | apply Ml.cons | exact Ml.nil | apply And.intro) | (simp only [LL,LN,LB] at*;omega) | exact And.right (by with_reducible assumption) | exact And.left (by with_reducible assumption) | with_reducible exact Or.inl True.intro | with_reducible exact Or.inr True.intro)
theorem des_down.l0t (z_:Nat): ∀ {a2:Int} {a3:Int} {a4:Int} {x:Li} {c:Int} {i:Int} (h0_:0≤i) (h1_:a4≤1000) (h2_:(x.length:Int)≤1000+i) (hn_:(a4-i).toNat=z_),Tt (fun k=>des_down.l0 k a2 a3 a4 x c i) (fun r=>(r.length:Int)=x.length+(max a4 i)-i):=by
 induction z_ using Nat.strongRecOn with
 | ind z_ ih=>
 intro a2 a3 a4 x c i h0_ h1_ h2_ hn_
 refine Tt.succ ?_
 simp only [des_down.l0]
 repeat' with_reducible first | refine Tt.sw fun _ _=> ?_ | refine Tt.sb ?_ | refine Tt.ret ?_ | refine Tt.mono (ih _ ?_ ?_ ?_ ?_ rfl) fun _ _=> ?_ | refine Tt.dn (fun _=> ?_) ?_ | refine Tt.di (fun _=> ?_) fun _=> ?_ | refine Tt.ite (fun _=> ?_) fun _=> ?_
 all_goals first | omega | (simp only [LL,LN,LB] at*;omega) | skip
 all_goals try simp (disch:=first | omega | (simp only [LL,LN];omega)) only [I64i] at*
 all_goals try simp only [LL,LN,LB] at*
 all_goals (repeat' first | omega | (with_reducible first | assumption | exact True.intro | apply Bw.app | apply Bw.tk | apply Bw.dr | apply Bw.cons | exact Bw.nil | apply Bw.set | apply Bw.rep | apply Bw.rd | apply Al.add | exact Al.nil | apply Al.rd | apply Al.rev | apply Al.cons | apply Ml.cons | exact Ml.nil | apply And.intro) | (simp only [LL,LN,LB] at*;omega) | exact And.right (by with_reducible assumption) | exact And.left (by with_reducible assumption) | with_reducible exact Or.inl True.intro | with_reducible exact Or.inr True.intro)
theorem des_down.t {a0:Li} {a1:Int} {a2:Int} {a3:Int} {a4:Int} (h0_:0≤a4) (h1_:a4≤1000) (h2_:a0.length≤1000):Tt (fun k=>des_down.f k a0 a1 a2 a3 a4) (fun r=>(r.length:Int)=a0.length+a4):=by
 simp only [des_down.f]
 repeat' with_reducible first | refine Tt.sw fun _ _=> ?_ | refine Tt.sb ?_ | refine Tt.ret ?_ | refine Tt.mono (des_down.l0t _ ?_ ?_ ?_ rfl) fun _ _=> ?_ | refine Tt.dn (fun _=> ?_) ?_ | refine Tt.di (fun _=> ?_) fun _=> ?_ | refine Tt.ite (fun _=> ?_) fun _=> ?_
 all_goals first | omega | (simp only [LL,LN,LB] at*;omega) | skip
 all_goals try simp (disch:=first | omega | (simp only [LL,LN];omega)) only [I64i] at*
 all_goals try simp only [LL,LN,LB] at*
 all_goals (repeat' first | omega | (with_reducible first | assumption | exact True.intro | apply Bw.app | apply Bw.tk | apply Bw.dr | apply Bw.cons | exact Bw.nil | apply Bw.set | apply Bw.rep | apply Bw.rd | apply Al.add | exact Al.nil | apply Al.rd | apply Al.rev | apply Al.cons | apply Ml.cons | exact Ml.nil | apply And.intro) | (simp only [LL,LN,LB] at*;omega) | exact And.right (by with_reducible assumption) | exact And.left (by with_reducible assumption) | with_reducible exact Or.inl True.intro | with_reducible exact Or.inr True.intro)
theorem bits_Bit.t {a:Li} {i:Int} (h0_:i<1000000000) (h1_:a.length≤1000000000):Tt (fun k=>bits_Bit.f k a i) (fun r=>0≤r∧r≤1):=by
 simp only [bits_Bit.f]
 repeat' with_reducible first | refine Tt.sw fun _ _=> ?_ | refine Tt.sb ?_ | refine Tt.ret ?_ | refine Tt.dn (fun _=> ?_) ?_ | refine Tt.di (fun _=> ?_) fun _=> ?_ | refine Tt.ite (fun _=> ?_) fun _=> ?_
 all_goals first | omega | (exact (band1 _).1;done) | (exact (band1 _).2;done) | (simp only [LL,LN,LB] at*;omega) | skip
 all_goals try simp (disch:=first | omega | (simp only [LL,LN];omega)) only [I64i] at*
 all_goals try simp only [LL,LN,LB] at*
 all_goals (repeat' first | omega | (with_reducible first | assumption | exact True.intro | apply Bw.app | apply Bw.tk | apply Bw.dr | apply Bw.cons | exact Bw.nil | apply Bw.set | apply Bw.rep | apply Bw.rd | apply Al.add | exact Al.nil | apply Al.rd | apply Al.rev | apply Al.cons | apply Ml.cons | exact Ml.nil | apply And.intro) | (simp only [LL,LN,LB] at*;omega) | exact And.right (by with_reducible assumption) | exact And.left (by with_reducible assumption) | with_reducible exact Or.inl True.intro | with_reducible exact Or.inr True.intro | exact (band1 _).1 | exact (band1 _).2)
end Go.Scr.S

namespace Go.Scr.S
theorem tm0 {a b:Int} (h:0≤a):0≤Int.tmod a b:=Int.tmod_nonneg _ h
theorem tm1 {a b:Int} (h:0<b):Int.tmod a b<b:=Int.tmod_lt_of_pos _ h
theorem tm2 {a b:Int} (h:0<b): -b<Int.tmod a b:=Int.lt_tmod_of_pos _ h
theorem words_rest.t {a b:Int} (hb:0<b) (h1:b≤1000000000000):Tt (fun k=>words_rest.f k a b) (fun r=>0≤r∧r<b):=by
 simp only [words_rest.f]
 refine Tt.gn (by omega) (Tt.gn (by omega) (Tt.ret ?_))
 have h2:=tm1 (a:=a) hb
 have h3:=tm2 (a:=a) hb
 exact ⟨tm0 (by rw [I64e];omega),tm1 hb⟩
theorem words_Turn.l0t (z_:Nat): ∀ {a:Li} {t:Int} {x:Li} {i:Int} (h0_:0≤i) (h1_:a.length≤1000000) (h2_:0<a.length) (h3_:0≤t) (h4_:t≤1000000000) (h5_:x.length=a.length) (hn_:(a.length-i.toNat)=z_),Tt (fun k=>words_Turn.l0 k a t x i) (fun r=>r.length=a.length):=by
 induction z_ using Nat.strongRecOn with
 | ind z_ ih=>
 intro a t x i h0_ h1_ h2_ h3_ h4_ h5_ hn_
 refine Tt.succ ?_
 simp only [words_Turn.l0]
 repeat' with_reducible first | refine Tt.sw fun _ _=> ?_ | refine Tt.sb ?_ | refine Tt.ret ?_ | refine Tt.mono (ih _ ?_ ?_ ?_ ?_ ?_ ?_ ?_ rfl) fun _ _=> ?_ | refine Tt.dn (fun _=> ?_) ?_ | refine Tt.di (fun _=> ?_) fun _=> ?_ | refine Tt.ite (fun _=> ?_) fun _=> ?_
 all_goals first | omega | (exact tm0 (by simp only [I64e,tdv];omega);done) | (exact tm1 (by omega);done) | (exact Int.lt_of_lt_of_le (tm1 (by omega)) (by omega);done) | (simp only [LL,LN,LB] at*;omega) | skip
 all_goals try simp (disch:=first | omega | (simp only [LL,LN];omega)) only [I64i] at*
 all_goals try simp only [LL,LN,LB] at*
 all_goals (repeat' first | omega | (with_reducible first | assumption | exact True.intro | apply Bw.app | apply Bw.tk | apply Bw.dr | apply Bw.cons | exact Bw.nil | apply Bw.set | apply Bw.rep | apply Bw.rd | apply Al.add | exact Al.nil | apply Al.rd | apply Al.rev | apply Al.cons | apply Ml.cons | exact Ml.nil | apply And.intro) | (simp only [LL,LN,LB] at*;omega) | exact And.right (by with_reducible assumption) | exact And.left (by with_reducible assumption) | with_reducible exact Or.inl True.intro | with_reducible exact Or.inr True.intro | exact tm0 (by simp only [I64e,tdv];omega) | exact tm1 (by omega) | exact Int.lt_of_lt_of_le (tm1 (by omega)) (by omega))
theorem words_Turn.t {a:Li} {n:Int} (h0_:a.length≤1000000):Tt (fun k=>words_Turn.f k a n) (fun r=>r.length=a.length):=by
 simp only [words_Turn.f]
 repeat' with_reducible first | refine Tt.sw fun _ _=> ?_ | refine Tt.sb ?_ | refine Tt.ret ?_ | refine Tt.bind (words_rest.t ?_ ?_) fun _ _=> ?_ | refine Tt.mono (words_rest.t ?_ ?_) fun _ _=> ?_ | refine Tt.mono (words_Turn.l0t _ ?_ ?_ ?_ ?_ ?_ ?_ rfl) fun _ _=> ?_ | refine Tt.dn (fun _=> ?_) ?_ | refine Tt.di (fun _=> ?_) fun _=> ?_ | refine Tt.ite (fun _=> ?_) fun _=> ?_
 all_goals first | omega | (simp only [LL,LN,LB] at*;omega) | skip
 all_goals try simp (disch:=first | omega | (simp only [LL,LN];omega)) only [I64i] at*
 all_goals try simp only [LL,LN,LB] at*
 all_goals (repeat' first | omega | (with_reducible first | assumption | exact True.intro | apply Bw.app | apply Bw.tk | apply Bw.dr | apply Bw.cons | exact Bw.nil | apply Bw.set | apply Bw.rep | apply Bw.rd | apply Al.add | exact Al.nil | apply Al.rd | apply Al.rev | apply Al.cons | apply Ml.cons | exact Ml.nil | apply And.intro) | (simp only [LL,LN,LB] at*;omega) | exact And.right (by with_reducible assumption) | exact And.left (by with_reducible assumption) | with_reducible exact Or.inl True.intro | with_reducible exact Or.inr True.intro)
theorem words_load.l0t (z_:Nat): ∀ {a:Li} {x:Int} {i:Int} (h0_:0≤i) (h1_:a.length≤1000000) (hn_:(a.length-i.toNat)=z_),Tt (fun k=>words_load.l0 k a x i) (fun r=>True):=by
 induction z_ using Nat.strongRecOn with
 | ind z_ ih=>
 intro a x i h0_ h1_ hn_
 refine Tt.succ ?_
 simp only [words_load.l0]
 repeat' with_reducible first | refine Tt.sw fun _ _=> ?_ | refine Tt.sb ?_ | refine Tt.ret ?_ | refine Tt.mono (ih _ ?_ ?_ ?_ rfl) fun _ _=> ?_ | refine Tt.dn (fun _=> ?_) ?_ | refine Tt.di (fun _=> ?_) fun _=> ?_ | refine Tt.ite (fun _=> ?_) fun _=> ?_
 all_goals first | omega | (simp only [LL,LN,LB] at*;omega) | skip
 all_goals try simp (disch:=first | omega | (simp only [LL,LN];omega)) only [I64i] at*
 all_goals try simp only [LL,LN,LB] at*
 all_goals (repeat' first | omega | (with_reducible first | assumption | exact True.intro | apply Bw.app | apply Bw.tk | apply Bw.dr | apply Bw.cons | exact Bw.nil | apply Bw.set | apply Bw.rep | apply Bw.rd | apply Al.add | exact Al.nil | apply Al.rd | apply Al.rev | apply Al.cons | apply Ml.cons | exact Ml.nil | apply And.intro) | (simp only [LL,LN,LB] at*;omega) | exact And.right (by with_reducible assumption) | exact And.left (by with_reducible assumption) | with_reducible exact Or.inl True.intro | with_reducible exact Or.inr True.intro)
theorem words_load.t {a:Li} (h0_:a.length≤1000000):Tt (fun k=>words_load.f k a) (fun r=>True):=by
 simp only [words_load.f]
 repeat' with_reducible first | refine Tt.sw fun _ _=> ?_ | refine Tt.sb ?_ | refine Tt.ret ?_ | refine Tt.mono (words_load.l0t _ ?_ ?_ rfl) fun _ _=> ?_ | refine Tt.dn (fun _=> ?_) ?_ | refine Tt.di (fun _=> ?_) fun _=> ?_ | refine Tt.ite (fun _=> ?_) fun _=> ?_
 all_goals first | omega | (simp only [LL,LN,LB] at*;omega) | skip
 all_goals try simp (disch:=first | omega | (simp only [LL,LN];omega)) only [I64i] at*
 all_goals try simp only [LL,LN,LB] at*
 all_goals (repeat' first | omega | (with_reducible first | assumption | exact True.intro | apply Bw.app | apply Bw.tk | apply Bw.dr | apply Bw.cons | exact Bw.nil | apply Bw.set | apply Bw.rep | apply Bw.rd | apply Al.add | exact Al.nil | apply Al.rd | apply Al.rev | apply Al.cons | apply Ml.cons | exact Ml.nil | apply And.intro) | (simp only [LL,LN,LB] at*;omega) | exact And.right (by with_reducible assumption) | exact And.left (by with_reducible assumption) | with_reducible exact Or.inl True.intro | with_reducible exact Or.inr True.intro)
theorem words_Be32.t {a:Li} (h0_:a.length≤1000000):Tt (fun k=>words_Be32.f k a) (fun r=>True):=by
 simp only [words_Be32.f]
 repeat' with_reducible first | refine Tt.sw fun _ _=> ?_ | refine Tt.sb ?_ | refine Tt.ret ?_ | refine Tt.bind (words_load.t ?_) fun _ _=> ?_ | refine Tt.mono (words_load.t ?_) fun _ _=> ?_ | refine Tt.dn (fun _=> ?_) ?_ | refine Tt.di (fun _=> ?_) fun _=> ?_ | refine Tt.ite (fun _=> ?_) fun _=> ?_
 all_goals first | omega | (simp only [LL,LN,LB] at*;omega) | skip
 all_goals try simp (disch:=first | omega | (simp only [LL,LN];omega)) only [I64i] at*
 all_goals try simp only [LL,LN,LB] at*
 all_goals (repeat' first | omega | (with_reducible first | assumption | exact True.intro | apply Bw.app | apply Bw.tk | apply Bw.dr | apply Bw.cons | exact Bw.nil | apply Bw.set | apply Bw.rep | apply Bw.rd | apply Al.add | exact Al.nil | apply Al.rd | apply Al.rev | apply Al.cons | apply Ml.cons | exact Ml.nil | apply And.intro) | (simp only [LL,LN,LB] at*;omega) | exact And.right (by with_reducible assumption) | exact And.left (by with_reducible assumption) | with_reducible exact Or.inl True.intro | with_reducible exact Or.inr True.intro)
theorem words_turned.l0t (z_:Nat): ∀ {a:Li} {x:Li} {i:Int} (h0_: -1≤i) (h1_:i<a.length) (h2_:a.length≤1000000) (h3_:x.length+i+1=a.length) (hn_:(i+1).toNat=z_),Tt (fun k=>words_turned.l0 k a x i) (fun r=>r.length=a.length):=by
 induction z_ using Nat.strongRecOn with
 | ind z_ ih=>
 intro a x i h0_ h1_ h2_ h3_ hn_
 refine Tt.succ ?_
 simp only [words_turned.l0]
 repeat' with_reducible first | refine Tt.sw fun _ _=> ?_ | refine Tt.sb ?_ | refine Tt.ret ?_ | refine Tt.mono (ih _ ?_ ?_ ?_ ?_ ?_ rfl) fun _ _=> ?_ | refine Tt.dn (fun _=> ?_) ?_ | refine Tt.di (fun _=> ?_) fun _=> ?_ | refine Tt.ite (fun _=> ?_) fun _=> ?_
 all_goals first | omega | (simp only [LL,LN,LB] at*;omega) | skip
 all_goals try simp (disch:=first | omega | (simp only [LL,LN];omega)) only [I64i] at*
 all_goals try simp only [LL,LN,LB] at*
 all_goals (repeat' first | omega | (with_reducible first | assumption | exact True.intro | apply Bw.app | apply Bw.tk | apply Bw.dr | apply Bw.cons | exact Bw.nil | apply Bw.set | apply Bw.rep | apply Bw.rd | apply Al.add | exact Al.nil | apply Al.rd | apply Al.rev | apply Al.cons | apply Ml.cons | exact Ml.nil | apply And.intro) | (simp only [LL,LN,LB] at*;omega) | exact And.right (by with_reducible assumption) | exact And.left (by with_reducible assumption) | with_reducible exact Or.inl True.intro | with_reducible exact Or.inr True.intro)
theorem words_turned.t {a:Li} (h0_:a.length≤1000000):Tt (fun k=>words_turned.f k a) (fun r=>r.length=a.length):=by
 simp only [words_turned.f]
 repeat' with_reducible first | refine Tt.sw fun _ _=> ?_ | refine Tt.sb ?_ | refine Tt.ret ?_ | refine Tt.mono (words_turned.l0t _ ?_ ?_ ?_ ?_ rfl) fun _ _=> ?_ | refine Tt.dn (fun _=> ?_) ?_ | refine Tt.di (fun _=> ?_) fun _=> ?_ | refine Tt.ite (fun _=> ?_) fun _=> ?_
 all_goals first | omega | (simp only [LL,LN,LB] at*;omega) | skip
 all_goals try simp (disch:=first | omega | (simp only [LL,LN];omega)) only [I64i] at*
 all_goals try simp only [LL,LN,LB] at*
 all_goals (repeat' first | omega | (with_reducible first | assumption | exact True.intro | apply Bw.app | apply Bw.tk | apply Bw.dr | apply Bw.cons | exact Bw.nil | apply Bw.set | apply Bw.rep | apply Bw.rd | apply Al.add | exact Al.nil | apply Al.rd | apply Al.rev | apply Al.cons | apply Ml.cons | exact Ml.nil | apply And.intro) | (simp only [LL,LN,LB] at*;omega) | exact And.right (by with_reducible assumption) | exact And.left (by with_reducible assumption) | with_reducible exact Or.inl True.intro | with_reducible exact Or.inr True.intro)
theorem words_Le32.t {a:Li} (h0_:a.length≤1000000):Tt (fun k=>words_Le32.f k a) (fun r=>True):=by
 simp only [words_Le32.f]
 repeat' with_reducible first | refine Tt.sw fun _ _=> ?_ | refine Tt.sb ?_ | refine Tt.ret ?_ | refine Tt.bind (words_turned.t ?_) fun _ _=> ?_ | refine Tt.mono (words_turned.t ?_) fun _ _=> ?_ | refine Tt.bind (words_Be32.t ?_) fun _ _=> ?_ | refine Tt.mono (words_Be32.t ?_) fun _ _=> ?_ | refine Tt.dn (fun _=> ?_) ?_ | refine Tt.di (fun _=> ?_) fun _=> ?_ | refine Tt.ite (fun _=> ?_) fun _=> ?_
 all_goals first | omega | (simp only [LL,LN,LB] at*;omega) | skip
 all_goals try simp (disch:=first | omega | (simp only [LL,LN];omega)) only [I64i] at*
 all_goals try simp only [LL,LN,LB] at*
 all_goals (repeat' first | omega | (with_reducible first | assumption | exact True.intro | apply Bw.app | apply Bw.tk | apply Bw.dr | apply Bw.cons | exact Bw.nil | apply Bw.set | apply Bw.rep | apply Bw.rd | apply Al.add | exact Al.nil | apply Al.rd | apply Al.rev | apply Al.cons | apply Ml.cons | exact Ml.nil | apply And.intro) | (simp only [LL,LN,LB] at*;omega) | exact And.right (by with_reducible assumption) | exact And.left (by with_reducible assumption) | with_reducible exact Or.inl True.intro | with_reducible exact Or.inr True.intro)
theorem words_Rol32.t {a:Int} {n:Int} (h0_:True):Tt (fun k=>words_Rol32.f k a n) (fun r=>True):=by
 simp only [words_Rol32.f]
 repeat' with_reducible first | refine Tt.sw fun _ _=> ?_ | refine Tt.sb ?_ | refine Tt.ret ?_ | refine Tt.bind (words_rest.t ?_ ?_) fun _ _=> ?_ | refine Tt.mono (words_rest.t ?_ ?_) fun _ _=> ?_ | refine Tt.dn (fun _=> ?_) ?_ | refine Tt.di (fun _=> ?_) fun _=> ?_ | refine Tt.ite (fun _=> ?_) fun _=> ?_
 all_goals first | omega | (simp only [LL,LN,LB] at*;omega) | skip
 all_goals try simp (disch:=first | omega | (simp only [LL,LN];omega)) only [I64i] at*
 all_goals try simp only [LL,LN,LB] at*
 all_goals (repeat' first | omega | (with_reducible first | assumption | exact True.intro | apply Bw.app | apply Bw.tk | apply Bw.dr | apply Bw.cons | exact Bw.nil | apply Bw.set | apply Bw.rep | apply Bw.rd | apply Al.add | exact Al.nil | apply Al.rd | apply Al.rev | apply Al.cons | apply Ml.cons | exact Ml.nil | apply And.intro) | (simp only [LL,LN,LB] at*;omega) | exact And.right (by with_reducible assumption) | exact And.left (by with_reducible assumption) | with_reducible exact Or.inl True.intro | with_reducible exact Or.inr True.intro)
theorem words_store.l0t (z_:Nat): ∀ {n:Int} {v:Int} {x:Li} {i:Int} (h0_:i≤n) (h1_:x.length=n.toNat) (h2_:n≤1000000) (hn_:i.toNat=z_),Tt (fun k=>words_store.l0 k n v x i) (fun r=>r.length=n.toNat):=by
 induction z_ using Nat.strongRecOn with
 | ind z_ ih=>
 intro n v x i h0_ h1_ h2_ hn_
 refine Tt.succ ?_
 simp only [words_store.l0]
 repeat' with_reducible first | refine Tt.sw fun _ _=> ?_ | refine Tt.sb ?_ | refine Tt.ret ?_ | refine Tt.mono (ih _ ?_ ?_ ?_ ?_ rfl) fun _ _=> ?_ | refine Tt.dn (fun _=> ?_) ?_ | refine Tt.di (fun _=> ?_) fun _=> ?_ | refine Tt.ite (fun _=> ?_) fun _=> ?_
 all_goals first | omega | (simp only [LL,LN,LB] at*;omega) | skip
 all_goals try simp (disch:=first | omega | (simp only [LL,LN];omega)) only [I64i] at*
 all_goals try simp only [LL,LN,LB] at*
 all_goals (repeat' first | omega | (with_reducible first | assumption | exact True.intro | apply Bw.app | apply Bw.tk | apply Bw.dr | apply Bw.cons | exact Bw.nil | apply Bw.set | apply Bw.rep | apply Bw.rd | apply Al.add | exact Al.nil | apply Al.rd | apply Al.rev | apply Al.cons | apply Ml.cons | exact Ml.nil | apply And.intro) | (simp only [LL,LN,LB] at*;omega) | exact And.right (by with_reducible assumption) | exact And.left (by with_reducible assumption) | with_reducible exact Or.inl True.intro | with_reducible exact Or.inr True.intro)
theorem words_store.t {v:Int} {n:Int} (h0_:0≤n) (h1_:n≤1000000):Tt (fun k=>words_store.f k v n) (fun r=>r.length=n.toNat):=by
 simp only [words_store.f]
 repeat' with_reducible first | refine Tt.sw fun _ _=> ?_ | refine Tt.sb ?_ | refine Tt.ret ?_ | refine Tt.mono (words_store.l0t _ ?_ ?_ ?_ rfl) fun _ _=> ?_ | refine Tt.dn (fun _=> ?_) ?_ | refine Tt.di (fun _=> ?_) fun _=> ?_ | refine Tt.ite (fun _=> ?_) fun _=> ?_
 all_goals first | omega | (simp only [LL,LN,LB] at*;omega) | skip
 all_goals try simp (disch:=first | omega | (simp only [LL,LN];omega)) only [I64i] at*
 all_goals try simp only [LL,LN,LB] at*
 all_goals (repeat' first | omega | (with_reducible first | assumption | exact True.intro | apply Bw.app | apply Bw.tk | apply Bw.dr | apply Bw.cons | exact Bw.nil | apply Bw.set | apply Bw.rep | apply Bw.rd | apply Al.add | exact Al.nil | apply Al.rd | apply Al.rev | apply Al.cons | apply Ml.cons | exact Ml.nil | apply And.intro) | (simp only [LL,LN,LB] at*;omega) | exact And.right (by with_reducible assumption) | exact And.left (by with_reducible assumption) | with_reducible exact Or.inl True.intro | with_reducible exact Or.inr True.intro)
theorem words_PutBe32.t {v:Int} (h0_:True):Tt (fun k=>words_PutBe32.f k v) (fun r=>r.length=4):=by
 simp only [words_PutBe32.f]
 repeat' with_reducible first | refine Tt.sw fun _ _=> ?_ | refine Tt.sb ?_ | refine Tt.ret ?_ | refine Tt.bind (words_store.t ?_ ?_) fun _ _=> ?_ | refine Tt.mono (words_store.t ?_ ?_) fun _ _=> ?_ | refine Tt.dn (fun _=> ?_) ?_ | refine Tt.di (fun _=> ?_) fun _=> ?_ | refine Tt.ite (fun _=> ?_) fun _=> ?_
 all_goals first | omega | (simp only [LL,LN,LB] at*;omega) | skip
 all_goals try simp (disch:=first | omega | (simp only [LL,LN];omega)) only [I64i] at*
 all_goals try simp only [LL,LN,LB] at*
 all_goals (repeat' first | omega | (with_reducible first | assumption | exact True.intro | apply Bw.app | apply Bw.tk | apply Bw.dr | apply Bw.cons | exact Bw.nil | apply Bw.set | apply Bw.rep | apply Bw.rd | apply Al.add | exact Al.nil | apply Al.rd | apply Al.rev | apply Al.cons | apply Ml.cons | exact Ml.nil | apply And.intro) | (simp only [LL,LN,LB] at*;omega) | exact And.right (by with_reducible assumption) | exact And.left (by with_reducible assumption) | with_reducible exact Or.inl True.intro | with_reducible exact Or.inr True.intro)
theorem words_PutLe32.t {v:Int} (h0_:True):Tt (fun k=>words_PutLe32.f k v) (fun r=>r.length=4):=by
 simp only [words_PutLe32.f]
 repeat' with_reducible first | refine Tt.sw fun _ _=> ?_ | refine Tt.sb ?_ | refine Tt.ret ?_ | refine Tt.bind (words_PutBe32.t ?_) fun _ _=> ?_ | refine Tt.mono (words_PutBe32.t ?_) fun _ _=> ?_ | refine Tt.bind (words_turned.t ?_) fun _ _=> ?_ | refine Tt.mono (words_turned.t ?_) fun _ _=> ?_ | refine Tt.dn (fun _=> ?_) ?_ | refine Tt.di (fun _=> ?_) fun _=> ?_ | refine Tt.ite (fun _=> ?_) fun _=> ?_
 all_goals first | omega | (simp only [LL,LN,LB] at*;omega) | skip
 all_goals try simp (disch:=first | omega | (simp only [LL,LN];omega)) only [I64i] at*
 all_goals try simp only [LL,LN,LB] at*
 all_goals (repeat' first | omega | (with_reducible first | assumption | exact True.intro | apply Bw.app | apply Bw.tk | apply Bw.dr | apply Bw.cons | exact Bw.nil | apply Bw.set | apply Bw.rep | apply Bw.rd | apply Al.add | exact Al.nil | apply Al.rd | apply Al.rev | apply Al.cons | apply Ml.cons | exact Ml.nil | apply And.intro) | (simp only [LL,LN,LB] at*;omega) | exact And.right (by with_reducible assumption) | exact And.left (by with_reducible assumption) | with_reducible exact Or.inl True.intro | with_reducible exact Or.inr True.intro)
theorem words_PutBe64.t {v:Int} (h0_:True):Tt (fun k=>words_PutBe64.f k v) (fun r=>r.length=8):=by
 simp only [words_PutBe64.f]
 repeat' with_reducible first | refine Tt.sw fun _ _=> ?_ | refine Tt.sb ?_ | refine Tt.ret ?_ | refine Tt.bind (words_store.t ?_ ?_) fun _ _=> ?_ | refine Tt.mono (words_store.t ?_ ?_) fun _ _=> ?_ | refine Tt.dn (fun _=> ?_) ?_ | refine Tt.di (fun _=> ?_) fun _=> ?_ | refine Tt.ite (fun _=> ?_) fun _=> ?_
 all_goals first | omega | (simp only [LL,LN,LB] at*;omega) | skip
 all_goals try simp (disch:=first | omega | (simp only [LL,LN];omega)) only [I64i] at*
 all_goals try simp only [LL,LN,LB] at*
 all_goals (repeat' first | omega | (with_reducible first | assumption | exact True.intro | apply Bw.app | apply Bw.tk | apply Bw.dr | apply Bw.cons | exact Bw.nil | apply Bw.set | apply Bw.rep | apply Bw.rd | apply Al.add | exact Al.nil | apply Al.rd | apply Al.rev | apply Al.cons | apply Ml.cons | exact Ml.nil | apply And.intro) | (simp only [LL,LN,LB] at*;omega) | exact And.right (by with_reducible assumption) | exact And.left (by with_reducible assumption) | with_reducible exact Or.inl True.intro | with_reducible exact Or.inr True.intro)
theorem words_Xor.l0t (z_:Nat): ∀ {a:Li} {b:Li} {x:Li} {i:Int} (h0_:0≤i) (h1_:a.length≤1000000) (h2_:a.length=b.length) (h3_:x.length=a.length) (hn_:(a.length-i.toNat)=z_),Tt (fun k=>words_Xor.l0 k a b x i) (fun r=>r.1.length=a.length∧r.2=true):=by
 induction z_ using Nat.strongRecOn with
 | ind z_ ih=>
 intro a b x i h0_ h1_ h2_ h3_ hn_
 refine Tt.succ ?_
 simp only [words_Xor.l0]
 repeat' with_reducible first | refine Tt.sw fun _ _=> ?_ | refine Tt.sb ?_ | refine Tt.ret ?_ | refine Tt.mono (ih _ ?_ ?_ ?_ ?_ ?_ rfl) fun _ _=> ?_ | refine Tt.dn (fun _=> ?_) ?_ | refine Tt.di (fun _=> ?_) fun _=> ?_ | refine Tt.ite (fun _=> ?_) fun _=> ?_
 all_goals first | omega | (simp only [LL,LN,LB] at*;omega) | skip
 all_goals try simp (disch:=first | omega | (simp only [LL,LN];omega)) only [I64i] at*
 all_goals try simp only [LL,LN,LB] at*
 all_goals (repeat' first | omega | (with_reducible first | assumption | exact True.intro | apply Bw.app | apply Bw.tk | apply Bw.dr | apply Bw.cons | exact Bw.nil | apply Bw.set | apply Bw.rep | apply Bw.rd | apply Al.add | exact Al.nil | apply Al.rd | apply Al.rev | apply Al.cons | apply Ml.cons | exact Ml.nil | apply And.intro) | (simp only [LL,LN,LB] at*;omega) | exact And.right (by with_reducible assumption) | exact And.left (by with_reducible assumption) | with_reducible exact Or.inl True.intro | with_reducible exact Or.inr True.intro)
theorem words_Xor.t {a:Li} {b:Li} (h0_:a.length≤1000000):Tt (fun k=>words_Xor.f k a b) (fun r=>r.1.length≤a.length∧(a.length=b.length→r.1.length=a.length)):=by
 simp only [words_Xor.f]
 repeat' with_reducible first | refine Tt.sw fun _ _=> ?_ | refine Tt.sb ?_ | refine Tt.ret ?_ | refine Tt.mono (words_Xor.l0t _ ?_ ?_ ?_ ?_ rfl) fun _ _=> ?_ | refine Tt.dn (fun _=> ?_) ?_ | refine Tt.di (fun _=> ?_) fun _=> ?_ | refine Tt.ite (fun _=> ?_) fun _=> ?_
 all_goals first | omega | (simp only [LL,LN,LB] at*;omega) | skip
 all_goals try simp (disch:=first | omega | (simp only [LL,LN];omega)) only [I64i] at*
 all_goals try simp only [LL,LN,LB] at*
 all_goals (repeat' first | omega | (with_reducible first | assumption | exact True.intro | apply Bw.app | apply Bw.tk | apply Bw.dr | apply Bw.cons | exact Bw.nil | apply Bw.set | apply Bw.rep | apply Bw.rd | apply Al.add | exact Al.nil | apply Al.rd | apply Al.rev | apply Al.cons | apply Ml.cons | exact Ml.nil | apply And.intro) | (simp only [LL,LN,LB] at*;omega) | exact And.right (by with_reducible assumption) | exact And.left (by with_reducible assumption) | with_reducible exact Or.inl True.intro | with_reducible exact Or.inr True.intro)
end Go.Scr.S

namespace Go.Scr.S
theorem bits_Permute.l0t (z_:Nat): ∀ {a0:Li} {a1:Li} {y1:Int} {x:Li} {i:Int} (h0_:0≤i) (h1_:a1.length≤1000) (h2_:a0.length≤1000) (h3_:Bw 1 (8*a0.length) a1) (h4_:x.length=(a1.length+7)/8) (h5_:y1=(a1.length+7)/8) (hn_:(a1.length-i.toNat)=z_),Tt (fun k=>bits_Permute.l0 k a0 a1 y1 x i) (fun r=>r.1.length=(a1.length+7)/8):=by
 induction z_ using Nat.strongRecOn with
 | ind z_ ih=>
 intro a0 a1 y1 x i h0_ h1_ h2_ h3_ h4_ h5_ hn_
 refine Tt.succ ?_
 simp only [bits_Permute.l0]
 repeat' with_reducible first | refine Tt.sw fun _ _=> ?_ | refine Tt.sb ?_ | refine Tt.ret ?_ | refine Tt.bind (bits_Bit.t ?_ ?_) fun _ _=> ?_ | refine Tt.mono (bits_Bit.t ?_ ?_) fun _ _=> ?_ | refine Tt.mono (ih _ ?_ ?_ ?_ ?_ ?_ ?_ ?_ rfl) fun _ _=> ?_ | refine Tt.dn (fun _=> ?_) ?_ | refine Tt.di (fun _=> ?_) fun _=> ?_ | refine Tt.ite (fun _=> ?_) fun _=> ?_
 all_goals first | omega | (assumption;done) | ((have b_:=Bw.rd h3_ (i:=i) (by omega) (by omega);(try simp only [LL,LN] at*);omega);done) | (simp only [LL,LN,LB] at*;omega) | skip
 all_goals try simp (disch:=first | omega | (simp only [LL,LN];omega)) only [I64i] at*
 all_goals try simp only [LL,LN,LB] at*
 all_goals (repeat' first | omega | (with_reducible first | assumption | exact True.intro | apply Bw.app | apply Bw.tk | apply Bw.dr | apply Bw.cons | exact Bw.nil | apply Bw.set | apply Bw.rep | apply Bw.rd | apply Al.add | exact Al.nil | apply Al.rd | apply Al.rev | apply Al.cons | apply Ml.cons | exact Ml.nil | apply And.intro) | (simp only [LL,LN,LB] at*;omega) | exact And.right (by with_reducible assumption) | exact And.left (by with_reducible assumption) | with_reducible exact Or.inl True.intro | with_reducible exact Or.inr True.intro | assumption | (have b_:=Bw.rd h3_ (i:=i) (by omega) (by omega);(try simp only [LL,LN] at*);omega))
theorem bits_Permute.t {a0:Li} {a1:Li} (h0_:a1.length≤1000) (h1_:a0.length≤1000) (h2_:Bw 1 (8*a0.length) a1):Tt (fun k=>bits_Permute.f k a0 a1) (fun r=>r.1.length=(a1.length+7)/8):=by
 simp only [bits_Permute.f]
 repeat' with_reducible first | refine Tt.sw fun _ _=> ?_ | refine Tt.sb ?_ | refine Tt.ret ?_ | refine Tt.mono (bits_Permute.l0t _ ?_ ?_ ?_ ?_ ?_ ?_ rfl) fun _ _=> ?_ | refine Tt.dn (fun _=> ?_) ?_ | refine Tt.di (fun _=> ?_) fun _=> ?_ | refine Tt.ite (fun _=> ?_) fun _=> ?_
 all_goals first | omega | (assumption;done) | (simp only [LL,LN,LB] at*;omega) | skip
 all_goals try simp (disch:=first | omega | (simp only [LL,LN];omega)) only [I64i] at*
 all_goals try simp only [LL,LN,LB] at*
 all_goals (repeat' first | omega | (with_reducible first | assumption | exact True.intro | apply Bw.app | apply Bw.tk | apply Bw.dr | apply Bw.cons | exact Bw.nil | apply Bw.set | apply Bw.rep | apply Bw.rd | apply Al.add | exact Al.nil | apply Al.rd | apply Al.rev | apply Al.cons | apply Ml.cons | exact Ml.nil | apply And.intro) | (simp only [LL,LN,LB] at*;omega) | exact And.right (by with_reducible assumption) | exact And.left (by with_reducible assumption) | with_reducible exact Or.inl True.intro | with_reducible exact Or.inr True.intro | assumption)
theorem slices_Clone_int_int.e {a:Li} (h:a.length≤1000000):Ev (fun k=>slices_Clone_int_int.f k a) a:=by
 simp only [slices_Clone_int_int.f]
 exact Ev.gd (by simp only [LN];omega) (Ev.ret _)
def ipT:Li:=[58,50,42,34,26,18,10,2,60,52,44,36,28,20,12,4,62,54,46,38,30,22,14,6,64,56,48,40,32,24,16,8,57,49,41,33,25,17,9,1,59,51,43,35,27,19,11,3,61,53,45,37,29,21,13,5,63,55,47,39,31,23,15,7]
def fpT:Li:=[40,8,48,16,56,24,64,32,39,7,47,15,55,23,63,31,38,6,46,14,54,22,62,30,37,5,45,13,53,21,61,29,36,4,44,12,52,20,60,28,35,3,43,11,51,19,59,27,34,2,42,10,50,18,58,26,33,1,41,9,49,17,57,25]
def weT:Li:=[32,1,2,3,4,5,4,5,6,7,8,9,8,9,10,11,12,13,12,13,14,15,16,17,16,17,18,19,20,21,20,21,22,23,24,25,24,25,26,27,28,29,28,29,30,31,32,1]
def c1T:Li:=[57,49,41,33,25,17,9,1,58,50,42,34,26,18,10,2,59,51,43,35,27,19,11,3,60,52,44,36,63,55,47,39,31,23,15,7,62,54,46,38,30,22,14,6,61,53,45,37,29,21,13,5,28,20,12,4]
def c2T:Li:=[14,17,11,24,1,5,3,28,15,6,21,10,23,19,12,4,26,8,16,7,27,20,13,2,41,52,31,37,47,55,30,40,51,45,33,48,44,49,39,56,34,53,46,42,50,36,29,32]
theorem des_first.t:Tt (fun k=>des_first.f k) (fun r=>r=ipT):=(Ev.of 200 (fun m=>by kernel_rfl)).tt
theorem des_wide.t:Tt (fun k=>des_wide.f k) (fun r=>r=weT):=(Ev.of 200 (fun m=>by kernel_rfl)).tt
theorem des_chosen.t:Tt (fun k=>des_chosen.f k) (fun r=>r=(c1T,c2T)):=(Ev.of 200 (fun m=>by kernel_rfl)).tt
theorem bits_Invert.t:Tt (fun k=>bits_Invert.f k ipT) (fun r=>r=(fpT,true)):=(Ev.of 200 (fun m=>by kernel_rfl)).tt
end Go.Scr.S
