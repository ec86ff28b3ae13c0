/- Plain functions that answer, whatever comes in: keys, cuts, paddings. -/
import Derived.Test.YtdemmfohkhpklaaGreatDoorFd
import Derived.Test.YtdemmfohkhpklaaGreatDoorPt
import Derived.Test.YtdemmfohkhpklaaGreatDoorPa
import Derived.Test.YtdemmfohkhpklaaGreatDoorFe
import Derived.Test.YtdemmfohkhpklaaGreatDoorPg
import Derived.Test.YtdemmfohkhpklaaGreatDoorPb
set_option linter.unusedVariables false
set_option linter.unusedSimpArgs false
set_option maxRecDepth 10000
namespace Go.Scr.S
theorem Yg.l0t (z_:Nat): ∀ {n:Int} {x:Li} {i:Int} (h0_:0≤i) (h1_:n≤1000) (h2_:x.length=n.toNat) (h3_:Bw 0 255 x) (hn_:(n-i).toNat=z_),Tt (fun k=>Yg.l0 k n x i) (fun r=>r.length=n.toNat∧Bw 0 255 r):=by
 induction z_ using Nat.strongRecOn with
 | ind z_ ih=>
 intro n x i h0_ h1_ h2_ h3_ hn_
 refine Tt.succ ?_
 simp only [Yg.l0]
 repeat' with_reducible first | refine Tt.sw fun _ _=> ?_ | refine Tt.sb ?_ | refine Tt.ret ?_ | refine Tt.mono (ih _ ?_ ?_ ?_ ?_ ?_ rfl) fun _ _=> ?_ | refine Tt.dn (fun _=> ?_) ?_ | refine Tt.di (fun _=> ?_) fun _=> ?_ | refine Tt.ite (fun _=> ?_) fun _=> ?_
 all_goals exact fin_
theorem Yg.t {n:Int} {a:Li} (h0_:0≤n) (h1_:n≤1000) (h2_:Bw 0 255 a):Tt (fun k=>Yg.f k n a) (fun r=>r.length=n.toNat∧Bw 0 255 r):=by
 simp only [Yg.f]
 repeat' with_reducible first | refine Tt.sw fun _ _=> ?_ | refine Tt.sb ?_ | refine Tt.ret ?_ | refine Tt.mono (Yg.l0t _ ?_ ?_ ?_ ?_ rfl) fun _ _=> ?_ | refine Tt.dn (fun _=> ?_) ?_ | refine Tt.di (fun _=> ?_) fun _=> ?_ | refine Tt.ite (fun _=> ?_) fun _=> ?_
 all_goals exact fin_
theorem within_t {a n:Int} (h0:0<n) (h1:n≤1000000):Tt (fun k=>Yj.f k a n) (fun r=>0≤r∧r<n):=by
 simp only [Yj.f]
 have h2:=tm1 (a:=a) h0
 have h3:=tm2 (a:=a) h0
 refine Tt.gn (by omega) (Tt.di (fun _=>Tt.ret ?_) (fun _=>Tt.ret ⟨by omega,h2⟩))
 rw [I64i (by omega)];omega
theorem within12_t {a n:Int} (h0:0<n) (h1:n≤1000000):Tt (fun k=>Yn.f k a n) (fun r=>0≤r∧r<n):=by
 simp only [Yn.f]
 have h2:=tm1 (a:=a) h0
 have h3:=tm2 (a:=a) h0
 refine Tt.gn (by omega) (Tt.di (fun _=>Tt.ret ?_) (fun _=>Tt.ret ⟨by omega,h2⟩))
 rw [I64i (by omega)];omega
theorem Tag_t {a:Int}:Tt (fun k=>Yi.f k a) (fun r=>1≤r∧r≤8):=by
 simp only [Yi.f]
 refine Tt.bind (within_t (by decide) (by decide)) (fun r hr=>Tt.ret ?_)
 rw [I64i (by omega)];omega
end Go.Scr.S

namespace Go.Scr.S
def szT (t : Int) : Nat := if t = 6 ∨ t = 7 then 16 else 8
theorem Key_of {t n : Int} {ks L : List Int} (hL : ∀ k, Yr.f k t = some L) (h0 : 0 < L.length) (h1 : L.length ≤ 3) (hv : ∀ v ∈ L, (0 ≤ v ∧ v ≤ 32) ∧ Vd t v.toNat (szT t)) (hb : Bw 0 255 ks) :
    Tt (fun k => Yh.f k t n ks) (fun r => Bw 0 255 r ∧ Vd t r.length (szT t)) := by
  simp only [Yh.f, hL]
  refine Tt.sb (Tt.bind (within_t (by omega) (by omega)) (fun j hj => ?_))
  refine Tt.gd hj.1 (Tt.gd hj.2 ?_)
  have hm : Scr.rd L j ∈ L := by
    have : j.toNat < L.length := by omega
    unfold Scr.rd
    rw [List.getD_eq_getElem?_getD, List.getElem?_eq_getElem this]; exact List.getElem_mem _
  obtain ⟨⟨h2, h3⟩, h4⟩ := hv _ hm
  exact Tt.bind (Yg.t h2 (by omega) hb) (fun r hr => Tt.ret ⟨hr.2, by rw [hr.1]; exact h4⟩)
theorem Key_t {t n : Int} {ks : List Int} (h : 1 ≤ t) (h' : t ≤ 8) (hb : Bw 0 255 ks) : Tt (fun k => Yh.f k t n ks) (fun r => Bw 0 255 r ∧ Vd t r.length (szT t)) := by
  have c : t = 1 ∨ t = 2 ∨ t = 3 ∨ t = 4 ∨ t = 5 ∨ t = 6 ∨ t = 7 ∨ t = 8 := by omega
  rcases c with rfl | rfl | rfl | rfl | rfl | rfl | rfl | rfl
  · exact Key_of (L := [8]) (fun _ => rfl) (by decide) (by decide) (by simp [Vd, szT]) hb
  · exact Key_of (L := [16, 24]) (fun _ => rfl) (by decide) (by decide) (by simp [Vd, szT]) hb
  · exact Key_of (L := [16]) (fun _ => rfl) (by decide) (by decide) (by simp [Vd, szT]) hb
  · exact Key_of (L := [16]) (fun _ => rfl) (by decide) (by decide) (by simp [Vd, szT]) hb
  · exact Key_of (L := [32]) (fun _ => rfl) (by decide) (by decide) (by simp [Vd, szT]) hb
  · exact Key_of (L := [16, 24, 32]) (fun _ => rfl) (by decide) (by decide) (by simp [Vd, szT]) hb
  · exact Key_of (L := [16, 24, 32]) (fun _ => rfl) (by decide) (by decide) (by simp [Vd, szT]) hb
  · exact Key_of (L := [16]) (fun _ => rfl) (by decide) (by decide) (by simp [Vd, szT]) hb
theorem Size_e {t : Int} (h : 1 ≤ t) (h' : t ≤ 8) : Ev (fun k => Ys.f k t) (szT t : Int) := by
  have c : t = 1 ∨ t = 2 ∨ t = 3 ∨ t = 4 ∨ t = 5 ∨ t = 6 ∨ t = 7 ∨ t = 8 := by omega
  rcases c with rfl | rfl | rfl | rfl | rfl | rfl | rfl | rfl <;> exact ⟨0, fun _ _ => rfl⟩
theorem mn_b {x : Int} {n : Nat} (h : 0 ≤ x) : 0 ≤ mn x n ∧ mn x n ≤ n := by unfold mn; split <;> omega
theorem Cut_l0 (z_ : Nat) : ∀ {ns x : List Int} {y : List (List Int)} {i : Int} (_ : 0 ≤ i) (_ : i ≤ 40) (_ : (y.length : Int) = i) (_ : (40 - i).toNat = z_), Tt (fun k => Yk.l0 k ns x y i) (fun r => r.flatten = y.flatten ++ x ∧ r.length ≤ 41) := by
  induction z_ using Nat.strongRecOn with
  | ind z_ ih =>
  intro ns x y i h0 h1 h2 hn
  refine Tt.succ ?_
  simp only [Yk.l0]
  have fin : Tt (fun _ => some (y ++ ([x] : List (List Int)))) (fun r => r.flatten = y.flatten ++ x ∧ r.length ≤ 41) := Tt.ret ⟨by simp, by simp; omega⟩
  have cut : ∀ m : Int, 0 ≤ m → m ≤ (x.length : Int) → i < 40 → Tt (fun k => Yk.l0 k ns ((x.take ((x.length : Int) : Int).toNat).drop (m : Int).toNat) (y ++ ([((x.take (m : Int).toNat).drop (0 : Int).toNat)] : List (List Int))) (I64 (i + 1))) (fun r => r.flatten = y.flatten ++ x ∧ r.length ≤ 41) := fun m _ _ hi => by
    rw [I64i (by omega)]
    refine Tt.mono (ih _ (by omega) (by omega) (by omega) (by simp only [LN]; omega) rfl) (fun r hr => ⟨?_, hr.2⟩)
    rw [hr.1, List.flatten_append, List.append_assoc]
    simp
  refine Tt.di (fun hi => ?_) (fun _ => Tt.gd (by simp only [LN]; omega) fin)
  refine Tt.di (fun hj => ?_) (fun _ => Tt.gd (by simp only [LN]; omega) fin)
  refine Tt.gd h0 (Tt.gd hi (Tt.bind (within12_t (by decide) (by decide)) (fun a ha => Tt.gd h0 (Tt.gd hi (Tt.bind (within12_t (by decide) (by decide)) (fun b _ => ?_))))))
  refine Tt.ite (fun _ => ?_) (fun _ => ?_)
  · refine Tt.gd h0 (Tt.gd hi (Tt.bind (within12_t (by decide) (by decide)) (fun c hc => ?_)))
    have hm := mn_b (x := I64 (8 * c)) (n := x.length) (by rw [I64i (by omega)]; omega)
    exact Tt.gd hm.1 (Tt.gd hm.2 (Tt.gd hm.1 (Tt.gd hm.2 (Tt.gd (by simp only [LN]; omega) (cut _ hm.1 hm.2 hj)))))
  · have hm := mn_b (x := a) (n := x.length) ha.1
    exact Tt.gd hm.1 (Tt.gd hm.2 (Tt.gd hm.1 (Tt.gd hm.2 (Tt.gd (by simp only [LN]; omega) (cut _ hm.1 hm.2 hj)))))
theorem Cut_t {x ns : List Int} : Tt (fun k => Yk.f k x ns) (fun r => r.flatten = x ∧ r.length ≤ 41) := by
  simp only [Yk.f]
  exact (Cut_l0 _ (Int.le_refl 0) (by decide) rfl rfl).mono fun r hr => ⟨by rw [hr.1]; rfl, hr.2⟩
end Go.Scr.S

namespace Go.Scr.S
theorem Yz.e {a:Li} (h:a.length≤1000000000):Ev (fun k=>Yz.f k a) a:=by
 simp only [Yz.f]
 exact Ev.gd (by simp only [LN];omega) (Ev.ret _)
theorem K6.l0t (z_:Nat): ∀ {a:Li} {x:Li} {i:Int} (h0_:x.length=a.length) (h1_:a.length≤100000) (h2_:i≤a.length) (hn_:i.toNat=z_),Tt (fun k=>K6.l0 k a x i) (fun r=>r.length=a.length):=by
 induction z_ using Nat.strongRecOn with
 | ind z_ ih=>
 intro a x i h0_ h1_ h2_ hn_
 refine Tt.succ ?_
 simp only [K6.l0]
 repeat' with_reducible first | refine Tt.sw fun _ _=> ?_ | refine Tt.sb ?_ | refine Tt.ret ?_ | refine Tt.mono (ih _ ?_ ?_ ?_ ?_ rfl) fun _ _=> ?_ | refine Tt.dn (fun _=> ?_) ?_ | refine Tt.di (fun _=> ?_) fun _=> ?_ | refine Tt.ite (fun _=> ?_) fun _=> ?_
 all_goals exact fin_
theorem K6.t {a:Li} (h0_:a.length≤100000):Tt (fun k=>K6.f k a) (fun r=>r.length=a.length):=by
 simp only [K6.f]
 repeat' with_reducible first | refine Tt.sw fun _ _=> ?_ | refine Tt.sb ?_ | refine Tt.ret ?_ | refine Tt.mono (K6.l0t _ ?_ ?_ ?_ rfl) fun _ _=> ?_ | refine Tt.dn (fun _=> ?_) ?_ | refine Tt.di (fun _=> ?_) fun _=> ?_ | refine Tt.ite (fun _=> ?_) fun _=> ?_
 all_goals exact fin_
theorem Kr.l0t (z_:Nat): ∀ {a:Li} {t:Li} {x:Li} {i:Int} (h0_:0≤i) (h1_:a.length≤t.length) (h2_:x.length=t.length) (h3_:t.length≤100000) (hn_:(a.length-i.toNat)=z_),Tt (fun k=>Kr.l0 k a t x i) (fun r=>r.length=t.length):=by
 induction z_ using Nat.strongRecOn with
 | ind z_ ih=>
 intro a t x i h0_ h1_ h2_ h3_ hn_
 refine Tt.succ ?_
 simp only [Kr.l0]
 repeat' with_reducible first | refine Tt.sw fun _ _=> ?_ | refine Tt.sb ?_ | refine Tt.ret ?_ | refine Tt.mono (ih _ ?_ ?_ ?_ ?_ ?_ rfl) fun _ _=> ?_ | refine Tt.dn (fun _=> ?_) ?_ | refine Tt.di (fun _=> ?_) fun _=> ?_ | refine Tt.ite (fun _=> ?_) fun _=> ?_
 all_goals exact fin_
theorem Kr.l1t (z_:Nat): ∀ {a:Li} {t:Li} {x:Li} {i:Int} (h0_:0≤i) (h1_:a.length≤t.length) (h2_:x.length=t.length) (h3_:t.length≤100000) (hn_:(a.length-i.toNat)=z_),Tt (fun k=>Kr.l1 k a t x i) (fun r=>r.length=t.length):=by
 induction z_ using Nat.strongRecOn with
 | ind z_ ih=>
 intro a t x i h0_ h1_ h2_ h3_ hn_
 refine Tt.succ ?_
 simp only [Kr.l1]
 repeat' with_reducible first | refine Tt.sw fun _ _=> ?_ | refine Tt.sb ?_ | refine Tt.ret ?_ | refine Tt.mono (ih _ ?_ ?_ ?_ ?_ ?_ rfl) fun _ _=> ?_ | refine Tt.dn (fun _=> ?_) ?_ | refine Tt.di (fun _=> ?_) fun _=> ?_ | refine Tt.ite (fun _=> ?_) fun _=> ?_
 all_goals exact fin_
theorem Kr.t {a:Li} {b:Li} (h0_:a.length≤100000) (h1_:b.length≤100000):Tt (fun k=>Kr.f k a b) (fun r=>r.length=max a.length b.length):=by
 simp only [Kr.f]
 repeat' with_reducible first | refine Tt.sw fun _ _=> ?_ | refine Tt.sb ?_ | refine Tt.ret ?_ | refine Tt.ebind (Yz.e ?_) ?_ | refine Tt.mono (Kr.l0t _ ?_ ?_ ?_ ?_ rfl) fun _ _=> ?_ | refine Tt.mono (Kr.l1t _ ?_ ?_ ?_ ?_ rfl) fun _ _=> ?_ | refine Tt.dn (fun _=> ?_) ?_ | refine Tt.di (fun _=> ?_) fun _=> ?_ | refine Tt.ite (fun _=> ?_) fun _=> ?_
 all_goals exact fin_
theorem Ye.t {a:Int} (h0_:True):Tt (fun k=>Ye.f k a) (fun r=>True):=by
 simp only [Ye.f]
 repeat' with_reducible first | refine Tt.sw fun _ _=> ?_ | refine Tt.sb ?_ | refine Tt.ret ?_ | refine Tt.dn (fun _=> ?_) ?_ | refine Tt.di (fun _=> ?_) fun _=> ?_ | refine Tt.ite (fun _=> ?_) fun _=> ?_
 all_goals exact fin_
theorem Yd.t {a:Int} (h0_:True):Tt (fun k=>Yd.f k a) (fun r=>True):=by
 simp only [Yd.f]
 repeat' with_reducible first | refine Tt.sw fun _ _=> ?_ | refine Tt.sb ?_ | refine Tt.ret ?_ | refine Tt.dn (fun _=> ?_) ?_ | refine Tt.di (fun _=> ?_) fun _=> ?_ | refine Tt.ite (fun _=> ?_) fun _=> ?_
 all_goals exact fin_
theorem Yc.l0t (z_:Nat): ∀ {n:Int} {x:Li} {i:Int} (h0_:0≤i) (h1_:1≤n) (h2_:n≤100000) (h3_:x.length=n.toNat) (hn_:(n-i).toNat=z_),Tt (fun k=>Yc.l0 k n x i) (fun r=>r.length=n.toNat):=by
 induction z_ using Nat.strongRecOn with
 | ind z_ ih=>
 intro n x i h0_ h1_ h2_ h3_ hn_
 refine Tt.succ ?_
 simp only [Yc.l0]
 repeat' with_reducible first | refine Tt.sw fun _ _=> ?_ | refine Tt.sb ?_ | refine Tt.ret ?_ | refine Tt.mono (ih _ ?_ ?_ ?_ ?_ ?_ rfl) fun _ _=> ?_ | refine Tt.dn (fun _=> ?_) ?_ | refine Tt.di (fun _=> ?_) fun _=> ?_ | refine Tt.ite (fun _=> ?_) fun _=> ?_
 all_goals exact fin_
theorem Yc.t {kind:Int} {n:Int} (h0_:1≤n) (h1_:n≤100000):Tt (fun k=>Yc.f k kind n) (fun r=>r.length=n.toNat):=by
 simp only [Yc.f]
 repeat' with_reducible first | refine Tt.sw fun _ _=> ?_ | refine Tt.sb ?_ | refine Tt.ret ?_ | refine Tt.mono (Yc.l0t _ ?_ ?_ ?_ ?_ rfl) fun _ _=> ?_ | refine Tt.dn (fun _=> ?_) ?_ | refine Tt.di (fun _=> ?_) fun _=> ?_ | refine Tt.ite (fun _=> ?_) fun _=> ?_
 all_goals exact fin_
theorem V9.t {kind:Int} {n:Int} {b:Li} (h0_:0≤n) (h1_:n≤1000):Tt (fun k=>V9.f k kind n b) (fun r=>r.1.length≤1000):=by
 simp only [V9.f]
 repeat' with_reducible first | refine Tt.sw fun _ _=> ?_ | refine Tt.sb ?_ | refine Tt.ret ?_ | refine Tt.bind (Ye.t ?_) fun _ _=> ?_ | refine Tt.mono (Ye.t ?_) fun _ _=> ?_ | refine Tt.bind (Yd.t ?_) fun _ _=> ?_ | refine Tt.mono (Yd.t ?_) fun _ _=> ?_ | refine Tt.bind (Yc.t ?_ ?_) fun _ _=> ?_ | refine Tt.mono (Yc.t ?_ ?_) fun _ _=> ?_ | refine Tt.ebind (Concat.e ?_ ?_) ?_ | refine Tt.dn (fun _=> ?_) ?_ | refine Tt.di (fun _=> ?_) fun _=> ?_ | refine Tt.ite (fun _=> ?_) fun _=> ?_
 all_goals exact fin_
theorem Qu.t {a:Li} {b:Li} (h0_:True):Tt (fun k=>Qu.f k a b) (fun r=>True):=by
 simp only [Qu.f]
 repeat' with_reducible first | refine Tt.sw fun _ _=> ?_ | refine Tt.sb ?_ | refine Tt.ret ?_ | refine Tt.dn (fun _=> ?_) ?_ | refine Tt.di (fun _=> ?_) fun _=> ?_ | refine Tt.ite (fun _=> ?_) fun _=> ?_
 all_goals exact fin_
theorem Qt.l0t (z_:Nat): ∀ {a:Li} {v:Int} {i:Int} (h0_: -1≤i) (h1_:i<a.length) (h2_:a.length≤100000) (hn_:(i+1).toNat=z_),Tt (fun k=>Qt.l0 k a v i) (fun r=> -1≤r∧r<a.length):=by
 induction z_ using Nat.strongRecOn with
 | ind z_ ih=>
 intro a v i h0_ h1_ h2_ hn_
 refine Tt.succ ?_
 simp only [Qt.l0]
 repeat' with_reducible first | refine Tt.sw fun _ _=> ?_ | refine Tt.sb ?_ | refine Tt.ret ?_ | refine Tt.mono (ih _ ?_ ?_ ?_ ?_ rfl) fun _ _=> ?_ | refine Tt.dn (fun _=> ?_) ?_ | refine Tt.di (fun _=> ?_) fun _=> ?_ | refine Tt.ite (fun _=> ?_) fun _=> ?_
 all_goals exact fin_
theorem Qt.t {a:Li} {v:Int} (h0_:a.length≤100000):Tt (fun k=>Qt.f k a v) (fun r=> -1≤r∧r<a.length):=by
 simp only [Qt.f]
 repeat' with_reducible first | refine Tt.sw fun _ _=> ?_ | refine Tt.sb ?_ | refine Tt.ret ?_ | refine Tt.mono (Qt.l0t _ ?_ ?_ ?_ rfl) fun _ _=> ?_ | refine Tt.dn (fun _=> ?_) ?_ | refine Tt.di (fun _=> ?_) fun _=> ?_ | refine Tt.ite (fun _=> ?_) fun _=> ?_
 all_goals exact fin_
theorem Qv.t {a:Li} {v:Int} (h0_:a.length≤100000):Tt (fun k=>Qv.f k a v) (fun r=> -1≤r∧r<a.length):=by
 simp only [Qv.f]
 repeat' with_reducible first | refine Tt.sw fun _ _=> ?_ | refine Tt.sb ?_ | refine Tt.ret ?_ | refine Tt.bind (Qt.t ?_) fun _ _=> ?_ | refine Tt.mono (Qt.t ?_) fun _ _=> ?_ | refine Tt.dn (fun _=> ?_) ?_ | refine Tt.di (fun _=> ?_) fun _=> ?_ | refine Tt.ite (fun _=> ?_) fun _=> ?_
 all_goals exact fin_
theorem Yb.l0t (z_:Nat): ∀ {kind:Int} {b:Li} (h0_:1≤b.length) (h1_:b.length≤1000) (hn_:0=z_),Tt (fun k=>Yb.l0 k kind b) (fun r=>0≤r∧r≤b.length):=by
 induction z_ using Nat.strongRecOn with
 | ind z_ ih=>
 intro kind b h0_ h1_ hn_
 refine Tt.succ ?_
 simp only [Yb.l0]
 repeat' with_reducible first | refine Tt.sw fun _ _=> ?_ | refine Tt.sb ?_ | refine Tt.ret ?_ | refine Tt.bind (Qv.t ?_) fun _ _=> ?_ | refine Tt.mono (Qv.t ?_) fun _ _=> ?_ | refine Tt.bind (Yc.t ?_ ?_) fun _ _=> ?_ | refine Tt.mono (Yc.t ?_ ?_) fun _ _=> ?_ | refine Tt.bind (Qu.t ?_) fun _ _=> ?_ | refine Tt.mono (Qu.t ?_) fun _ _=> ?_ | refine Tt.mono (ih _ ?_ ?_ ?_ rfl) fun _ _=> ?_ | refine Tt.dn (fun _=> ?_) ?_ | refine Tt.di (fun _=> ?_) fun _=> ?_ | refine Tt.ite (fun _=> ?_) fun _=> ?_
 all_goals exact fin_
theorem Yb.t {kind:Int} {b:Li} (h0_:1≤b.length) (h1_:b.length≤1000):Tt (fun k=>Yb.f k kind b) (fun r=>0≤r∧r≤b.length):=by
 simp only [Yb.f]
 repeat' with_reducible first | refine Tt.sw fun _ _=> ?_ | refine Tt.sb ?_ | refine Tt.ret ?_ | refine Tt.mono (Yb.l0t _ ?_ ?_ rfl) fun _ _=> ?_ | refine Tt.bind (Yc.t ?_ ?_) fun _ _=> ?_ | refine Tt.mono (Yc.t ?_ ?_) fun _ _=> ?_ | refine Tt.bind (Qu.t ?_) fun _ _=> ?_ | refine Tt.mono (Qu.t ?_) fun _ _=> ?_ | refine Tt.dn (fun _=> ?_) ?_ | refine Tt.di (fun _=> ?_) fun _=> ?_ | refine Tt.ite (fun _=> ?_) fun _=> ?_
 all_goals exact fin_
theorem Ya.t {kind:Int} {n:Int} {b:Li} (h0_:1≤n) (h1_:n≤1000):Tt (fun k=>Ya.f k kind n b) (fun r=>r.1.length≤1000):=by
 simp only [Ya.f]
 repeat' with_reducible first | refine Tt.sw fun _ _=> ?_ | refine Tt.sb ?_ | refine Tt.ret ?_ | refine Tt.bind (Ye.t ?_) fun _ _=> ?_ | refine Tt.mono (Ye.t ?_) fun _ _=> ?_ | refine Tt.bind (Yd.t ?_) fun _ _=> ?_ | refine Tt.mono (Yd.t ?_) fun _ _=> ?_ | refine Tt.bind (Yb.t ?_ ?_) fun _ _=> ?_ | refine Tt.mono (Yb.t ?_ ?_) fun _ _=> ?_ | refine Tt.ebind (Yz.e ?_) ?_ | refine Tt.dn (fun _=> ?_) ?_ | refine Tt.di (fun _=> ?_) fun _=> ?_ | refine Tt.ite (fun _=> ?_) fun _=> ?_
 all_goals exact fin_
end Go.Scr.S

namespace Go.Scr.S
abbrev MT := Option CT × Int × Bool × List Int × List Int × List Int
/-- A cipher that stands. -/
def Cz (c : CT) : Prop := Cw (szT c.1) c ∧ 1 ≤ c.1 ∧ c.1 ≤ 8
theorem Cz.sz {c : CT} : 8 ≤ szT c.1 ∧ szT c.1 ≤ 16 := by unfold szT; split <;> omega
theorem size_e {c : CT} {t : Int} (h : 1 ≤ t) (h' : t ≤ 8) (hc : c.1 = t) (k : Nat) : Qy.f k c = some (szT t : Int) := by
  obtain ⟨u, c⟩ := c
  have hc' : u = t := hc
  subst hc'
  have c : u = 1 ∨ u = 2 ∨ u = 3 ∨ u = 4 ∨ u = 5 ∨ u = 6 ∨ u = 7 ∨ u = 8 := by omega
  rcases c with rfl | rfl | rfl | rfl | rfl | rfl | rfl | rfl <;> rfl
theorem Qy.e {c : CT} (h : Cz c) : Ev (fun k => Qy.f k c) (szT c.1 : Int) := Ev.of 0 fun m => size_e h.2.1 h.2.2 rfl _
theorem Qx.z {c : CT} {a : List Int} (h : Cz c) (ha : a.length = szT c.1) : Tt (fun k => Qx.f k c a) (fun r => r.1.length = szT c.1) := (Qx.t h.1 ha).mono fun _ q => q.1
theorem Qw.z {c : CT} {a : List Int} (h : Cz c) (ha : a.length = szT c.1) : Tt (fun k => Qw.f k c a) (fun r => r.1.length = szT c.1) := (Qw.t h.1 ha).mono fun _ q => q.1
end Go.Scr.S

namespace Go.Scr.S
theorem Kp.t {c:CT} {s:Bool} {l:Li} {b:Li} (h0_:Cz c) (h1_:l.length=szT c.1) (h2_:szT c.1≤b.length) (h3_:b.length≤2*szT c.1) (h4_:8≤szT c.1) (h5_:szT c.1≤16):Tt (fun k=>Kp.f k c s l b) (fun r=>r.length≤1000):=by
 simp only [Kp.f]
 repeat' with_reducible first | refine Tt.sw fun _ _=> ?_ | refine Tt.sb ?_ | refine Tt.ret ?_ | refine Tt.ebind (Qy.e ?_) ?_ | refine Tt.bind (Qw.z ?_ ?_) fun _ _=> ?_ | refine Tt.mono (Qw.z ?_ ?_) fun _ _=> ?_ | refine Tt.bind (Kr.t ?_ ?_) fun _ _=> ?_ | refine Tt.mono (Kr.t ?_ ?_) fun _ _=> ?_ | refine Tt.ebind (Concat.e ?_ ?_) ?_ | refine Tt.dn (fun _=> ?_) ?_ | refine Tt.di (fun _=> ?_) fun _=> ?_ | refine Tt.ite (fun _=> ?_) fun _=> ?_
 all_goals exact fin_
theorem Kq.t {c:CT} {s:Bool} {l:Li} {b:Li} (h0_:Cz c) (h1_:l.length=szT c.1) (h2_:szT c.1≤b.length) (h3_:b.length≤2*szT c.1) (h4_:8≤szT c.1) (h5_:szT c.1≤16):Tt (fun k=>Kq.f k c s l b) (fun r=>r.length≤1000):=by
 simp only [Kq.f]
 repeat' with_reducible first | refine Tt.sw fun _ _=> ?_ | refine Tt.sb ?_ | refine Tt.ret ?_ | refine Tt.ebind (Qy.e ?_) ?_ | refine Tt.bind (Qx.z ?_ ?_) fun _ _=> ?_ | refine Tt.mono (Qx.z ?_ ?_) fun _ _=> ?_ | refine Tt.bind (Kr.t ?_ ?_) fun _ _=> ?_ | refine Tt.mono (Kr.t ?_ ?_) fun _ _=> ?_ | refine Tt.ebind (Concat.e ?_ ?_) ?_ | refine Tt.dn (fun _=> ?_) ?_ | refine Tt.di (fun _=> ?_) fun _=> ?_ | refine Tt.ite (fun _=> ?_) fun _=> ?_
 all_goals exact fin_
theorem Ks.t {a:Int} {w:Bool} (h0_:True):Tt (fun k=>Ks.f k a w) (fun r=>True):=by
 simp only [Ks.f]
 repeat' with_reducible first | refine Tt.sw fun _ _=> ?_ | refine Tt.sb ?_ | refine Tt.ret ?_ | refine Tt.dn (fun _=> ?_) ?_ | refine Tt.di (fun _=> ?_) fun _=> ?_ | refine Tt.ite (fun _=> ?_) fun _=> ?_
 all_goals exact fin_
theorem Ko.l0t (z_:Nat): ∀ {c:CT} {back:Bool} {l:Li} {t:Int} {u:Bool×Bool} {x:Li} (h0_:Cz c) (h1_:l.length=szT c.1) (h2_:szT c.1≤x.length) (h3_:x.length≤2*szT c.1) (h4_:8≤szT c.1) (h5_:szT c.1≤16) (h6_:t=szT c.1) (hn_:0=z_),Tt (fun k=>Ko.l0 k c back l t u x) (fun r=>r.1.length≤1000):=by
 induction z_ using Nat.strongRecOn with
 | ind z_ ih=>
 intro c back l t u x h0_ h1_ h2_ h3_ h4_ h5_ h6_ hn_
 refine Tt.succ ?_
 simp only [Ko.l0]
 repeat' with_reducible first | refine Tt.sw fun _ _=> ?_ | refine Tt.sb ?_ | refine Tt.ret ?_ | refine Tt.bind (Qw.z ?_ ?_) fun _ _=> ?_ | refine Tt.mono (Qw.z ?_ ?_) fun _ _=> ?_ | refine Tt.bind (Qx.z ?_ ?_) fun _ _=> ?_ | refine Tt.mono (Qx.z ?_ ?_) fun _ _=> ?_ | refine Tt.bind (Jd.c ?_ ?_) fun _ _=> ?_ | refine Tt.mono (Jd.c ?_ ?_) fun _ _=> ?_ | refine Tt.bind (Kp.t ?_ ?_ ?_ ?_ ?_ ?_) fun _ _=> ?_ | refine Tt.mono (Kp.t ?_ ?_ ?_ ?_ ?_ ?_) fun _ _=> ?_ | refine Tt.bind (Kq.t ?_ ?_ ?_ ?_ ?_ ?_) fun _ _=> ?_ | refine Tt.mono (Kq.t ?_ ?_ ?_ ?_ ?_ ?_) fun _ _=> ?_ | refine Tt.mono (ih _ ?_ ?_ ?_ ?_ ?_ ?_ ?_ ?_ rfl) fun _ _=> ?_ | refine Tt.dn (fun _=> ?_) ?_ | refine Tt.di (fun _=> ?_) fun _=> ?_ | refine Tt.ite (fun _=> ?_) fun _=> ?_
 all_goals exact fin_
theorem Ko.t {c:CT} {m:Int} {back:Bool} {l:Li} {b:Li} (h0_:Cz c) (h1_:8≤szT c.1) (h2_:szT c.1≤16):Tt (fun k=>Ko.f k c m back l b) (fun r=>r.1.length≤1000):=by
 simp only [Ko.f]
 repeat' with_reducible first | refine Tt.sw fun _ _=> ?_ | refine Tt.sb ?_ | refine Tt.ret ?_ | refine Tt.ebind (Qy.e ?_) ?_ | refine Tt.bind (Ks.t ?_) fun _ _=> ?_ | refine Tt.mono (Ks.t ?_) fun _ _=> ?_ | refine Tt.mono (Ko.l0t _ ?_ ?_ ?_ ?_ ?_ ?_ ?_ rfl) fun _ _=> ?_ | refine Tt.dn (fun _=> ?_) ?_ | refine Tt.di (fun _=> ?_) fun _=> ?_ | refine Tt.ite (fun _=> ?_) fun _=> ?_
 all_goals exact fin_
end Go.Scr.S
