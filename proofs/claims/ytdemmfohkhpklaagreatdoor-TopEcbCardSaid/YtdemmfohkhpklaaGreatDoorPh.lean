/- Plain functions that answer, whatever comes in: keys, cuts. -/
import Derived.Test.YtdemmfohkhpklaaGreatDoorFd
import Derived.Test.YtdemmfohkhpklaaGreatDoorPt
import Derived.Test.YtdemmfohkhpklaaGreatDoorPa
import Derived.Test.YtdemmfohkhpklaaGreatDoorPg
set_option linter.unusedVariables false
set_option linter.unusedSimpArgs false
set_option maxRecDepth 10000
namespace Go.Scr.S
theorem scrimlaw11_Bytes.l0t (z_:Nat): ∀ {n:Int} {x:Li} {i:Int} (h0_:0≤i) (h1_:n≤1000) (h2_:x.length=n.toNat) (h3_:Bw 0 255 x) (hn_:(n-i).toNat=z_),Tt (fun k=>scrimlaw11_Bytes.l0 k n x i) (fun r=>r.length=n.toNat∧Bw 0 255 r):=by
 induction z_ using Nat.strongRecOn with
 | ind z_ ih=>
 intro n x i h0_ h1_ h2_ h3_ hn_
 refine Tt.succ ?_
 simp only [scrimlaw11_Bytes.l0]
 repeat' with_reducible first | refine Tt.sw fun _ _=> ?_ | refine Tt.sb ?_ | refine Tt.ret ?_ | refine Tt.mono (ih _ ?_ ?_ ?_ ?_ ?_ rfl) fun _ _=> ?_ | refine Tt.dn (fun _=> ?_) ?_ | refine Tt.di (fun _=> ?_) fun _=> ?_ | refine Tt.ite (fun _=> ?_) fun _=> ?_
 all_goals first | omega | (simp only [LL,LN,LB] at*;omega) | skip
 all_goals try simp (disch:=first | omega | (simp only [LL,LN];omega)) only [I64i] at*
 all_goals try simp only [LL,LN,LB] at*
 all_goals (repeat' first | omega | (with_reducible first | assumption | exact True.intro | apply Bw.app | apply Bw.tk | apply Bw.dr | apply Bw.cons | exact Bw.nil | apply Bw.set | apply Bw.rep | apply Bw.rd | apply Al.add | exact Al.nil | apply Al.rd | apply Al.rev | apply Al.cons | apply Ml.cons | exact Ml.nil | apply And.intro) | (simp only [LL,LN,LB] at*;omega) | exact And.right (by with_reducible assumption) | exact And.left (by with_reducible assumption) | with_reducible exact Or.inl True.intro | with_reducible exact Or.inr True.intro)
theorem scrimlaw11_Bytes.t {n:Int} {a:Li} (h0_:0≤n) (h1_:n≤1000) (h2_:Bw 0 255 a):Tt (fun k=>scrimlaw11_Bytes.f k n a) (fun r=>r.length=n.toNat∧Bw 0 255 r):=by
 simp only [scrimlaw11_Bytes.f]
 repeat' with_reducible first | refine Tt.sw fun _ _=> ?_ | refine Tt.sb ?_ | refine Tt.ret ?_ | refine Tt.mono (scrimlaw11_Bytes.l0t _ ?_ ?_ ?_ ?_ rfl) fun _ _=> ?_ | refine Tt.dn (fun _=> ?_) ?_ | refine Tt.di (fun _=> ?_) fun _=> ?_ | refine Tt.ite (fun _=> ?_) fun _=> ?_
 all_goals first | omega | (simp only [LL,LN,LB] at*;omega) | skip
 all_goals try simp (disch:=first | omega | (simp only [LL,LN];omega)) only [I64i] at*
 all_goals try simp only [LL,LN,LB] at*
 all_goals (repeat' first | omega | (with_reducible first | assumption | exact True.intro | apply Bw.app | apply Bw.tk | apply Bw.dr | apply Bw.cons | exact Bw.nil | apply Bw.set | apply Bw.rep | apply Bw.rd | apply Al.add | exact Al.nil | apply Al.rd | apply Al.rev | apply Al.cons | apply Ml.cons | exact Ml.nil | apply And.intro) | (simp only [LL,LN,LB] at*;omega) | exact And.right (by with_reducible assumption) | exact And.left (by with_reducible assumption) | with_reducible exact Or.inl True.intro | with_reducible exact Or.inr True.intro)
theorem within_t {a n:Int} (h0:0<n) (h1:n≤1000000):Tt (fun k=>scrimlaw11_within.f k a n) (fun r=>0≤r∧r<n):=by
 simp only [scrimlaw11_within.f]
 have h2:=tm1 (a:=a) h0
 have h3:=tm2 (a:=a) h0
 refine Tt.gn (by omega) (Tt.di (fun _=>Tt.ret ?_) (fun _=>Tt.ret ⟨by omega,h2⟩))
 rw [I64i (by omega)];omega
theorem within12_t {a n:Int} (h0:0<n) (h1:n≤1000000):Tt (fun k=>scrimlaw12_within.f k a n) (fun r=>0≤r∧r<n):=by
 simp only [scrimlaw12_within.f]
 have h2:=tm1 (a:=a) h0
 have h3:=tm2 (a:=a) h0
 refine Tt.gn (by omega) (Tt.di (fun _=>Tt.ret ?_) (fun _=>Tt.ret ⟨by omega,h2⟩))
 rw [I64i (by omega)];omega
theorem Tag_t {a:Int}:Tt (fun k=>scrimlaw11_Tag.f k a) (fun r=>1≤r∧r≤8):=by
 simp only [scrimlaw11_Tag.f]
 refine Tt.bind (within_t (by decide) (by decide)) (fun r hr=>Tt.ret ?_)
 rw [I64i (by omega)];omega
end Go.Scr.S

namespace Go.Scr.S
def szT (t : Int) : Nat := if t = 6 ∨ t = 7 then 16 else 8
theorem Key_of {t n : Int} {ks L : List Int} (hL : ∀ k, scrimref11_Lengths.f k t = some L) (h0 : 0 < L.length) (h1 : L.length ≤ 3) (hv : ∀ v ∈ L, (0 ≤ v ∧ v ≤ 32) ∧ Vd t v.toNat (szT t)) (hb : Bw 0 255 ks) :
    Tt (fun k => scrimlaw11_Key.f k t n ks) (fun r => Bw 0 255 r ∧ Vd t r.length (szT t)) := by
  simp only [scrimlaw11_Key.f, hL]
  refine Tt.sb (Tt.bind (within_t (by omega) (by omega)) (fun j hj => ?_))
  refine Tt.gd hj.1 (Tt.gd hj.2 ?_)
  have hm : Scr.rd L j ∈ L := by
    have : j.toNat < L.length := by omega
    unfold Scr.rd
    rw [List.getD_eq_getElem?_getD, List.getElem?_eq_getElem this]; exact List.getElem_mem _
  obtain ⟨⟨h2, h3⟩, h4⟩ := hv _ hm
  exact Tt.bind (scrimlaw11_Bytes.t h2 (by omega) hb) (fun r hr => Tt.ret ⟨hr.2, by rw [hr.1]; exact h4⟩)
theorem Key_t {t n : Int} {ks : List Int} (h : 1 ≤ t) (h' : t ≤ 8) (hb : Bw 0 255 ks) : Tt (fun k => scrimlaw11_Key.f k t n ks) (fun r => Bw 0 255 r ∧ Vd t r.length (szT t)) := by
  have c : t = 1 ∨ t = 2 ∨ t = 3 ∨ t = 4 ∨ t = 5 ∨ t = 6 ∨ t = 7 ∨ t = 8 := by omega
  rcases c with rfl | rfl | rfl | rfl | rfl | rfl | rfl | rfl
  · exact Key_of (L := [8]) (fun _ => rfl) (by decide) (by decide) (by simp [Vd, szT]) hb
  · exact Key_of (L := [16, 24]) (fun _ => rfl) (by decide) (by decide) (by simp [Vd, szT]) hb
  · exact Key_of (L := [16]) (fun _ => rfl) (by decide) (by decide) (by simp [Vd, szT]) hb
  · exact Key_of (L := [16]) (fun _ => rfl) (by decide) (by decide) (by simp [Vd, szT]) hb
  · exact Key_of (L := [32]) (fun _ => rfl) (by decide) (by decide) (by simp [Vd, szT]) hb
  · exact Key_of (L := [16, 24, 32]) (fun _ => rfl) (by decide) (by decide) (by simp [Vd, szT]) hb
  · exact Key_of (L := [16, 24, 32]) (fun _ => rfl) (by decide) (by decide) (by simp [Vd, szT]) hb
  · exact Key_of (L := [16]) (fun _ => rfl) (by decide) (by decide) (by simp [Vd, szT]) hb
theorem Size_e {t : Int} (h : 1 ≤ t) (h' : t ≤ 8) : Ev (fun k => scrimref11_Size.f k t) (szT t : Int) := by
  have c : t = 1 ∨ t = 2 ∨ t = 3 ∨ t = 4 ∨ t = 5 ∨ t = 6 ∨ t = 7 ∨ t = 8 := by omega
  rcases c with rfl | rfl | rfl | rfl | rfl | rfl | rfl | rfl <;> exact ⟨0, fun _ _ => rfl⟩
theorem mn_b {x : Int} {n : Nat} (h : 0 ≤ x) : 0 ≤ mn x n ∧ mn x n ≤ n := by unfold mn; split <;> omega
theorem Cut_l0 (z_ : Nat) : ∀ {ns x : List Int} {y : List (List Int)} {i : Int} (_ : 0 ≤ i) (_ : i ≤ 40) (_ : (y.length : Int) = i) (_ : (40 - i).toNat = z_), Tt (fun k => scrimlaw12_Cut.l0 k ns x y i) (fun r => r.flatten = y.flatten ++ x ∧ r.length ≤ 41) := by
  induction z_ using Nat.strongRecOn with
  | ind z_ ih =>
  intro ns x y i h0 h1 h2 hn
  refine Tt.succ ?_
  simp only [scrimlaw12_Cut.l0]
  have fin : Tt (fun _ => some (y ++ ([x] : List (List Int)))) (fun r => r.flatten = y.flatten ++ x ∧ r.length ≤ 41) := Tt.ret ⟨by simp, by simp; omega⟩
  have cut : ∀ m : Int, 0 ≤ m → m ≤ (x.length : Int) → i < 40 → Tt (fun k => scrimlaw12_Cut.l0 k ns ((x.take ((x.length : Int) : Int).toNat).drop (m : Int).toNat) (y ++ ([((x.take (m : Int).toNat).drop (0 : Int).toNat)] : List (List Int))) (I64 (i + 1))) (fun r => r.flatten = y.flatten ++ x ∧ r.length ≤ 41) := fun m _ _ hi => by
    rw [I64i (by omega)]
    refine Tt.mono (ih _ (by omega) (by omega) (by omega) (by simp only [LN]; omega) rfl) (fun r hr => ⟨?_, hr.2⟩)
    rw [hr.1, List.flatten_append, List.append_assoc]
    simp
  refine Tt.di (fun hi => ?_) (fun _ => Tt.gd (by simp only [LN]; omega) fin)
  refine Tt.di (fun hj => ?_) (fun _ => Tt.gd (by simp only [LN]; omega) fin)
  refine Tt.gd h0 (Tt.gd hi (Tt.bind (within12_t (by decide) (by decide)) (fun a ha => Tt.gd h0 (Tt.gd hi (Tt.bind (within12_t (by decide) (by decide)) (fun b _ => ?_))))))
  refine Tt.ite (fun _ => ?_) (fun _ => ?_)
  · refine Tt.gd h0 (Tt.gd hi (Tt.bind (within12_t (by decide) (by decide)) (fun c hc => ?_)))
    have hm := mn_b (x := I64 (8 * c)) (n := x.length) (by rw [I64i (by omega)]; omega)
    exact Tt.gd hm.1 (Tt.gd hm.2 (Tt.gd hm.1 (Tt.gd hm.2 (Tt.gd (by simp only [LN]; omega) (cut _ hm.1 hm.2 hj)))))
  · have hm := mn_b (x := a) (n := x.length) ha.1
    exact Tt.gd hm.1 (Tt.gd hm.2 (Tt.gd hm.1 (Tt.gd hm.2 (Tt.gd (by simp only [LN]; omega) (cut _ hm.1 hm.2 hj)))))
theorem Cut_t {x ns : List Int} : Tt (fun k => scrimlaw12_Cut.f k x ns) (fun r => r.flatten = x ∧ r.length ≤ 41) := by
  simp only [scrimlaw12_Cut.f]
  exact (Cut_l0 _ (Int.le_refl 0) (by decide) rfl rfl).mono fun r hr => ⟨by rw [hr.1]; rfl, hr.2⟩
end Go.Scr.S
