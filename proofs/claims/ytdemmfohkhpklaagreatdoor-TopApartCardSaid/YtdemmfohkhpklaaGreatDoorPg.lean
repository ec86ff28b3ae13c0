/- Plain functions that answer, whatever comes in: aria, and each cipher. -/
import Derived.Test.YtdemmfohkhpklaaGreatDoorPa
import Derived.Test.YtdemmfohkhpklaaGreatDoorPb
import Derived.Test.YtdemmfohkhpklaaGreatDoorPc
import Derived.Test.YtdemmfohkhpklaaGreatDoorPd
import Derived.Test.YtdemmfohkhpklaaGreatDoorPf
set_option linter.unusedVariables false
set_option linter.unusedSimpArgs false
set_option maxRecDepth 10000
namespace Go.Scr.S
theorem Qh.e:Ev (fun k=>Qh.f k) tabs:=⟨700,fun _ hk=>made_eq hk⟩
theorem il_bw {l:List Nat} (h: ∀x∈l,x<256):Bw 0 255 (il l):=fun v hv=>by
 obtain ⟨n,hn,rfl⟩:=List.mem_map.1 hv
 have:=h n hn
 omega
theorem tb_tabs:Tb tabs:=⟨rfl,fun v hv=>by
 have:=tS_ok;have:=tT_ok;have:=tU_ok;have:=tV_ok
 simp only [tabs,List.mem_cons,List.not_mem_nil,or_false] at hv
 rcases hv with rfl | rfl | rfl | rfl
 ·exact ⟨(il_length _).trans tS_ok.1,il_bw tS_ok.2.1⟩
 ·exact ⟨(il_length _).trans tT_ok.1,il_bw tT_ok.2.1⟩
 ·exact ⟨(il_length _).trans tU_ok.1,il_bw tU_ok.2.1⟩
 ·exact ⟨(il_length _).trans tV_ok.1,il_bw tV_ok.2.1⟩⟩
theorem Qc.t {a:Li} (h0_:a.length=16∨a.length=24∨a.length=32):Tt (fun k=>Qc.f k a) (fun r=> ∃s,r=(some s,0)∧Tb s.1∧Al 16 s.2∧13≤s.2.length∧s.2.length≤17):=by
 simp only [Qc.f]
 repeat' with_reducible first | refine Tt.sw fun _ _=> ?_ | refine Tt.sb ?_ | refine Tt.ret ?_ | refine Tt.bind (Qg.t ?_) fun _ _=> ?_ | refine Tt.mono (Qg.t ?_) fun _ _=> ?_ | refine Tt.ebind (Qh.e) ?_ | refine Tt.bind (Qd.t ?_ ?_) fun _ _=> ?_ | refine Tt.mono (Qd.t ?_ ?_) fun _ _=> ?_ | refine Tt.dn (fun _=> ?_) ?_ | refine Tt.di (fun _=> ?_) fun _=> ?_ | refine Tt.ite (fun _=> ?_) fun _=> ?_
 all_goals first | omega | ((refine ⟨_,rfl,tb_tabs,?_⟩);done) | (exact tb_tabs;done) | ((rename_i h_;rw [h_];rfl);done) | ((simp_all;done);done) | (simp only [LL,LN,LB] at*;omega) | skip
 all_goals try simp (disch:=first | omega | (simp only [LL,LN];omega)) only [I64i] at*
 all_goals try simp only [LL,LN,LB] at*
 all_goals (repeat' first | omega | (with_reducible first | assumption | exact True.intro | apply Bw.app | apply Bw.tk | apply Bw.dr | apply Bw.cons | exact Bw.nil | apply Bw.set | apply Bw.rep | apply Bw.rd | apply Al.add | exact Al.nil | apply Al.rd | apply Al.rev | apply Al.cons | apply Ml.cons | exact Ml.nil | apply And.intro) | (simp only [LL,LN,LB] at*;omega) | exact And.right (by with_reducible assumption) | exact And.left (by with_reducible assumption) | with_reducible exact Or.inl True.intro | with_reducible exact Or.inr True.intro | (refine ⟨_,rfl,tb_tabs,?_⟩) | exact tb_tabs | (rename_i h_;rw [h_];rfl) | (simp_all;done))
end Go.Scr.S

namespace Go.Scr.S
theorem Index_b (z_ : Nat) : ∀ {a : List Int} {v i : Int} {j : Int} (_ : 0 ≤ i) (_ : a.length ≤ 1000000000) (_ : i ≤ j) (_ : j < a.length) (_ : Scr.rd a j = v) (_ : a.length - i.toNat = z_), Tt (fun k => Y8.l0 k a v i) (fun r => 0 ≤ r) := by
  induction z_ using Nat.strongRecOn with
  | ind z_ ih =>
  intro a v i j h0 h1 h2 h3 h4 hn
  refine Tt.succ ?_
  simp only [Y8.l0]
  refine Tt.gd (by omega) (Tt.gd h0 (Tt.gd (by omega) ?_))
  refine Tt.ite (fun _ => Tt.ret h0) (fun hc => ?_)
  have hij : i ≠ j := fun e => by subst e; exact hc (by rw [h4]; exact beq_self_eq_true _)
  rw [I64i (by omega)]
  exact ih _ (by omega) (by omega) h1 (by omega) h3 h4 rfl
theorem Contains_b {a : List Int} {v j : Int} (h1 : a.length ≤ 1000000000) (h2 : 0 ≤ j) (h3 : j < a.length) (h4 : Scr.rd a j = v) : Ev (fun k => Y5.f k a v) true := by
  refine Tt.ev ?_
  simp only [Y5.f, Y8.f]
  exact Tt.bind (Index_b _ (Int.le_refl 0) h1 h2 h3 h4 rfl) (fun r hr => Tt.ret (decide_eq_true hr))
/-- A cipher of n bytes that is well made. -/
abbrev CT := Int × ((Option (List (List (List Int)))) ⊕ ((Option ((List Int) × (List Int))) ⊕ ((Option ((List Int) × (List Int))) ⊕ ((Option ((List (List Int)) × (List (List Int)))) ⊕ (Option ((List Int) × Int))))))
def Cw (n : Nat) (c : CT) : Prop := match c.2 with
  | .inl d => n = 8 ∧ ∃ ks, d = some ks ∧ Kd ks ∧ 0 < ks.length ∧ ks.length ≤ 3
  | .inr (.inl d) => n = 8 ∧ ∃ s, d = some s ∧ s.1.length = 52 ∧ s.2.length = 52
  | .inr (.inr (.inl d)) => n = 16 ∧ ∃ s, d = some s ∧ s.1.length = 40
  | .inr (.inr (.inr (.inl d))) => n = 16 ∧ ∃ s, d = some s ∧ Tb s.1 ∧ Al 16 s.2 ∧ 13 ≤ s.2.length ∧ s.2.length ≤ 17
  | .inr (.inr (.inr (.inr d))) => n = 8 ∧ ∃ s, d = some s ∧ (s.2 = 4 → s.1.length = 4) ∧ (s.2 = 5 → s.1.length = 8) ∧ (s.2 = 8 → s.1.length = 26)
/-- What is said of a tag, a key's length. -/
def Vd (t : Int) (n : Nat) (s : Nat) : Prop :=
  (t = 1 ∧ n = 8 ∧ s = 8) ∨ (t = 2 ∧ (n = 16 ∨ n = 24) ∧ s = 8) ∨ (t = 3 ∧ n = 16 ∧ s = 8) ∨ (t = 4 ∧ n = 16 ∧ s = 8) ∨ (t = 8 ∧ n = 16 ∧ s = 8) ∨ (t = 5 ∧ n = 32 ∧ s = 8) ∨ (t = 6 ∧ (n = 16 ∨ n = 24 ∨ n = 32) ∧ s = 16) ∨ (t = 7 ∧ (n = 16 ∨ n = 24 ∨ n = 32) ∧ s = 16)
theorem New_pick {F : Nat → Option Bool} {A : Nat → Option (Option CT × Int)} {B : Nat → Option (Option CT × Int)} {Q : Option CT × Int → Prop} (h : Ev F true) (h' : Tt B Q) : Tt (fun k => (F k).bind fun b => if (!b) = true then A k else B k) Q :=
  Tt.ebind h (Tt.neg (by simp) h')
theorem Q1.t {t : Int} {a : List Int} {s : Nat} (hb : Bw 0 255 a) (hv : Vd t a.length s) : Tt (fun k => Q1.f k t a) (fun r => ∃ c : CT, r = (some c, 0) ∧ Cw s c ∧ c.1 = t) := by
  have small : ∀ t, (t = 4 ∧ a.length = 16) ∨ (t = 8 ∧ a.length = 16) ∨ (t = 5 ∧ a.length = 32) → s = 8 → Tt (fun k => (Kc.f k t a).bind fun t46 => Q1.l6 k t t46) (fun r => ∃ c : CT, r = (some c, 0) ∧ Cw s c ∧ c.1 = t) := fun t ht hs => by
    refine Tt.bind (Kc.t ht) (fun r hr => ?_)
    obtain ⟨x, rfl, hx⟩ := hr
    exact Tt.succ (Tt.ret ⟨_, rfl, ⟨hs, x, rfl, by rw [hx.1]; exact hx.2⟩, rfl⟩)
  have des : ∀ {t : Int}, a.length = 8 ∨ a.length = 16 ∨ a.length = 24 → s = 8 → ∀ r, (∃ ks, r = (some ks, (0 : Int)) ∧ Kd ks ∧ 0 < ks.length ∧ ks.length ≤ 3) → ∃ c : CT, ((some (t, Sum.inl r.1) : Option CT), (0 : Int)) = (some c, 0) ∧ Cw s c ∧ c.1 = t := fun _ hs r hr => by
    obtain ⟨x, rfl, hx⟩ := hr
    exact ⟨_, rfl, ⟨hs, x, rfl, hx⟩, rfl⟩
  rcases hv with ⟨rfl, hn, hs⟩ | ⟨rfl, hn, hs⟩ | ⟨rfl, hn, hs⟩ | ⟨rfl, hn, hs⟩ | ⟨rfl, hn, hs⟩ | ⟨rfl, hn, hs⟩ | ⟨rfl, hn, hs⟩ | ⟨rfl, hn, hs⟩
  · show Tt (fun k => (Y5.f k [8] (a.length : Int)).bind fun b => if (!b) = true then Q1.l0 k else (Vi.f k a).bind fun t17 => Q1.l1 k 1 t17) _
    refine New_pick (Contains_b (j := 0) (by decide) (by decide) (by decide) (by rw [hn]; rfl)) (Tt.bind (Vi.t (.inl hn)) (fun r hr => Tt.succ (Tt.ret (des (.inl hn) hs r hr))))
  · show Tt (fun k => (Y5.f k [16, 24] (a.length : Int)).bind fun b => if (!b) = true then Q1.l0 k else (Vi.f k a).bind fun t17 => Q1.l2 k 2 t17) _
    rcases hn with hn | hn
    · exact New_pick (Contains_b (j := 0) (by decide) (by decide) (by decide) (by rw [hn]; rfl)) (Tt.bind (Vi.t (.inr (.inl hn))) (fun r hr => Tt.succ (Tt.ret (des (.inr (.inl hn)) hs r hr))))
    · exact New_pick (Contains_b (j := 1) (by decide) (by decide) (by decide) (by rw [hn]; rfl)) (Tt.bind (Vi.t (.inr (.inr hn))) (fun r hr => Tt.succ (Tt.ret (des (.inr (.inr hn)) hs r hr))))
  · show Tt (fun k => (Y5.f k [16] (a.length : Int)).bind fun b => if (!b) = true then Q1.l0 k else (Vx.f k a).bind fun t17 => Q1.l3 k 3 t17) _
    refine New_pick (Contains_b (j := 0) (by decide) (by decide) (by decide) (by rw [hn]; rfl)) (Tt.bind (Vx.t hn) (fun r hr => ?_))
    obtain ⟨u, v, rfl, hx⟩ := hr
    exact Tt.succ (Tt.ret ⟨_, rfl, ⟨hs, (u, v), rfl, hx⟩, rfl⟩)
  · show Tt (fun k => (Y5.f k [16] (a.length : Int)).bind fun b => if (!b) = true then Q1.l0 k else (Kc.f k 4 a).bind fun t17 => Q1.l6 k 4 t17) _
    exact New_pick (Contains_b (j := 0) (by decide) (by decide) (by decide) (by rw [hn]; rfl)) (small 4 (.inl ⟨rfl, hn⟩) hs)
  · show Tt (fun k => (Y5.f k [16] (a.length : Int)).bind fun b => if (!b) = true then Q1.l0 k else (Kc.f k 8 a).bind fun t17 => Q1.l6 k 8 t17) _
    exact New_pick (Contains_b (j := 0) (by decide) (by decide) (by decide) (by rw [hn]; rfl)) (small 8 (.inr (.inl ⟨rfl, hn⟩)) hs)
  · show Tt (fun k => (Y5.f k [32] (a.length : Int)).bind fun b => if (!b) = true then Q1.l0 k else (Kc.f k 5 a).bind fun t17 => Q1.l6 k 5 t17) _
    exact New_pick (Contains_b (j := 0) (by decide) (by decide) (by decide) (by rw [hn]; rfl)) (small 5 (.inr (.inr ⟨rfl, hn⟩)) hs)
  · show Tt (fun k => (Y5.f k [16, 24, 32] (a.length : Int)).bind fun b => if (!b) = true then Q1.l0 k else (Kv.f k a).bind fun t17 => Q1.l4 k 6 t17) _
    have hc : Ev (fun k => Y5.f k [16, 24, 32] (a.length : Int)) true := by
      rcases hn with hn | hn | hn
      · exact Contains_b (j := 0) (by decide) (by decide) (by decide) (by rw [hn]; rfl)
      · exact Contains_b (j := 1) (by decide) (by decide) (by decide) (by rw [hn]; rfl)
      · exact Contains_b (j := 2) (by decide) (by decide) (by decide) (by rw [hn]; rfl)
    refine New_pick hc (Tt.bind (Kv.t hn hb) (fun r hr => ?_))
    obtain ⟨x, rfl, hx⟩ := hr
    exact Tt.succ (Tt.ret ⟨_, rfl, ⟨hs, x, rfl, hx⟩, rfl⟩)
  · show Tt (fun k => (Y5.f k [16, 24, 32] (a.length : Int)).bind fun b => if (!b) = true then Q1.l0 k else (Qc.f k a).bind fun t17 => Q1.l5 k 7 t17) _
    have hc : Ev (fun k => Y5.f k [16, 24, 32] (a.length : Int)) true := by
      rcases hn with hn | hn | hn
      · exact Contains_b (j := 0) (by decide) (by decide) (by decide) (by rw [hn]; rfl)
      · exact Contains_b (j := 1) (by decide) (by decide) (by decide) (by rw [hn]; rfl)
      · exact Contains_b (j := 2) (by decide) (by decide) (by decide) (by rw [hn]; rfl)
    refine New_pick hc (Tt.bind (Qc.t hn) (fun r hr => ?_))
    obtain ⟨x, rfl, hx⟩ := hr
    exact Tt.succ (Tt.ret ⟨_, rfl, ⟨hs, x, rfl, hx⟩, rfl⟩)
theorem Qx.t {n : Nat} {c : CT} {a : List Int} (hc : Cw n c) (ha : a.length = n) : Tt (fun k => Qx.f k c a) (fun r => r.1.length = n ∧ r.2 = 0) := by
  obtain ⟨t, c⟩ := c
  rcases c with d | d | d | d | d
  · obtain ⟨rfl, x, rfl, hx⟩ := hc
    show Tt (fun k => (Vf.f k x a false).bind fun t => some (t.1, t.2)) _
    exact Tt.bind (Vf.t ha hx.1 hx.2.1 (by omega)) (fun r hr => Tt.ret hr)
  · obtain ⟨rfl, x, rfl, hx⟩ := hc
    show Tt (fun k => (Vt.f k x a false).bind fun t => some (t.1, t.2)) _
    exact Tt.bind (Vt.t ha hx.1 hx.2) (fun r hr => Tt.ret hr)
  · obtain ⟨rfl, x, rfl, hx⟩ := hc
    show Tt (fun k => (Kx.f k x a false).bind fun t => some (t.1, t.2)) _
    exact Tt.bind (Kx.t hx ha) (fun r hr => Tt.ret hr)
  · obtain ⟨rfl, x, rfl, h1, h2, h3, h4⟩ := hc
    show Tt (fun k => (Qa.f k x a false).bind fun t => some (t.1, t.2)) _
    exact Tt.bind (Qa.t h1 h2 h3 h4 ha) (fun r hr => Tt.ret hr)
  · obtain ⟨rfl, x, rfl, h1, h2, h3⟩ := hc
    show Tt (fun k => (Ke.f k x a false).bind fun t => some (t.1, t.2)) _
    exact Tt.bind (Ke.t ha h1 h2 h3) (fun r hr => Tt.ret hr)
theorem Qw.t {n : Nat} {c : CT} {a : List Int} (hc : Cw n c) (ha : a.length = n) : Tt (fun k => Qw.f k c a) (fun r => r.1.length = n ∧ r.2 = 0) := by
  obtain ⟨t, c⟩ := c
  rcases c with d | d | d | d | d
  · obtain ⟨rfl, x, rfl, hx⟩ := hc
    show Tt (fun k => (Vf.f k x a true).bind fun t => some (t.1, t.2)) _
    exact Tt.bind (Vf.t ha hx.1 hx.2.1 (by omega)) (fun r hr => Tt.ret hr)
  · obtain ⟨rfl, x, rfl, hx⟩ := hc
    show Tt (fun k => (Vt.f k x a true).bind fun t => some (t.1, t.2)) _
    exact Tt.bind (Vt.t ha hx.1 hx.2) (fun r hr => Tt.ret hr)
  · obtain ⟨rfl, x, rfl, hx⟩ := hc
    show Tt (fun k => (Kx.f k x a true).bind fun t => some (t.1, t.2)) _
    exact Tt.bind (Kx.t hx ha) (fun r hr => Tt.ret hr)
  · obtain ⟨rfl, x, rfl, h1, h2, h3, h4⟩ := hc
    show Tt (fun k => (Qa.f k x a true).bind fun t => some (t.1, t.2)) _
    exact Tt.bind (Qa.t h1 h2 h3 h4 ha) (fun r hr => Tt.ret hr)
  · obtain ⟨rfl, x, rfl, h1, h2, h3⟩ := hc
    show Tt (fun k => (Ke.f k x a true).bind fun t => some (t.1, t.2)) _
    exact Tt.bind (Ke.t ha h1 h2 h3) (fun r hr => Tt.ret hr)
end Go.Scr.S
