/- The plain law of TopApart. -/
import Derived.Test.YtdemmfohkhpklaaGreatDoorPh
import Derived.Test.YtdemmfohkhpklaaGreatDoorFe
set_option linter.unusedVariables false
set_option linter.unusedSimpArgs false
set_option maxRecDepth 10000
namespace Go.Scr.S
/-- A mode on its way. -/
def Mi (c : CT) (b : MT) : Prop := b.1 = some c ∧ (1 ≤ b.2.1 ∧ b.2.1 ≤ 6) ∧ (b.2.1 = 1 ∨ b.2.2.2.1.length = szT c.1) ∧ (b.2.2.2.2.1.length = 0 ∨ b.2.2.2.2.2.length + b.2.2.2.2.1.length = szT c.1)
def grN (c : CT) (m : Int) : Nat := if m ≤ 2 then szT c.1 else 1
theorem grN_pos {c : CT} {m : Int} : 1 ≤ grN c m ∧ grN c m ≤ 16 := by have := @Cz.sz c; unfold grN; split <;> omega
theorem Xor_d {a b : List Int} {n : Nat} (h : a.length = n) (e : b.length = n) (hn : n ≤ 100000) : Tt (fun k => Jd.f k a b) (fun r => r.1.length = n) := (Jd.c (by omega) (by omega)).mono fun _ q => q.1.trans h
theorem Grain_e {c : CT} {b : MT} (hz : Cz c) (h : Mi c b) : Ev (fun k => V3.f k b) (grN c b.2.1 : Int) := by
  obtain ⟨o, m, bk, ch, row, gn⟩ := b
  obtain ⟨rfl, ⟨h1, h2⟩, -, -⟩ := h
  simp only at h1 h2
  simp only [V3.f, grN]
  by_cases e1 : m = 1
  · subst e1; exact Ev.pos rfl (Ev.sb (Ev.bind (Qy.e hz) (Ev.ret _)))
  refine Ev.neg (by simpa using e1) ?_
  by_cases e2 : m = 2
  · subst e2; exact Ev.pos rfl (Ev.sb (Ev.bind (Qy.e hz) (Ev.ret _)))
  refine Ev.neg (by simpa using e2) ?_
  rw [if_neg (by omega)]; exact Ev.ret _
theorem block_t {c : CT} {b : MT} {x : List Int} (hz : Cz c) (h : Mi c b) (hm : b.2.1 ≤ 2) (hx : x.length = szT c.1) : Tt (fun k => V6.f k b x) (fun r => Mi c r.2 ∧ r.2.2.1 = b.2.1 ∧ r.1.length = szT c.1) := by
  obtain ⟨o, m, bk, ch, row, gn⟩ := b
  obtain ⟨rfl, ⟨h1, h2⟩, h3, h4⟩ := h
  have hs := @Cz.sz c
  simp only at h1 h2 h3 h4 hm
  simp only [V6.f, Mi]
  repeat' with_reducible first | refine Tt.sb ?_ | refine Tt.ret ?_ | refine Tt.bind (Qw.z hz ?_) fun _ _ => ?_ | refine Tt.bind (Qx.z hz ?_) fun _ _ => ?_ | refine Tt.bind (Xor_d (n := szT c.1) ?_ ?_ ?_) fun _ _ => ?_ | refine Tt.ebind (Yz.e ?_) ?_ | refine Tt.ite (fun _ => ?_) fun _ => ?_
  all_goals try simp only [LB] at *
  all_goals first | omega | assumption | (refine ⟨⟨trivial, ⟨h1, h2⟩, ?_, h4⟩, trivial, ?_⟩ <;> first | omega | assumption)
theorem begin_t {c : CT} {b : MT} (hz : Cz c) (h : Mi c b) (hm : 3 ≤ b.2.1) : Tt (fun k => V5.f k b) (fun r => Mi c r ∧ r.2.1 = b.2.1 ∧ r.2.2.2.2.1.length = szT c.1 ∧ r.2.2.2.2.2.length = 0) := by
  obtain ⟨o, m, bk, ch, row, gn⟩ := b
  obtain ⟨rfl, ⟨h1, h2⟩, h3, h4⟩ := h
  have hs := @Cz.sz c
  simp only at h1 h2 h3 h4 hm
  simp only [V5.f, Mi]
  repeat' with_reducible first | refine Tt.sb ?_ | refine Tt.ret ?_ | refine Tt.bind (Qx.z hz ?_) fun _ _ => ?_ | refine Tt.bind (K6.t ?_) fun _ _ => ?_ | refine Tt.ebind (Yz.e ?_) ?_ | refine Tt.ite (fun _ => ?_) fun _ => ?_
  all_goals try simp only [LB, LN] at *
  all_goals first | omega | assumption | (refine ⟨⟨trivial, ⟨h1, h2⟩, ?_, ?_⟩, trivial, ?_, ?_⟩ <;> first | omega | assumption | trivial)
theorem byte_t {c : CT} {b : MT} {x : Int} (hz : Cz c) (h : Mi c b) (hm : 3 ≤ b.2.1) : Tt (fun k => V7.f k b x) (fun r => Mi c r.2 ∧ r.2.2.1 = b.2.1) := by
  obtain ⟨o, m, bk, ch, row, gn⟩ := b
  have hB := begin_t hz h hm
  obtain ⟨rfl, ⟨h1, h2⟩, h3, h4⟩ := h
  have hs := @Cz.sz c
  simp only at h1 h2 h3 h4 hm
  simp only [V7.f]
  refine Tt.ite (fun e => ?_) (fun e => ?_)
  · refine Tt.bind hB (fun t ht => ?_)
    obtain ⟨o', m', bk', ch', row', gn'⟩ := t
    obtain ⟨⟨rfl, ⟨h1', h2'⟩, h3', h4'⟩, e1, e2, e3⟩ := ht
    simp only at h1' h2' h3' h4' e1 e2 e3
    subst e1
    simp only [Mi]
    repeat' with_reducible first | refine Tt.sb ?_ | refine Tt.ret ?_ | refine Tt.ebind (Yz.e ?_) ?_ | refine Tt.dn (fun _ => ?_) ?_ | refine Tt.di (fun _ => ?_) fun _ => ?_ | refine Tt.ite (fun _ => ?_) fun _ => ?_
    all_goals try simp only [LB, LN] at *
    all_goals first | omega | (refine ⟨⟨trivial, ⟨h1, h2⟩, ?_, ?_⟩, trivial⟩ <;> first | omega | trivial | exact .inl trivial)
  · simp only [Mi]
    repeat' with_reducible first | refine Tt.sb ?_ | refine Tt.ret ?_ | refine Tt.ebind (Yz.e ?_) ?_ | refine Tt.dn (fun _ => ?_) ?_ | refine Tt.di (fun _ => ?_) fun _ => ?_ | refine Tt.ite (fun _ => ?_) fun _ => ?_
    all_goals try simp only [LB, LN] at *
    all_goals first | omega | (refine ⟨⟨trivial, ⟨h1, h2⟩, ?_, ?_⟩, trivial⟩ <;> first | omega | trivial | exact .inl trivial)
theorem Step_by {c : CT} (hz : Cz c) (z : Nat) : ∀ {b : MT} {x o : List Int} (_ : x.length = z) (_ : o.length + x.length ≤ 100000000) (_ : Mi c b) (_ : 3 ≤ b.2.1), Tt (fun k => V4.l0 k 1 b x o) (fun r => r.2.1 = 0 ∧ Mi c r.2.2 ∧ r.2.2.2.1 = b.2.1 ∧ r.1.length = o.length + x.length) := by
  induction z with
  | zero =>
    intro b x o hx ho hm h3
    refine Tt.succ ?_
    simp only [V4.l0]
    exact Tt.pos (by simp only [LB]; omega) (Tt.ret ⟨rfl, hm, rfl, by simp only; omega⟩)
  | succ z ih =>
    intro b x o hx ho hm h3
    refine Tt.succ ?_
    simp only [V4.l0]
    refine Tt.neg (by simp only [LB]; omega) (Tt.pos rfl (Tt.gd (by omega) (Tt.bind (byte_t hz hm h3) fun t ht => Tt.gd (by simp only [LN]; omega) (Tt.gd (by omega) (Tt.gd (by omega) ?_)))))
    refine (ih (b := t.2) (by simp only [LN]; omega) (by simp only [LN]; omega) ht.1 (by omega)).mono fun r hr => ⟨hr.1, hr.2.1, hr.2.2.1.trans ht.2, ?_⟩
    rw [hr.2.2.2]; simp only [LN]; omega
theorem Step_bl {c : CT} (hz : Cz c) (q : Nat) : ∀ {b : MT} {x o : List Int} (_ : x.length = q * szT c.1) (_ : o.length + x.length ≤ 100000000) (_ : Mi c b) (_ : b.2.1 ≤ 2), Tt (fun k => V4.l0 k (szT c.1 : Int) b x o) (fun r => r.2.1 = 0 ∧ Mi c r.2.2 ∧ r.2.2.2.1 = b.2.1 ∧ r.1.length = o.length + x.length) := by
  have hs := @Cz.sz c
  induction q with
  | zero =>
    intro b x o hx ho hm h3
    refine Tt.succ ?_
    simp only [V4.l0]
    exact Tt.pos (by simp only [LB]; omega) (Tt.ret ⟨rfl, hm, rfl, by simp only; omega⟩)
  | succ q ih =>
    intro b x o hx ho hm h3
    rw [Nat.add_mul, Nat.one_mul] at hx
    refine Tt.succ ?_
    simp only [V4.l0]
    refine Tt.neg (by simp only [LB]; omega) (Tt.neg (by simp only [LB]; omega) (Tt.gd (by omega) (Tt.gd (by omega) (Tt.bind (block_t hz hm h3 (by simp only [LN]; omega)) fun t ht => Tt.gd (by omega) (Tt.gd (by omega) (Tt.gd (by omega) ?_))))))
    refine (ih (b := t.2) (by simp only [LN]; omega) (by simp only [LN]; omega) ht.1 (by omega)).mono fun r hr => ⟨hr.1, hr.2.1, hr.2.2.1.trans ht.2.1, ?_⟩
    rw [hr.2.2.2]; simp only [LN]; omega
/-- A step: of whole grains it turns all, else it is refused. -/
theorem Step_t {c : CT} {b : MT} {x : List Int} (hz : Cz c) (hm : Mi c b) (hx : x.length ≤ 100000000) : Tt (fun k => V4.f k b x) (fun r => Mi c r.2.2 ∧ r.2.2.2.1 = b.2.1 ∧ r.1.length ≤ x.length ∧ (r.2.1 = 0 → r.1.length = x.length) ∧ (∀ j, x.length = j * grN c b.2.1 → r.2.1 = 0)) := by
  have hs := @Cz.sz c
  have hg := @grN_pos c b.2.1
  simp only [V4.f]
  refine Tt.ebind (Grain_e hz hm) (Tt.gn (by omega) (Tt.di (fun e => Tt.ret ⟨hm, rfl, by simp, fun h => by simp at h, fun j hj => ?_⟩) (fun e => Tt.gd (by omega) (Tt.gd (by omega) ?_))))
  · exfalso
    rw [hj, Int.natCast_mul, Int.mul_tmod_left] at e; omega
  have e' : x.length % grN c b.2.1 = 0 := by
    have h1 : Int.tmod (x.length : Int) (grN c b.2.1 : Int) = ((x.length % grN c b.2.1 : Nat) : Int) := by rw [Int.tmod_eq_emod_of_nonneg (by omega)]; simp
    rw [h1] at e; omega
  obtain ⟨j, hj⟩ := Nat.dvd_of_mod_eq_zero e'
  by_cases h3 : b.2.1 ≤ 2
  · have hgr : grN c b.2.1 = szT c.1 := by unfold grN; rw [if_pos h3]
    rw [hgr]; rw [hgr] at hj
    refine (Step_bl hz j (by rw [hj, Nat.mul_comm]) (by simp only [LN]; omega) hm h3).mono fun r hr => ⟨hr.2.1, hr.2.2.1, ?_, fun _ => ?_, fun _ _ => hr.1⟩ <;> (rw [hr.2.2.2]; simp only [LN]; omega)
  · have hgr : grN c b.2.1 = 1 := by unfold grN; rw [if_neg h3]
    rw [hgr]
    refine (Step_by hz _ rfl (by simp only [LN]; omega) hm (by omega)).mono fun r hr => ⟨hr.2.1, hr.2.2.1, ?_, fun _ => ?_, fun _ _ => hr.1⟩ <;> (rw [hr.2.2.2]; simp only [LN]; omega)
end Go.Scr.S

namespace Go.Scr.S
abbrev XT := Bool × Bool × Int × Int × Int × Bool × Option CT × List Int × MT × List Int × List Int
/-- From some fuel on it has no answer. -/
def En {α : Type} (F : Nat → Option α) : Prop := ∃ n, ∀ k, n ≤ k → F k = none
/-- Refused in the end, or it answers. -/
def Tc {α : Type} (p : Nat → Option Int) (f : Nat → Option α) (Q : α → Prop) : Prop := (∃ n, Ev p n) ∨ (En p ∧ Tt f Q)
section
variable {α β : Type} {F : Nat → Option α} {G : Nat → α → Option β} {r : α} {p q p0 : Nat → Option Int} {P' : Nat → α → Option Int} {a : Nat → Int → Option β} {b : Nat → Option β} {s : β} {n e : Int} {Q : β → Prop} {R : α → Prop} {f f2 : Nat → Option β} {c : Prop}
theorem En.non : En (fun _ => (none : Option α)) := ⟨0, fun _ _ => rfl⟩
theorem En.bind (h : Ev F r) (h' : En (fun k => G k r)) : En (fun k => (F k).bind (G k)) := by
  obtain ⟨n, h⟩ := h; obtain ⟨m, h'⟩ := h'
  exact ⟨n + m, fun k hk => by simp only [h k (by omega), Option.bind_some]; exact h' k (by omega)⟩
theorem Ev.orS (h : Ev p n) (h' : Ev (fun k => a k n) s) : Ev (fun k => orp (p k) (a k) (b k)) s := by
  obtain ⟨n', h⟩ := h; obtain ⟨m, h'⟩ := h'
  exact ⟨n' + m, fun k hk => by simp only [h k (by omega)]; exact h' k (by omega)⟩
theorem Ev.orN (h : En p) (h' : Ev b s) : Ev (fun k => orp (p k) (a k) (b k)) s := by
  obtain ⟨n', h⟩ := h; obtain ⟨m, h'⟩ := h'
  exact ⟨n' + m, fun k hk => by simp only [h k (by omega)]; exact h' k (by omega)⟩
theorem En.orN (h : En p) (h' : En b) : En (fun k => orp (p k) (a k) (b k)) := by
  obtain ⟨n', h⟩ := h; obtain ⟨m, h'⟩ := h'
  exact ⟨n' + m, fun k hk => by simp only [h k (by omega)]; exact h' k (by omega)⟩
theorem refuse_ok (h : e = 0) : Ev (fun k => Ve.f k e) () := by subst h; exact Ev.of 0 fun _ => rfl
theorem refuse_en (h : e = 0) : En (fun k => Ve.p k e) := by subst h; exact ⟨0, fun _ _ => rfl⟩
theorem refuse_no (h : e ≠ 0) : Ev (fun k => Ve.p k e) e := Ev.of 0 fun _ => by simp [Ve.p, h]
theorem Tc.bind (h : Ev F r) (h' : Tc (fun k => P' k r) (fun k => G k r) Q) : Tc (fun k => (F k).bind (P' k)) (fun k => (F k).bind (G k)) Q := by
  rcases h' with ⟨n, h'⟩ | ⟨h', h2⟩
  · exact .inl ⟨n, Ev.bind h h'⟩
  · exact .inr ⟨En.bind h h', Tt.ebind h h2⟩
theorem Tc.bindT (h : Tt F R) (h' : ∀ r, R r → Tc (fun k => P' k r) (fun k => G k r) Q) : Tc (fun k => (F k).bind (P' k)) (fun k => (F k).bind (G k)) Q := by
  obtain ⟨r, he, hr⟩ := h
  exact Tc.bind he (h' r hr)
theorem Tc.sb (h' : Tc (fun k => P' k r) (fun k => G k r) Q) : Tc (fun k => (some r).bind (P' k)) (fun k => (some r).bind (G k)) Q := h'
theorem Tc.ite [Decidable c] (h1 : c → Tc p f Q) (h2 : ¬ c → Tc q f2 Q) : Tc (fun k => if c then p k else q k) (fun k => if c then f k else f2 k) Q := by
  by_cases hc : c
  · simp only [if_pos hc]; exact h1 hc
  · simp only [if_neg hc]; exact h2 hc
theorem Tc.ref {U : Nat → Unit → Option β} (h : e = 0 → Tt (fun k => U k ()) Q) : Tc (fun k => orp (Ve.p k e) (fun n => some n) none) (fun k => (Ve.f k e).bind (U k)) Q := by
  by_cases h0 : e = 0
  · exact .inr ⟨En.orN (refuse_en h0) En.non, Tt.ebind (refuse_ok h0) (h h0)⟩
  · exact .inl ⟨e, Ev.orS (refuse_no h0) (Ev.ret e)⟩
theorem Tc.refB {U : Nat → Unit → Option β} {V : Nat → Unit → Option Int} (h : e = 0 → Tc (fun k => V k ()) (fun k => U k ()) Q) : Tc (fun k => orp (Ve.p k e) (fun n => some n) ((Ve.f k e).bind (V k))) (fun k => (Ve.f k e).bind (U k)) Q := by
  by_cases h0 : e = 0
  · rcases h h0 with ⟨n, h1⟩ | ⟨h1, h2⟩
    · exact .inl ⟨n, Ev.orN (refuse_en h0) (Ev.bind (refuse_ok h0) h1)⟩
    · exact .inr ⟨En.orN (refuse_en h0) (En.bind (refuse_ok h0) h1), Tt.ebind (refuse_ok h0) h2⟩
  · exact .inl ⟨e, Ev.orS (refuse_no h0) (Ev.ret e)⟩
theorem Tc.call (h : Tc p0 F R) (h' : ∀ r, R r → Tt (fun k => G k r) Q) : Tc (fun k => orp (p0 k) (fun n => some n) none) (fun k => (F k).bind (G k)) Q := by
  rcases h with ⟨n, h⟩ | ⟨h, h2⟩
  · exact .inl ⟨n, Ev.orS h (Ev.ret n)⟩
  · exact .inr ⟨En.orN h En.non, Tt.bind h2 h'⟩
end
theorem stolen_e {s : Bool × Bool × Int × Int × Int × Bool × Option CT × List Int × Option MT × List Int × List Int} (h : s.2.2.2.1 ≤ 9) : Ev (fun k => Va.f k s) (decide (7 ≤ s.2.2.2.1)) := by
  exact Ev.of 0 fun _ => by by_cases h7 : 7 ≤ s.2.2.2.1 <;> simp [Va.f, h7, h]
section
variable {c : CT} {bg o bk : Bool} {t m pd : Int} {iv hl la b : List Int} {by' : MT}
/-- What a turn leaves. -/
def Tq (bg o : Bool) (t m pd : Int) (bk : Bool) (c : CT) (iv : List Int) (by' : MT) (hl b : List Int) (r : List Int × XT) : Prop := ∃ by2 la2, r.2 = (bg, o, t, m, pd, bk, some c, iv, by2, hl, la2) ∧ Mi c by2 ∧ by2.2.1 = by'.2.1 ∧ r.1.length ≤ b.length
theorem turn_both (hz : Cz c) (hm : Mi c by') (h9 : m ≤ 9) (hb : b.length ≤ 100000) :
    Tc (fun k => Vb.p k (bg, o, t, m, pd, bk, some c, iv, by', hl, la) b) (fun k => Vb.f k (bg, o, t, m, pd, bk, some c, iv, by', hl, la) b) (Tq bg o t m pd bk c iv by' hl b) ∧
    ∀ j, b.length = j * grN c by'.2.1 → Tt (fun k => Vb.f k (bg, o, t, m, pd, bk, some c, iv, by', hl, la) b) (Tq bg o t m pd bk c iv by' hl b) := by
  have hs := @Cz.sz c
  obtain ⟨r, hr, hq⟩ := Step_t hz hm (x := b) (by omega)
  have hf : r.2.1 = 0 → Tt (fun k => Vb.f k (bg, o, t, m, pd, bk, some c, iv, by', hl, la) b) (Tq bg o t m pd bk c iv by' hl b) := by
    intro e
    have hlen := hq.2.2.2.1 e
    simp only [Vb.f]
    refine Tt.ebind hr (Tt.ebind (refuse_ok e) (Tt.sb (Tt.ebind (Qy.e hz) (Tt.ebind (stolen_e h9) ?_))))
    repeat' with_reducible first | refine Tt.sb ?_ | refine Tt.ret ?_ | refine Tt.ebind (Yz.e ?_) ?_ | refine Tt.dn (fun _ => ?_) ?_ | refine Tt.di (fun _ => ?_) fun _ => ?_ | refine Tt.ite (fun _ => ?_) fun _ => ?_
    all_goals first | exact ⟨_, _, rfl, hq.1, hq.2.1, hq.2.2.1⟩ | (try simp only [LL, LN, LB] at *; omega)
  refine ⟨?_, fun j hj => hf (hq.2.2.2.2 j hj)⟩
  by_cases e : r.2.1 = 0
  · refine .inr ⟨?_, hf e⟩
    simp only [Vb.p]
    exact En.bind hr (En.orN (refuse_en e) En.non)
  · refine .inl ⟨r.2.1, ?_⟩
    simp only [Vb.p]
    exact Ev.bind hr (Ev.orS (refuse_no e) (Ev.ret _))
theorem end_c (hz : Cz c) (hm : Mi c by') (h9 : m ≤ 9) (hb : b.length ≤ 1000) :
    Tc (fun k => Q7.p k (bg, o, t, m, pd, bk, some c, iv, by', hl, la) b) (fun k => Q7.f k (bg, o, t, m, pd, bk, some c, iv, by', hl, la) b) (fun _ => True) := by
  have hs := @Cz.sz c
  simp only [Q7.p, Q7.f]
  refine Tc.sb (Tc.bind (Qy.e hz) (Tc.bind (stolen_e h9) (Tc.ite (fun _ => ?_) (fun _ => Tc.ite (fun _ => ?_) (fun _ => Tc.ite (fun _ => ?_) (fun _ => Tc.ite (fun _ => ?_) (fun e4 => ?_)))))))
  · exact Tc.bindT (Ko.t hz hs.1 hs.2) (fun r hr => Tc.ref fun _ => Tt.ret trivial)
  · exact Tc.call (turn_both hz hm h9 (by omega)).1 (fun r hr => Tt.ret trivial)
  · refine Tc.bindT (V9.t (by omega) (by omega)) (fun r hr => Tc.refB fun _ => Tc.call (turn_both hz hm h9 (by omega)).1 (fun r hr => Tt.ret trivial))
  · exact .inl ⟨7, Ev.orS (refuse_no (by decide)) (Ev.ret _)⟩
  · have hn : b.length = szT c.1 := by simp only [LB] at e4; omega
    have hj : ∃ j, b.length = j * grN c by'.2.1 := by
      unfold grN; split
      · exact ⟨1, by omega⟩
      · exact ⟨b.length, by omega⟩
    obtain ⟨j, hj⟩ := hj
    exact Tc.bindT ((turn_both hz hm h9 (by omega)).2 j hj) (fun r hr => Tc.bindT (Ya.t (by omega) (by omega)) (fun r2 hr2 => Tc.ref fun _ => Tt.ret trivial))
end
end Go.Scr.S

namespace Go.Scr.S
/-- A context that stands open. -/
def Xi (s : XT) : Prop := ∃ bg t m pd bk c iv by' hl la, s = (bg, true, t, m, pd, bk, some c, iv, by', hl, la) ∧ Cz c ∧ m ≤ 9 ∧ Mi c by' ∧ hl.length ≤ 32
section
variable {c : CT} {bg o bk : Bool} {t m pd : Int} {iv hl la b : List Int} {by' : MT}
theorem most_v (hz : Cz c) (hm : Mi c by') (h9 : m ≤ 9) : ∃ v : Nat, Ev (fun k => Q8.f k (bg, o, t, m, pd, bk, some c, iv, some by', hl, la)) (v : Int) ∧ grN c by'.2.1 ≤ v + 1 ∧ v ≤ 32 := by
  have hs := @Cz.sz c
  simp only [Q8.f]
  have hst := stolen_e (s := (bg, o, t, m, pd, bk, some c, iv, some by', hl, la)) h9
  by_cases hg : grN c by'.2.1 = 1
  · refine ⟨0, Ev.sb (Ev.bind (Qy.e hz) (Ev.sb (Ev.bind (Grain_e hz hm) (Ev.pos (by rw [hg]; rfl) (Ev.ret _))))), by omega, by omega⟩
  have hgn : grN c by'.2.1 = szT c.1 := by
    unfold grN at hg ⊢
    split
    · rfl
    · rename_i h; rw [if_neg h] at hg; exact absurd rfl hg
  have hne : ¬ (((grN c by'.2.1 : Nat) : Int) == 1) = true := by simp only [LB]; omega
  by_cases h7 : 7 ≤ m
  · refine ⟨2 * szT c.1, Ev.sb (Ev.bind (Qy.e hz) (Ev.sb (Ev.bind (Grain_e hz hm) (Ev.neg hne (Ev.bind hst (Ev.pos (decide_eq_true h7) ?_)))))), by omega, by omega⟩
    rw [I64i (by omega)]; exact Ev.ret _
  have h7' : ¬ decide (7 ≤ m) = true := by simpa using h7
  by_cases h4 : (pd != 4) = true
  · cases bk with
    | true => exact ⟨szT c.1, Ev.sb (Ev.bind (Qy.e hz) (Ev.sb (Ev.bind (Grain_e hz hm) (Ev.neg hne (Ev.bind hst (Ev.neg h7' (Ev.pos h4 (Ev.pos rfl (Ev.ret _))))))))), by omega, by omega⟩
    | false =>
      refine ⟨szT c.1 - 1, Ev.sb (Ev.bind (Qy.e hz) (Ev.sb (Ev.bind (Grain_e hz hm) (Ev.neg hne (Ev.bind hst (Ev.neg h7' (Ev.pos h4 (Ev.neg (by decide) ?_)))))))), by omega, by omega⟩
      rw [I64i (by omega), show (szT c.1 : Int) - 1 = ((szT c.1 - 1 : Nat) : Int) by omega]; exact Ev.ret _
  · refine ⟨szT c.1 - 1, Ev.sb (Ev.bind (Qy.e hz) (Ev.sb (Ev.bind (Grain_e hz hm) (Ev.neg hne (Ev.bind hst (Ev.neg h7' (Ev.neg h4 ?_))))))), by omega, by omega⟩
    rw [I64i (by omega), show (szT c.1 : Int) - 1 = ((szT c.1 - 1 : Nat) : Int) by omega]; exact Ev.ret _
theorem Update_l0 (hz : Cz c) (hm : Mi c by') (h9 : m ≤ 9) (hw : hl.length + b.length ≤ 10000) {v : Nat} (hv : grN c by'.2.1 ≤ v + 1) (hv2 : v ≤ 32) (z : Nat) : ∀ {j : Nat} (_ : j * grN c by'.2.1 ≤ hl.length + b.length) (_ : hl.length + b.length - j * grN c by'.2.1 = z),
    Tt (fun k => Q5.l0 k (bg, true, t, m, pd, bk, some c, iv, by', hl, la) b (v : Int) (grN c by'.2.1 : Int) ((j * grN c by'.2.1 : Nat) : Int)) (fun r => Xi r.2.2) := by
  have hs := @Cz.sz c
  have hg := @grN_pos c by'.2.1
  induction z using Nat.strongRecOn with
  | ind z ih =>
  intro j hj hzz
  refine Tt.succ ?_
  simp only [Q5.l0]
  have hlen : ((hl ++ b).length : Int) = (hl.length : Int) + b.length := by rw [List.length_append]; omega
  refine Tt.sb (Tt.di (fun e => ?_) (fun e => ?_))
  · rw [hlen, I64i (by omega)] at e
    rw [I64i (by omega), show ((j * grN c by'.2.1 : Nat) : Int) + (grN c by'.2.1 : Int) = (((j + 1) * grN c by'.2.1 : Nat) : Int) by rw [Nat.add_mul, Nat.one_mul]; omega]
    have h1 : (j + 1) * grN c by'.2.1 = j * grN c by'.2.1 + grN c by'.2.1 := by rw [Nat.add_mul, Nat.one_mul]
    exact ih _ (by omega) (j := j + 1) (by omega) rfl
  · rw [hlen, I64i (by omega)] at e
    refine Tt.gd (by omega) (Tt.gd (by rw [hlen]; omega) (Tt.bind ((turn_both hz hm h9 (by simp only [LN]; omega)).2 j (by simp only [LN]; omega)) fun r hr => ?_))
    obtain ⟨r1, r2⟩ := r
    obtain ⟨by2, la2, rfl, hm2, -, -⟩ := hr
    refine Tt.gd (by omega) (Tt.gd (by simp only; rw [hlen]; omega) (Tt.ebind (Yz.e (by simp only [LN]; omega)) (Tt.ret ?_)))
    exact ⟨_, _, _, _, _, _, _, _, _, _, rfl, hz, h9, hm2, by simp only [LN]; omega⟩
theorem Update_t {s : XT} (h : Xi s) (hb : b.length ≤ 1000) : Tt (fun k => Q5.f k s b) (fun r => Xi r.2.2) := by
  obtain ⟨bg, t, m, pd, bk, c, iv, by', hl, la, rfl, hz, h9, hm, hh⟩ := h
  obtain ⟨v, hv, hv1, hv2⟩ := most_v (bg := bg) (o := true) (t := t) (pd := pd) (bk := bk) (iv := iv) (hl := hl ++ b) (la := la) hz hm h9
  simp only [Q5.f]
  refine Tt.ebind (F := fun k => Q9.f k _) (r := ()) (Ev.of 0 fun _ => rfl) (Tt.gd (by omega) (Tt.ebind hv (Tt.ebind (Grain_e hz hm) ?_)))
  have := Update_l0 (bg := bg) (t := t) (pd := pd) (bk := bk) (iv := iv) (la := la) (b := b) hz hm h9 (hl := hl) (by omega) hv1 hv2 _ (j := 0) (by omega) rfl
  rw [Nat.zero_mul] at this
  exact this
theorem Final_t {s : XT} (h : Xi s) : Tt (fun k => Q3.f k s) (fun _ => True) := by
  obtain ⟨bg, t, m, pd, bk, c, iv, by', hl, la, rfl, hz, h9, hm, hh⟩ := h
  simp only [Q3.f]
  refine Tt.ebind (F := fun k => Q9.f k _) (r := ()) (Ev.of 0 fun _ => rfl) ?_
  rcases end_c (bg := bg) (o := false) (t := t) (pd := pd) (bk := bk) (iv := iv) (hl := []) (la := la) (b := hl) hz hm h9 (by omega) with ⟨n, h⟩ | ⟨h, h2⟩
  · exact ⟨_, Ev.orS h (Ev.ret _), trivial⟩
  · obtain ⟨r, hr, -⟩ := h2
    exact ⟨_, Ev.orN h (Ev.bind hr (Ev.ret _)), trivial⟩
end
end Go.Scr.S

namespace Go.Scr.S
theorem within15_t {a n : Int} (h0 : 0 < n) (h1 : n ≤ 1000000) : Tt (fun k => Yq.f k a n) (fun r => 0 ≤ r ∧ r < n) := by
  simp only [Yq.f]
  have h2 := tm1 (a := a) h0
  have h3 := tm2 (a := a) h0
  refine Tt.gn (by omega) (Tt.di (fun _ => Tt.ret ?_) (fun _ => Tt.ret ⟨by omega, h2⟩))
  rw [I64i (by omega)]; omega
theorem IV_t {m : Int} {n : Nat} {b : List Int} (hb : Bw 0 255 b) (hn : n ≤ 16) : Tt (fun k => Ym.f k m (n : Int) b) (fun r => r.length = if m = 1 then 0 else n) := by
  simp only [Ym.f]
  refine Tt.ite (fun e => Tt.ret ?_) (fun e => Tt.bind (Yg.t (by omega) (by omega) hb) (fun r hr => Tt.ret ?_))
  · rw [if_pos (by simpa using e)]; rfl
  · rw [if_neg (by simpa using e), hr.1]; omega
/-- What may be asked for. -/
def Cg (r : (Int × Int × Int × Bool) × List Int × List Int) : Prop := 1 ≤ r.1.1 ∧ r.1.1 ≤ 8 ∧ 1 ≤ r.1.2.1 ∧ r.1.2.1 ≤ 9 ∧ 1 ≤ r.1.2.2.1 ∧ r.1.2.2.1 ≤ 4 ∧ (r.1.2.1 ≤ 2 ∨ r.1.2.2.1 = 4) ∧ Bw 0 255 r.2.1 ∧ Vd r.1.1 r.2.1.length (szT r.1.1) ∧ r.2.2.length = if r.1.2.1 = 1 then 0 else szT r.1.1
theorem Make_t {a : Int × Int × Int × Int × Bool × List Int × List Int} (hk : Bw 0 255 a.2.2.2.2.2.1) (hi : Bw 0 255 a.2.2.2.2.2.2) : Tt (fun k => Yp.f k a) Cg := by
  simp only [Yp.f]
  refine Tt.bind Tag_t (fun t ht => Tt.bind (within15_t (by decide) (by decide)) (fun m hm => ?_))
  have h16 : szT t ≤ 16 := by unfold szT; split <;> omega
  refine Tt.di (fun e => ?_) (fun e => ?_)
  · refine Tt.bind (within15_t (by decide) (by decide)) (fun p hp => Tt.bind (Key_t ht.1 ht.2 hk) (fun key hkey => Tt.ebind (Size_e ht.1 ht.2) (Tt.bind (IV_t hi h16) (fun iv hiv => Tt.ret ?_))))
    rw [I64i (by omega)] at e hiv
    refine ⟨ht.1, ht.2, ?_, ?_, ?_, ?_, .inl ?_, hkey.1, hkey.2, ?_⟩ <;> simp only [I64i (x := 1 + m) (by omega), I64i (x := 1 + p) (by omega)] <;> first | omega | exact hiv
  · refine Tt.bind (Key_t ht.1 ht.2 hk) (fun key hkey => Tt.ebind (Size_e ht.1 ht.2) (Tt.bind (IV_t hi h16) (fun iv hiv => Tt.ret ?_)))
    rw [I64i (by omega)] at e hiv
    refine ⟨ht.1, ht.2, ?_, ?_, ?_, ?_, .inr rfl, hkey.1, hkey.2, ?_⟩ <;> simp only [I64i (x := 1 + m) (by omega)] <;> first | omega | exact hiv
theorem NewM_t {c : CT} {m : Int} {bk : Bool} {iv : List Int} (hz : Cz c) (h1 : 1 ≤ m) (h6 : m ≤ 6) (hi : iv.length = if m = 1 then 0 else szT c.1) : Tt (fun k => V8.f k c m bk iv) (fun r => Mi c r.1) := by
  have hs := @Cz.sz c
  simp only [V8.f, Mi]
  refine Tt.ebind (Qy.e hz) ?_
  split at hi
  · rename_i e; subst e
    exact Tt.pos rfl (Tt.neg (by simp [hi]) (Tt.ebind (Yz.e (by omega)) (Tt.ret ⟨rfl, ⟨h1, h6⟩, .inl rfl, .inl rfl⟩)))
  · rename_i e
    repeat' with_reducible first | refine Tt.ret ?_ | refine Tt.ebind (Yz.e ?_) ?_ | refine Tt.ite (fun _ => ?_) fun _ => ?_
    all_goals try simp only [LB] at *
    all_goals first | omega | exact ⟨rfl, ⟨h1, h6⟩, .inr hi, .inl rfl⟩ | exact ⟨trivial, ⟨h1, h6⟩, .inr hi, .inl rfl⟩ | (exact ⟨trivial, ⟨h1, h6⟩, .inr hi, .inl trivial⟩)
theorem kind_t {m : Int} (h1 : 1 ≤ m) (h9 : m ≤ 9) : Tt (fun k => Yw.f k m) (fun K => (m ≤ 2 ∧ K = 1) ∨ (2 < m ∧ m ≤ 6 ∧ K = 2) ∨ (6 < m ∧ K = 3)) := by
  simp only [Yw.f]
  repeat' with_reducible first | refine Tt.ret ?_ | refine Tt.ite (fun _ => ?_) fun _ => ?_
  all_goals try simp only [LB] at *
  all_goals first | omega | (simp; omega)
theorem Check_t {t m p : Int} {bk : Bool} {key iv : List Int} (h : Cg ((t, m, p, bk), key, iv)) {c : CT} (hN : Ev (fun k => Q1.f k t key) (some c, 0)) (hz : Cz c) (hc : c.1 = t) : Tt (fun k => Yu.f k (t, m, p, bk) key iv) (fun r => r = 0) := by
  obtain ⟨h1, h2, h3, h4, h5, h6, h7, h8, h9, h10⟩ := h
  simp only at h1 h2 h3 h4 h5 h6 h7 h8 h9 h10
  have hs := @Cz.sz c
  rw [← hc] at h10
  simp only [Yu.f, Yx.f]
  refine Tt.bind (Q := fun r => r.2 = 0) (Tt.ebind hN (Tt.neg (by simp) (Tt.bind (kind_t h3 h4) (fun K hK => Tt.sb (Tt.ebind (Qy.e hz) ?_))))) (fun r hr => Tt.ret hr)
  repeat' with_reducible first | refine Tt.ret ?_ | refine Tt.di (fun _ => ?_) fun _ => ?_ | refine Tt.ite (fun _ => ?_) fun _ => ?_
  all_goals first | rfl | (exfalso; simp only [LB] at *; first | omega | (split at h10 <;> omega))
theorem Init_t {r : (Int × Int × Int × Bool) × List Int × List Int} (h : Cg r) : Tt (fun k => Q4.f k (false, false, 0, 0, 0, false, none, [], none, [], []) r.1 r.2.1 r.2.2) (fun q => q.1 = 0 ∧ Xi q.2) := by
  obtain ⟨⟨t, m, p, bk⟩, key, iv⟩ := r
  have hCg := h
  obtain ⟨h1, h2, h3, h4, h5, h6, h7, h8, h9, h10⟩ := h
  simp only at h1 h2 h3 h4 h5 h6 h7 h8 h9 h10
  obtain ⟨q, hN, c, rfl, hw, hc⟩ := Q1.t h8 h9
  have hz : Cz c := ⟨by rw [hc]; exact hw, by omega, by omega⟩
  have hs := @Cz.sz c
  have hiv : iv.length ≤ 16 := by rw [h10, ← hc]; split <;> omega
  obtain ⟨e0, hCh, rfl⟩ := Check_t hCg hN hz hc
  simp only [Q4.f]
  refine Tt.ebind hCh (Tt.neg (by decide) (Tt.ebind hN (Tt.sb (Tt.ebind (Yz.e (by omega)) (Tt.bind (Q := Xi) ?_ (fun s hs => Tt.ret ⟨rfl, hs⟩))))))
  simp only [Q6.f]
  refine Tt.ebind (stolen_e h4) (Tt.ite (fun e => ?_) (fun e => ?_))
  · have e7 : 7 ≤ m := of_decide_eq_true e
    refine Tt.sb (Tt.bind (NewM_t hz (by decide) (by decide) (by rw [h10, if_neg (by omega), if_neg (by decide), hc])) (fun b hb => Tt.ebind (Yz.e (by omega)) (Tt.ret ?_)))
    exact ⟨_, _, _, _, _, _, _, _, _, _, rfl, hz, h4, hb, by simp⟩
  · have e7 : ¬ 7 ≤ m := by simpa using e
    refine Tt.sb (Tt.bind (NewM_t hz h3 (by omega) (by rw [h10, hc])) (fun b hb => Tt.ebind (Yz.e (by omega)) (Tt.ret ?_)))
    exact ⟨_, _, _, _, _, _, _, _, _, _, rfl, hz, h4, hb, by simp⟩
theorem mem_flat {x : List Int} : ∀ {L : List (List Int)}, x ∈ L → x.length ≤ L.flatten.length
  | [], h => by cases h
  | y :: L, h => by
    rw [List.flatten_cons, List.length_append]
    rcases List.mem_cons.1 h with rfl | h
    · omega
    · have := mem_flat h; omega
theorem rdr_len {L : List (List Int)} {i : Int} : (rdr ([] : List Int) L i).length ≤ L.flatten.length := by
  unfold rdr
  by_cases h : i.toNat < L.length
  · rw [List.getD_eq_getElem?_getD, List.getElem?_eq_getElem h, Option.getD_some]
    exact mem_flat (List.getElem_mem h)
  · rw [List.getD_eq_getElem?_getD, List.getElem?_eq_none (by omega)]; exact Nat.zero_le _
theorem Apart_l0 {L1 L2 : List (List Int)} (h1 : L1.flatten.length ≤ 1000) (h2 : L2.flatten.length ≤ 1000) (hL : L1.length ≤ 41) (z : Nat) : ∀ {x y : XT} {i : Int} (_ : 0 ≤ i) (_ : (L1.length - i.toNat) = z) (_ : Xi x) (_ : Xi y), Tt (fun k => scrimtop_TopApart.l0 k L1 L2 x y x i) (fun b => b = true) := by
  induction z using Nat.strongRecOn with
  | ind z ih =>
  intro x y i hi hzz hx hy
  refine Tt.succ ?_
  simp only [scrimtop_TopApart.l0]
  refine Tt.di (fun e => Tt.gd hi (Tt.gd e ?_)) (fun e => ?_)
  · obtain ⟨r, hr, hq⟩ := Update_t hx (b := rdr [] L1 i) (Nat.le_trans rdr_len h1)
    refine Tt.ebind hr (Tt.di (fun e2 => Tt.gd hi (Tt.gd e2 (Tt.bind (Update_t hy (b := rdr [] L2 i) (Nat.le_trans rdr_len h2)) (fun r2 hr2 => Tt.gd hi (Tt.gd e (Tt.ebind hr (Tt.sb (Tt.neg (by simp) ?_)))))))) (fun e2 => Tt.gd hi (Tt.gd e (Tt.ebind hr (Tt.sb (Tt.neg (by simp) ?_))))))
    · rw [I64i (by omega)]; exact ih _ (by omega) (by omega) rfl hq hr2
    · rw [I64i (by omega)]; exact ih _ (by omega) (by omega) rfl hq hy
  · obtain ⟨r, hr, -⟩ := Final_t hx
    obtain ⟨r2, hr2, -⟩ := Final_t hy
    exact Tt.ebind hr2 (Tt.ebind hr (Tt.ebind hr (Tt.pos (by simp) (Tt.ret (by simp)))))
theorem known_e : Ev (fun k => Yt.f k) true := Ev.of 400 fun m => by kernel_rfl
theorem TopApart_t {a0 a1 : Int × Int × Int × Int × Bool × List Int × List Int} {a2 a3 a4 : List Int} (hk0 : Bw 0 255 a0.2.2.2.2.2.1) (hi0 : Bw 0 255 a0.2.2.2.2.2.2) (hk1 : Bw 0 255 a1.2.2.2.2.2.1) (hi1 : Bw 0 255 a1.2.2.2.2.2.2) :
    Tt (fun k => scrimtop_TopApart.f k a0 a1 a2 a3 a4) (fun b => b = true) := by
  simp only [scrimtop_TopApart.f]
  have few : ∀ a : Int × Int × Int × Int × Bool × List Int × List Int, Tt (fun k => Yo.f k a) (fun _ => True) := fun a => by
    simp only [Yo.f]
    exact Tt.di (fun _ => Tt.ret trivial) (fun _ => Tt.ret trivial)
  have new : Ev (fun k => Vc.f k) (false, false, 0, 0, 0, false, none, [], none, [], []) := Ev.of 0 fun _ => rfl
  refine Tt.ebind known_e (Tt.neg (by decide) (Tt.di (fun _ => Tt.ret rfl) (fun hl => Tt.di (fun _ => Tt.ret rfl) (fun hl2 => ?_))))
  refine Tt.bind (few a0) (fun f0 _ => Tt.ite (fun _ => Tt.ret rfl) (fun _ => Tt.bind (few a1) (fun f1 _ => Tt.ite (fun _ => Tt.ret rfl) (fun _ => ?_))))
  refine Tt.ebind new (Tt.ebind new (Tt.ebind new (Tt.bind (Make_t hk0 hi0) (fun c hc => Tt.bind (Make_t hk1 hi1) (fun d hd => ?_)))))
  obtain ⟨x, hx, hx0, hxi⟩ := Init_t hc
  obtain ⟨y, hy, hy0, hyi⟩ := Init_t hd
  refine Tt.ebind hx (Tt.neg (by rw [hx0]; decide) (Tt.ebind hy (Tt.neg (by rw [hy0]; decide) (Tt.ebind hx (Tt.neg (by rw [hx0]; decide) (Tt.bind Cut_t (fun L1 h1 => Tt.bind Cut_t (fun L2 h2 => ?_))))))))
  exact Apart_l0 (by rw [h1.1]; omega) (by rw [h2.1]; omega) h1.2 _ (by decide) rfl hxi hyi
end Go.Scr.S

namespace Go.Scr.S
theorem TopApart (a0 a1 : Int × Int × Int × Int × Bool × List Int × List Int) (a2 a3 a4 : List Int) (h0 : ∀ x ∈ a0.2.2.2.2.2.1, In .u8 x) (h1 : ∀ x ∈ a0.2.2.2.2.2.2, In .u8 x) (h2 : ∀ x ∈ a1.2.2.2.2.2.1, In .u8 x) (h3 : ∀ x ∈ a1.2.2.2.2.2.2, In .u8 x) : ∃ k, scrimtop_TopApart.f k a0 a1 a2 a3 a4 = some true := by
  have hb : ∀ l : List Int, (∀ x ∈ l, In .u8 x) → Bw 0 255 l := fun l h x hx => by
    have h : 0 ≤ x ∧ x < 256 := h x hx
    omega
  obtain ⟨b, he, rfl⟩ := TopApart_t (a2 := a2) (a3 := a3) (a4 := a4) (hb _ h0) (hb _ h1) (hb _ h2) (hb _ h3)
  obtain ⟨n, hn⟩ := he
  exact ⟨n, hn n (Nat.le_refl _)⟩
end Go.Scr.S
