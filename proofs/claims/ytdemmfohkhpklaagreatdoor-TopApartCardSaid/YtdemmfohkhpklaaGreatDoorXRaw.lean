/- Strings and bytes. -/
import Derived.Test.YtdemmfohkhpklaaGreatDoorXDeep3
import Derived.ArgAppend
/- Rows as whole blocks: what stands behind a cut front, appended to. -/
set_option linter.unnecessarySimpa false
set_option linter.unusedVariables false
set_option linter.unusedSimpArgs false
namespace Go.Scr
open Go.RowKit (Below)
variable {D : List Deferred}
section
variable {P : Program} {n : Nat} {k k2 : List Item} {L : Env} {w w0 W : World} {H1 H2 : List Ent}

theorem set_mid (cs r : List Value) (v : Value) (o : Nat) (h : o + 1 + r.length ≤ cs.length) :
    (cs.set o v).take (o + 1) ++ r ++ (cs.set o v).drop (o + 1 + r.length) = cs.take o ++ (v :: r) ++ cs.drop (o + (v :: r).length) := by
  have ho : o < cs.length := by omega
  have e1 : (cs.set o v).take (o + 1) = cs.take o ++ [v] := by
    rw [List.take_succ_eq_append_getElem (by rw [List.length_set]; exact ho), List.getElem_set_self, List.take_set, List.set_eq_of_length_le (by rw [List.length_take]; omega)]
  have e2 : (cs.set o v).drop (o + 1 + r.length) = cs.drop (o + (v :: r).length) := by
    rw [List.drop_set, if_pos (by omega), List.length_cons]; congr 1; omega
  rw [e1, e2]; simp

theorem Mem.setMany {g : Nat} {ty : TypeId} : ∀ (vs : List Value) (o : Nat) (W : World) (cs : List Value), Mem w0 W (H1 ++ ⟨.pointer (some ⟨g, 0, none⟩), ty, 0, cs⟩ :: H2) → o + vs.length ≤ cs.length →
    Mem w0 (W.setCells g o vs) (H1 ++ ⟨.pointer (some ⟨g, 0, none⟩), ty, 0, cs.take o ++ vs ++ cs.drop (o + vs.length)⟩ :: H2) ∧ Still W [.pointer (some ⟨g, 0, none⟩)] (W.setCells g o vs)
  | [], o, W, cs, h, _ => by
    refine ⟨?_, Still.refl _ _⟩
    have e : cs.take o ++ [] ++ cs.drop (o + ([] : List Value).length) = cs := by simp
    rw [e]; exact h
  | v :: r, o, W, cs, h, hl => by
    have hlen : o + 1 + r.length ≤ cs.length := by rw [List.length_cons] at hl; omega
    have s := Mem.set H1 H2 h (g := g) rfl o (by show o < cs.length; omega) v
    have ih := Mem.setMany r (o + 1) _ _ s (by show o + 1 + r.length ≤ (cs.set o v).length; rw [List.length_set]; exact hlen)
    have e := set_mid cs r v o hlen
    refine ⟨?_, ?_⟩
    · have := ih.1
      rw [show ({ v := Value.pointer (some ⟨g, 0, none⟩), ty := ty, sz := 0, cs := cs } : Ent).cs = cs from rfl] at this
      rw [e] at this
      exact this
    · exact (Still.set (Still.refl W _) (List.mem_singleton.2 rfl) rfl v).trans ih.2

theorem Mem.raw {A : Option Addr} {m c : Nat} {ty : TypeId} {cs : List Value} (h : Mem w0 W (H1 ++ ⟨.slice A m c, ty, 1, cs⟩ :: H2)) (hm : 0 < m) :
    ∃ g sp, A = some ⟨g, 0, none⟩ ∧ c = m + List.length sp ∧ Mem w0 W (H1 ++ ⟨.pointer (some ⟨g, 0, none⟩), ty, 0, cs ++ sp⟩ :: H2) := by
  have he : (⟨.slice A m c, ty, 1, cs⟩ : Ent) ∈ H1 ++ ⟨.slice A m c, ty, 1, cs⟩ :: H2 := by simp
  obtain ⟨hok, hge⟩ := h.ok _ he
  have hown : W.ownsRow 0 ty 1 (.slice A m c) m cs := hok
  rcases hown.2 with ⟨e1, e2⟩ | ⟨g, cap, cur, hv, hb, hg, hc1, hc2, hc3, hc4⟩
  · omega
  · injection hv with hv1 hv2 hv3
    subst hv1; subst hv3
    have hcur : cur.toList = cs ++ cur.toList.drop m := by rw [Nat.mul_one] at hc4; rw [← hc4, List.take_append_drop]
    refine ⟨g, cur.toList.drop m, rfl, by rw [List.length_drop]; simp at hc3 ⊢; omega, ?_⟩
    have hsep := List.pairwise_append.1 h.sep
    have hsep2 := List.pairwise_cons.1 hsep.2.1
    refine ⟨h.below, fun e he => ?_, ?_⟩
    · rcases List.mem_append.1 he with he | he
      · exact h.ok e (List.mem_append_left _ he)
      · rcases List.mem_cons.1 he with rfl | he
        · refine ⟨⟨rfl, rfl, ?_⟩, fun g' hg' => hge g' hg'⟩
          show W.heap[g]? = some (.cells (cs ++ cur.toList.drop m).toArray ty (0, 0))
          rw [← hcur]; simpa using hg
        · exact h.ok e (List.mem_append_right _ (List.mem_cons_of_mem _ he))
    · refine List.pairwise_append.2 ⟨hsep.1, List.Pairwise.cons (fun y hy g' hg' => hsep2.1 y hy g' hg') hsep2.2, fun x hx y hy => ?_⟩
      rcases List.mem_cons.1 hy with rfl | hy
      · exact fun g' hg' hn => hsep.2.2 x hx _ List.mem_cons_self g' hg' hn
      · exact hsep.2.2 x hx y (List.mem_cons_of_mem _ hy)

theorem Mem.rawRd {g o m c : Nat} {ty : TypeId} {fr xs sp : List Value} (h : Mem w0 W (H1 ++ ⟨.pointer (some ⟨g, 0, none⟩), ty, 0, fr ++ xs ++ sp⟩ :: H2)) (ho : o = fr.length) (hm : m = xs.length) (hc : m ≤ c) : Rd W (.slice (some ⟨g, o, none⟩) m c) xs := by
  subst ho; subst hm
  have he : (⟨.pointer (some ⟨g, 0, none⟩), ty, 0, fr ++ xs ++ sp⟩ : Ent) ∈ H1 ++ ⟨.pointer (some ⟨g, 0, none⟩), ty, 0, fr ++ xs ++ sp⟩ :: H2 := by simp
  have hb : W.heap[g]? = some (.cells (fr ++ xs ++ sp).toArray ty (0, 0)) := (h.ok _ he).1.2.2
  refine ⟨rfl, hc, fun i u hi => ⟨_, rfl, ?_⟩⟩
  have hlt : i < xs.length := (List.getElem?_eq_some_iff.1 hi).1
  rw [add_at]
  unfold World.cell?
  simp only [hb]
  have : (fr ++ xs ++ sp)[fr.length + i]? = some u := by
    rw [List.append_assoc, List.getElem?_append_right (by omega), Nat.add_sub_cancel_left, List.getElem?_append_left hlt]; exact hi
  simpa using this

theorem app_raw {d : Option Nat} {e : TypeId} {A2 : Option Addr} {g o m c m2 c2 : Nat} {fr xs sp ys : List Value} (H1 H2 : List Ent) (h : appAt P n k L = some (d, e, .slice (some ⟨g, o, none⟩) m c, .slice A2 m2 c2, k2))
    (hM : Mem w0 w (H1 ++ ⟨.pointer (some ⟨g, 0, none⟩), e, 0, fr ++ xs ++ sp⟩ :: H2)) (ho : o = fr.length) (hm : m = xs.length) (hc : c = m + sp.length) (hR : Rd w (.slice A2 m2 c2) ys) (h1 : ∀ u ∈ ys, oneC u = true) (hl : m + m2 ≤ 1099511627776) :
    ∃ g' fr' sp' W1, Does P n k L w d (.slice (some ⟨g', List.length fr', none⟩) (xs ++ ys).length ((xs ++ ys).length + List.length sp')) W1 k2 ∧ Mem w0 W1 (H1 ++ ⟨.pointer (some ⟨g', 0, none⟩), e, 0, fr' ++ (xs ++ ys) ++ sp'⟩ :: H2) ∧ Still w [.pointer (some ⟨g, 0, none⟩)] W1 ∧ (g' = g ∨ w.heap.size ≤ g') := by
  subst ho; subst hm; subst hc
  obtain ⟨o, cl, t, s, x, info, z, hcur, hd, hop, hcal, hargs, htys, hu, hi, hz, hs, hb, hoc, hvs, hvx⟩ := appAt_spec h
  obtain ⟨hr1, hr2, hr3⟩ := hR
  have hone : ∀ u ∈ ys, u.oneCell' = true := fun u hu => by have := h1 u hu; cases u <;> first | rfl | cases this
  have he : (⟨.pointer (some ⟨g, 0, none⟩), e, 0, fr ++ xs ++ sp⟩ : Ent) ∈ H1 ++ ⟨.pointer (some ⟨g, 0, none⟩), e, 0, fr ++ xs ++ sp⟩ :: H2 := by simp
  have hbk : w.heap[g]? = some (.cells (fr ++ xs ++ sp).toArray e (0, 0)) := (hM.ok _ he).1.2.2
  have hge : w0.heap.size ≤ g := (hM.ok _ he).2 g rfl
  have cellAt : ∀ j u, (fr ++ xs ++ sp)[j]? = some u → w.cell? ⟨g, j, none⟩ = some u := fun j u hj => by
    unfold World.cell?
    simp only [hbk]
    simpa using hj
  have hexec : ∀ {v' : Value} {w' : World}, (Builtin.append_ #[t, t] o.type #[.slice (some ⟨g, fr.length, none⟩) xs.length (xs.length + sp.length), .slice A2 m2 c2]).run P w = .ok v' w' → Does P n k L w d v' w' k2 := by
    intro v' w' hrun
    refine ⟨o, hcur, hd, ?_⟩
    have hm : cl.args.map (ev L) = #[.slice (some ⟨g, fr.length, none⟩) xs.length (xs.length + sp.length), .slice A2 m2 c2] := by simp [hargs, hvs, hvx]
    simp only [execOp, hop, resolve, hcal, htys, bind, Sem.bind, pure, invoke, builtin, hm]
    exact run_next hrun
  cases A2 with
  | none =>
    have hy : ys = [] := by
      cases ys with
      | nil => rfl
      | cons u r => obtain ⟨ad, h3, _⟩ := hr3 0 u rfl; cases h3
    subst hy
    simp only [List.length_nil] at hr1
    subst hr1
    refine ⟨g, fr, sp, w, ?_, by simpa using hM, Still.refl _ _, .inl rfl⟩
    rw [List.append_nil]
    refine hexec ?_
    simp only [Builtin.append_, Sem.run_bind]
    simp [run_underlying hu, sizeOf, typeInfo, hi, hs, Builtin.lenOf, Builtin.firstCells, storeCells]
  | some a2 =>
    have hnews : ∀ j u, ys[j]? = some u → w.cell? (a2.add j) = some u := fun j u hj => by
      obtain ⟨ad, h3, h4⟩ := hr3 j u hj
      injection h3 with h3; subst h3; exact h4
    by_cases hroom : xs.length + m2 ≤ xs.length + sp.length
    · have hfz : ∀ a : Addr, a.block = g → w.frozen? a = false := fun a ha => by unfold World.frozen?; rw [ha, hbk]; simp
      have hlt : ∀ j, j < ys.length → fr.length + xs.length + j < (fr ++ xs ++ sp).length := fun j hj => by simp only [List.length_append]; omega
      have hrun := run_append_room_cells (P := P) w t o.type e info hu hi g fr.length xs.length (xs.length + sp.length) a2 m2 c2 ys (by rw [hs, Nat.mul_one]; exact hr1) hnews hone hroom
        (fun j hj => by
          rw [hs, Nat.mul_one]
          rw [cellAt _ _ (List.getElem?_eq_getElem (hlt j hj))]; rfl)
        (fun j hj => hfz _ rfl)
      rw [hs, Nat.mul_one] at hrun
      obtain ⟨q1, q2⟩ := Mem.setMany ys (fr.length + xs.length) w (fr ++ xs ++ sp) hM (by simp only [List.length_append]; omega)
      refine ⟨g, fr, sp.drop ys.length, _, ?_, ?_, q2, .inl rfl⟩
      · have e1 : (xs ++ ys).length = xs.length + m2 := by rw [List.length_append, hr1]
        have e2 : (xs ++ ys).length + (sp.drop ys.length).length = xs.length + sp.length := by rw [e1, List.length_drop]; omega
        rw [e2, e1]
        exact hexec hrun
      · have e3 : (fr ++ xs ++ sp).take (fr.length + xs.length) ++ ys ++ (fr ++ xs ++ sp).drop (fr.length + xs.length + ys.length) = fr ++ (xs ++ ys) ++ sp.drop ys.length := by
          have f1 : (fr ++ xs ++ sp).take (fr.length + xs.length) = fr ++ xs := by rw [← List.length_append, List.take_left]
          have f2 : (fr ++ xs ++ sp).drop (fr.length + xs.length + ys.length) = sp.drop ys.length := by
            rw [← List.length_append, List.drop_append, List.drop_eq_nil_of_le (by omega), List.nil_append]; congr 1; omega
          rw [f1, f2]; simp
        rw [e3] at q1; exact q1
    · have holds : ∀ j u, xs[j]? = some u → w.cell? ((⟨g, fr.length, none⟩ : Addr).add j) = some u := fun j u hj => by
        rw [add_at]
        refine cellAt _ _ ?_
        have hlt : j < xs.length := (List.getElem?_eq_some_iff.1 hj).1
        rw [List.append_assoc, List.getElem?_append_right (by omega), Nat.add_sub_cancel_left, List.getElem?_append_left hlt]; exact hj
      have hlim : (xs.length + m2) * info.bytes ≤ 140737488355328 := by
        calc (xs.length + m2) * info.bytes ≤ 1099511627776 * 64 := Nat.mul_le_mul hl hb
          _ ≤ 140737488355328 := by decide
      obtain ⟨v', w', hrun, hown, hgr⟩ := run_append_arg_grows (P := P) w t o.type e info z 1 info.bytes hu hi hz hs rfl (by rw [oneC_cells hoc]; rfl) (by omega) ⟨g, fr.length, none⟩ xs.length (xs.length + sp.length) xs (by omega) holds a2 m2 c2 ys (by omega) hnews (by omega) (Nat.le_trans hl (by decide)) hlim
      rcases hown.2 with ⟨e1, e2⟩ | ⟨g', cap, cur, hv, hgb, hg, hc1, hc2, hc3, hc4⟩
      · omega
      · subst hv
        have hlen : (xs ++ ys).length = xs.length + m2 := by rw [List.length_append, hr1]
        have hcur : cur.toList = (xs ++ ys) ++ cur.toList.drop (xs.length + m2) := by rw [Nat.mul_one] at hc4; rw [← hc4, List.take_append_drop]
        refine ⟨g', [], cur.toList.drop (xs.length + m2), w', ?_, ?_, ⟨hgr.size, fun b hlt _ => hgr.block b hlt (by simp)⟩, .inr hgb⟩
        · have e2 : (xs ++ ys).length + (cur.toList.drop (xs.length + m2)).length = cap := by rw [hlen, List.length_drop]; simp at hc3 ⊢; omega
          rw [e2, hlen]
          exact hexec hrun
        · have hsep := List.pairwise_append.1 hM.sep
          have hsep2 := List.pairwise_cons.1 hsep.2.1
          have hlt0 : ∀ x : Ent, x.ok w → ∀ q, blk x.v = some q → q < w.heap.size := fun x hx q hq => Ent.lt hx q hq
          have keep : ∀ x : Ent, x.ok w → x.ok w' := fun x hx => Ent.ok_of hx fun q hq => hgr.block q (hlt0 x hx q hq) (by simp)
          have h0 := hM.below.size
          refine ⟨⟨hgr.os.trans hM.below.os, hgr.tape.trans hM.below.tape, hgr.output.trans hM.below.output, Nat.le_trans h0 hgr.size, fun q hq => (hgr.block q (by omega) (by simp)).trans (hM.below.block q hq)⟩, fun x hx => ?_, ?_⟩
          · rcases List.mem_append.1 hx with hx | hx
            · exact ⟨keep x (hM.ok x (List.mem_append_left _ hx)).1, (hM.ok x (List.mem_append_left _ hx)).2⟩
            · rcases List.mem_cons.1 hx with rfl | hx
              · refine ⟨⟨rfl, rfl, ?_⟩, fun q hq => ?_⟩
                · show w'.heap[g']? = some (.cells ([] ++ (xs ++ ys) ++ cur.toList.drop (xs.length + m2)).toArray e (0, 0))
                  rw [List.nil_append, ← hcur]; simpa using hg
                · injection hq with hq; subst hq; exact Nat.le_trans h0 hgb
              · exact ⟨keep x (hM.ok x (List.mem_append_right _ (List.mem_cons_of_mem _ hx))).1, (hM.ok x (List.mem_append_right _ (List.mem_cons_of_mem _ hx))).2⟩
          · have far : ∀ x : Ent, x.ok w → apart x ⟨.pointer (some ⟨g', 0, none⟩), e, 0, [] ++ (xs ++ ys) ++ cur.toList.drop (xs.length + m2)⟩ := fun x hx q hq hn => by
              have := hlt0 x hx q hq
              injection hn with hn
              subst hn
              exact absurd this (Nat.not_lt.2 hgb)
            refine List.pairwise_append.2 ⟨hsep.1, List.Pairwise.cons (fun y hy => (far y (hM.ok y (List.mem_append_right _ (List.mem_cons_of_mem _ hy))).1).symm) hsep2.2, fun x hx y hy => ?_⟩
            rcases List.mem_cons.1 hy with rfl | hy
            · exact far x (hM.ok x (List.mem_append_left _ hx)).1
            · exact hsep.2.2 x hx y (List.mem_cons_of_mem _ hy)

theorem app_rawN {kd : IntKind} {d : Option Nat} {e : TypeId} {A2 : Option Addr} {g m2 c2 : Nat} {fr sp : List Value} {a b : List Int} (H1 H2 : List Ent) (h : appAt P n k L = some (d, e, .slice (some ⟨g, fr.length, none⟩) a.length (a.length + sp.length), .slice A2 m2 c2, k2))
    (hM : Mem w0 w (H1 ++ ⟨.pointer (some ⟨g, 0, none⟩), e, 0, fr ++ nums kd a ++ sp⟩ :: H2)) (hR : Rd w (.slice A2 m2 c2) (nums kd b)) (hl : a.length + b.length ≤ 1099511627776) :
    ∃ g' fr' sp' W1, Does P n k L w d (.slice (some ⟨g', List.length fr', none⟩) (a ++ b).length ((a ++ b).length + List.length sp')) W1 k2 ∧ Mem w0 W1 (H1 ++ ⟨.pointer (some ⟨g', 0, none⟩), e, 0, fr' ++ nums kd (a ++ b) ++ sp'⟩ :: H2) ∧ Still w [.pointer (some ⟨g, 0, none⟩)] W1 ∧ (g' = g ∨ w.heap.size ≤ g') := by
  have hm2 : b.length = m2 := by have := hR.1; rw [nums_length] at this; exact this
  obtain ⟨g', fr', sp', W1, h1, h2, h3, h4⟩ := app_raw H1 H2 h hM rfl (by rw [nums_length]) rfl hR (one_nums kd b) (by omega)
  rw [nums_append] at h1 h2
  rw [nums_length] at h1
  exact ⟨g', fr', sp', W1, h1, h2, h3, h4⟩

theorem app_rawV {kd : IntKind} {d : Option Nat} {e : TypeId} {A2 : Option Addr} {g m2 c2 l : Nat} {sp : List Value} {a b : List Int} (H1 H2 : List Ent) (h : appAt P n k L = some (d, e, .slice (some ⟨g, l, none⟩) (a.length - l) (a.length + sp.length - l), .slice A2 m2 c2, k2))
    (hM : Mem w0 w (H1 ++ ⟨.pointer (some ⟨g, 0, none⟩), e, 0, nums kd a ++ sp⟩ :: H2)) (hl0 : l ≤ a.length) (hR : Rd w (.slice A2 m2 c2) (nums kd b)) (hl : a.length + b.length ≤ 1099511627776) :
    ∃ g' fr' sp' W1, Does P n k L w d (.slice (some ⟨g', List.length fr', none⟩) (a.drop l ++ b).length ((a.drop l ++ b).length + List.length sp')) W1 k2 ∧ Mem w0 W1 (H1 ++ ⟨.pointer (some ⟨g', 0, none⟩), e, 0, fr' ++ nums kd (a.drop l ++ b) ++ sp'⟩ :: H2) ∧ Still w [.pointer (some ⟨g, 0, none⟩)] W1 ∧ (g' = g ∨ w.heap.size ≤ g') := by
  have e1 : nums kd a ++ sp = nums kd (a.take l) ++ nums kd (a.drop l) ++ sp := by rw [nums_append, List.take_append_drop]
  have e2 : (nums kd (a.take l)).length = l := by rw [nums_length, List.length_take]; omega
  have e3 : a.length - l = (a.drop l).length := by rw [List.length_drop]
  have e4 : a.length + sp.length - l = (a.drop l).length + sp.length := by rw [List.length_drop]; omega
  rw [e1] at hM
  rw [e3, e4] at h
  have h' : appAt P n k L = some (d, e, .slice (some ⟨g, (nums kd (a.take l)).length, none⟩) (a.drop l).length ((a.drop l).length + sp.length), .slice A2 m2 c2, k2) := by rw [e2]; exact h
  exact app_rawN H1 H2 h' hM hR (by rw [List.length_drop]; omega)

theorem Mem.rawAt {g m c : Nat} {ty : TypeId} {fr xs sp : List Value} {H : List Ent} (h : Mem w0 W H) (j : Nat) (hj : H[j]? = some ⟨.pointer (some ⟨g, 0, none⟩), ty, 0, fr ++ xs ++ sp⟩) (hm : m = xs.length) (hc : m ≤ c) : Rd W (.slice (some ⟨g, fr.length, none⟩) m c) xs := by
  have he := List.mem_of_getElem? hj
  obtain ⟨s, t, rfl⟩ := List.append_of_mem he
  exact Mem.rawRd h rfl hm hc
theorem Mem.rawAt0 {g m c : Nat} {ty : TypeId} {xs sp : List Value} {H : List Ent} (h : Mem w0 W H) (j : Nat) (hj : H[j]? = some ⟨.pointer (some ⟨g, 0, none⟩), ty, 0, xs ++ sp⟩) (hm : m = xs.length) (hc : m ≤ c) : Rd W (.slice (some ⟨g, 0, none⟩) m c) xs :=
  Mem.rawAt (fr := []) h j hj hm hc

theorem cut_raw {d : Option Nat} {g m c : Nat} {l : Int} (hs : slAt P n k L = some (d, some ⟨g, 0, none⟩, m, c, l, (m : Int), k2)) (h0 : 0 ≤ l) (h1 : l < (m : Int)) (h3 : m ≤ c) :
    Yl P n k L (fun _ => True) d (.slice (some ⟨g, l.toNat, none⟩) (m - l.toNat) (c - l.toNat)) k2 := by
  have h := sub_y hs h0 (by omega) (Int.le_refl _) h3
  rw [if_neg (by omega)] at h
  have e : (some (⟨g, 0, none⟩ : Addr)).map (·.add l.toNat) = some ⟨g, l.toNat, none⟩ := by
    show some ((⟨g, 0, none⟩ : Addr).add l.toNat) = _
    rw [add_at, Nat.zero_add]
  rw [e, Int.toNat_natCast] at h
  exact h
end
end Go.Scr
