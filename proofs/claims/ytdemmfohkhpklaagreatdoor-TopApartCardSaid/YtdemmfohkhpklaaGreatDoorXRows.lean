/- Slices: made, grown, cut, read, written. -/
import Derived.Test.YtdemmfohkhpklaaGreatDoorXAny
/- Rows: made, read, written, appended to, cut. -/
set_option linter.unnecessarySimpa false
set_option linter.unusedVariables false
set_option linter.unusedSimpArgs false
namespace Go.Scr
open Go.RowKit (Below)
variable {D : List Deferred}

section
variable {P : Program} {R : Ending → World → Prop} {f : FuncId} {k k2 : List Item} {n : Nat} {ops : Array Oper} {S : World → Prop} {L L' : Env} {w w0 W w' : World} {fuel : Nat} {dn : List Nat} {H : List Ent}

def doesAt (P : Program) (n : Nat) (k : List Item) (L : Env) (w : World) : Option (Option Nat × Value × World × List Item) :=
  match cur n k L with
  | some (o, k2) => match (execOp (ev L) o).run P w with
    | .ok (.value v) w' => some (o.dst, v, w', k2)
    | _ => none
  | none => none

theorem does_of {d : Option Nat} {v : Value} (h : doesAt P n k L w = some (d, v, w', k2)) : Does P n k L w d v w' k2 := by
  unfold doesAt at h
  split at h
  · rename_i o k3 hc
    split at h
    · rename_i v1 w1 hr
      injection h with h; injection h with h1 h2; injection h2 with h2 h3; injection h3 with h3 h4
      subst h2; subst h3; subst h4
      exact ⟨o, hc, h1, hr⟩
    · cases h
  · cases h

theorem own_made (W : World) (ty sz m : Nat) (cs : List Value) (hn : cs.length = m * sz) (hm : m ≤ maxLen) :
    ({ W with heap := W.heap.push (.cells cs.toArray ty) } : World).ownsRow 0 ty sz (.slice (some ⟨W.heap.size, 0, none⟩) m m) m cs :=
  ⟨hn, .inr ⟨W.heap.size, m, cs.toArray, rfl, Nat.zero_le _, by simp, Nat.le_refl _, hm, by simpa using hn, by simp [← hn]⟩⟩

theorem Mem.newRow (h : Mem w0 W H) (ty sz m : Nat) (cs : List Value) (hn : cs.length = m * sz) (hm : m ≤ maxLen) :
    Mem w0 { W with heap := W.heap.push (.cells cs.toArray ty) } (⟨.slice (some ⟨W.heap.size, 0, none⟩) m m, ty, sz, cs⟩ :: H) :=
  h.new ⟨.slice (some ⟨W.heap.size, 0, none⟩) m m, ty, sz, cs⟩ cs.toArray rfl (own_made W ty sz m cs hn hm)

theorem Mem.newVar (h : Mem w0 W H) (ty : Nat) (cs : List Value) :
    Mem w0 { W with heap := W.heap.push (.cells cs.toArray ty) } (⟨.pointer (some ⟨W.heap.size, 0, none⟩), ty, 0, cs⟩ :: H) :=
  h.new ⟨.pointer (some ⟨W.heap.size, 0, none⟩), ty, 0, cs⟩ cs.toArray rfl ⟨rfl, rfl, by simp [fzm]⟩

theorem below_push (W : World) (o : Obj) : Below W.heap.size W { W with heap := W.heap.push o } :=
  ⟨rfl, rfl, rfl, by simp, fun i hi => by show (W.heap.push o)[i]? = _; rw [Array.getElem?_push, if_neg (by omega)]⟩

theorem RunF.new {d : Option Nat} (ty sz m : Nat) (cs : List Value) (hM : Mem w0 w H) (hn : cs.length = m * sz) (hm : Nat.ble m 1000000 = true)
    (h : doesAt P n k L w = some (d, .slice (some ⟨w.heap.size, 0, none⟩) m m, { w with heap := w.heap.push (.cells cs.toArray ty) }, k2))
    (r : ∀ g W1, Mem w0 W1 (⟨.slice (some ⟨g, 0, none⟩) m m, ty, sz, cs⟩ :: H) → RunF P R f k2 n (upd L d (.slice (some ⟨g, 0, none⟩) m m)) W1 D) : RunF P R f k n L w D :=
  RunF.does (does_of h) (r _ _ (hM.newRow ty sz m cs hn (Nat.le_trans (Nat.le_of_ble_eq_true hm) (by decide))))

theorem RunF.newVar {d : Option Nat} (ty : Nat) (cs : List Value) (hM : Mem w0 w H)
    (h : doesAt P n k L w = some (d, .pointer (some ⟨w.heap.size, 0, none⟩), { w with heap := w.heap.push (.cells cs.toArray ty) }, k2))
    (r : ∀ g W1, Mem w0 W1 (⟨.pointer (some ⟨g, 0, none⟩), ty, 0, cs⟩ :: H) → RunF P R f k2 n (upd L d (.pointer (some ⟨g, 0, none⟩))) W1 D) : RunF P R f k n L w D :=
  RunF.does (does_of h) (r _ _ (hM.newVar ty cs))

def mkAt (P : Program) (n : Nat) (k : List Item) (L : Env) : Option (Option Nat × TypeId × Value × Int × Int × List Item) :=
  match cur n k L with
  | some (o, k2) => match o.op with
    | .makeSlice t l c => match P.underlying t with
      | some (.slice e) => match P.info? e with
        | some info => match info.zero with
          | some z => bif (bif Nat.beq info.size 1 then (bif Nat.ble info.bytes 64 then oneC z else false) else false) then (match ev L l, ev L c with
            | .int _ lv, .int _ cv => some (o.dst, e, z, lv, cv, k2)
            | _, _ => none) else none
          | none => none
        | none => none
      | _ => none
    | _ => none
  | none => none

theorem mkAt_spec {d : Option Nat} {e : TypeId} {z : Value} {l c : Int} (h : mkAt P n k L = some (d, e, z, l, c, k2)) : ∃ o t x y info kl kc, cur n k L = some (o, k2) ∧ o.dst = d ∧ o.op = .makeSlice t x y ∧ P.underlying t = some (.slice e) ∧ P.info? e = some info ∧ info.zero = some z ∧ info.size = 1 ∧ info.bytes ≤ 64 ∧ oneC z = true ∧ ev L x = .int kl l ∧ ev L y = .int kc c := by
  unfold mkAt at h
  split at h
  · rename_i o k3 hcur
    split at h
    · rename_i t x y hop
      split at h
      · rename_i e' hu
        split at h
        · rename_i info hi
          split at h
          · rename_i z' hz
            cases h1 : Nat.beq info.size 1 with
            | false => rw [h1] at h; cases h
            | true =>
              cases h2 : Nat.ble info.bytes 64 with
              | false => rw [h1, h2] at h; cases h
              | true =>
                cases h3 : oneC z' with
                | false => rw [h1, h2, h3] at h; cases h
                | true =>
                  rw [h1, h2, h3] at h
                  simp only [cond_true] at h
                  split at h
                  · rename_i kl lv kc cv hx hy
                    injection h with h; injection h with g1 g2; injection g2 with g2 g3; injection g3 with g3 g4; injection g4 with g4 g5; injection g5 with g5 g6
                    subst g2; subst g3; subst g4; subst g5; subst g6
                    exact ⟨o, t, x, y, info, kl, kc, hcur, g1, hop, hu, hi, hz, Nat.eq_of_beq_eq_true h1, Nat.le_of_ble_eq_true h2, h3, hx, hy⟩
                  · cases h
          · cases h
        · cases h
      · cases h
    · cases h
  · cases h

theorem made_cells (z : Value) (m : Nat) : madeCells #[z] m = (List.replicate m z).toArray := by
  apply Array.ext
  · simp [madeCells]
  · intro i h1 h2
    simp [madeCells, Nat.mod_one]

theorem mk_does {d : Option Nat} {e : TypeId} {z : Value} {l c : Int} (h : mkAt P n k L = some (d, e, z, l, c, k2)) (h0 : 0 ≤ l) (h1 : l ≤ c) (h2 : c ≤ 1099511627776) (hM : Mem w0 w H) :
    ∃ W1, Does P n k L w d (.slice (some ⟨w.heap.size, 0, none⟩) l.toNat c.toNat) W1 k2 ∧ Mem w0 W1 (⟨.slice (some ⟨w.heap.size, 0, none⟩) l.toNat c.toNat, e, 1, List.replicate l.toNat z⟩ :: H) ∧ Below w.heap.size w W1 := by
  obtain ⟨o, t, x, y, info, kl, kc, hcur, hd, hop, hu, hi, hz, hs, hb, ho, hx, hy⟩ := mkAt_spec h
  have hbb : (info.bytes : Int) * c ≤ 281474976710656 := by
    have h3 : (info.bytes : Int) ≤ 64 := by omega
    have h4 : 0 ≤ c := by omega
    calc (info.bytes : Int) * c ≤ 64 * c := Int.mul_le_mul_of_nonneg_right h3 h4
      _ ≤ 281474976710656 := by omega
  have hr := run_make (P := P) w t e info z hu hi hz kl kc l c h0 h1 hbb (by omega)
  have hcells : madeCells z.cells (c.toNat * info.size) = (List.replicate c.toNat z).toArray := by rw [hs, Nat.mul_one, oneC_cells ho, made_cells]
  rw [hcells] at hr
  refine ⟨_, ⟨o, hcur, hd, ?_⟩, hM.new ⟨.slice (some ⟨w.heap.size, 0, none⟩) l.toNat c.toNat, e, 1, List.replicate l.toNat z⟩ (List.replicate c.toNat z).toArray rfl ?_, below_push w _⟩
  · simp only [execOp, hop, hx, hy]
    exact run_next hr
  · refine ⟨by simp, .inr ⟨w.heap.size, c.toNat, (List.replicate c.toNat z).toArray, rfl, Nat.zero_le _, by simp, by omega, ?_, by simp, ?_⟩⟩
    · have : c.toNat ≤ 1099511627776 := by omega
      exact Nat.le_trans this (by decide)
    · simp only [Nat.mul_one]
      rw [List.take_replicate, Nat.min_eq_left (by omega)]

theorem rep_nums (kd : IntKind) (m : Nat) (x : Int) : List.replicate m (Value.int kd x) = nums kd (List.replicate m x) := by simp [nums]
def appAt (P : Program) (n : Nat) (k : List Item) (L : Env) : Option (Option Nat × TypeId × Value × Value × List Item) :=
  match cur n k L with
  | some (o, k2) => match o.op with
    | .call c => match c.callee, c.args.toList, c.argTypes.toList with
      | .builtin .append, [s, x], [t, t'] => bif Nat.beq t t' then (match P.underlying t with
        | some (.slice e) => match P.info? e with
          | some info => match info.zero with
            | some z => bif (bif Nat.beq info.size 1 then (bif Nat.ble info.bytes 64 then oneC z else false) else false) then some (o.dst, e, ev L s, ev L x, k2) else none
            | none => none
          | none => none
        | _ => none) else none
      | _, _, _ => none
    | _ => none
  | none => none

theorem appAt_spec {d : Option Nat} {e : TypeId} {vs vx : Value} (h : appAt P n k L = some (d, e, vs, vx, k2)) : ∃ o c t s x info z, cur n k L = some (o, k2) ∧ o.dst = d ∧ o.op = .call c ∧ c.callee = .builtin .append ∧ c.args = #[s, x] ∧ c.argTypes = #[t, t] ∧ P.underlying t = some (.slice e) ∧ P.info? e = some info ∧ info.zero = some z ∧ info.size = 1 ∧ info.bytes ≤ 64 ∧ oneC z = true ∧ ev L s = vs ∧ ev L x = vx := by
  unfold appAt at h
  split at h
  · rename_i o k3 hcur
    split at h
    · rename_i c hop
      split at h
      · rename_i s x t t' hcal hargs htys
        cases ht : Nat.beq t t' with
        | false => rw [ht] at h; cases h
        | true =>
          rw [ht, cond_true] at h
          split at h
          · rename_i e' hu
            split at h
            · rename_i info hi
              split at h
              · rename_i z hz
                cases h1 : Nat.beq info.size 1 with
                | false => rw [h1] at h; cases h
                | true =>
                  cases h2 : Nat.ble info.bytes 64 with
                  | false => rw [h1, h2] at h; cases h
                  | true =>
                    cases h3 : oneC z with
                    | false => rw [h1, h2, h3] at h; cases h
                    | true =>
                      rw [h1, h2, h3] at h
                      simp only [cond_true] at h
                      injection h with h; injection h with g1 g2; injection g2 with g2 g3; injection g3 with g3 g4; injection g4 with g4 g5
                      subst g2; subst g5
                      have htt := Nat.eq_of_beq_eq_true ht
                      subst htt
                      refine ⟨o, c, t, s, x, info, z, hcur, g1, hop, hcal, ?_, ?_, hu, hi, hz, Nat.eq_of_beq_eq_true h1, Nat.le_of_ble_eq_true h2, h3, g3, g4⟩
                      · rw [← Array.toArray_toList (xs := c.args), hargs]
                      · rw [← Array.toArray_toList (xs := c.argTypes), htys]
              · cases h
            · cases h
          · cases h
      · cases h
    · cases h
  · cases h

theorem Mem.nil (h : Mem w0 W H) (ty : Nat) : Mem w0 W (⟨.slice none 0 0, ty, 1, []⟩ :: H) := by
  refine ⟨h.below, fun e he => ?_, List.Pairwise.cons (fun y _ g hg => by cases hg) h.sep⟩
  rcases List.mem_cons.1 he with rfl | he
  · exact ⟨⟨rfl, .inl ⟨rfl, rfl⟩⟩, fun g hg => by cases hg⟩
  · exact h.ok e he

theorem Mem.grow {w0 W W' : World} {H1 H2 : List Ent} {ty : TypeId} {A A' : Option Addr} {m c m' c' : Nat} {cs cs' : List Value} (h : Mem w0 W (H1 ++ ⟨.slice A m c, ty, 1, cs⟩ :: H2))
    (ho : W'.ownsRow 0 ty 1 (.slice A' m' c') m' cs') (hg : W.grownBy W' (Value.ownBlock (.slice A m c))) (hb : Value.ownBlock (.slice A' m' c') = Value.ownBlock (.slice A m c) ∨ Value.ownBlock (.slice A' m' c') = some W.heap.size) :
    Mem w0 W' (H1 ++ ⟨.slice A' m' c', ty, 1, cs'⟩ :: H2) := by
  have he : (⟨.slice A m c, ty, 1, cs⟩ : Ent) ∈ H1 ++ ⟨.slice A m c, ty, 1, cs⟩ :: H2 := by simp
  obtain ⟨hok, hge⟩ := h.ok _ he
  have e1 : ∀ (A : Option Addr) (m c : Nat), blk (.slice A m c) = Value.ownBlock (.slice A m c) := fun A m c => by cases A <;> rfl
  have hs := h.below.size
  have hsep := List.pairwise_append.1 h.sep
  have hsep2 := List.pairwise_cons.1 hsep.2.1
  have other : ∀ x, x ∈ H1 ∨ x ∈ H2 → ∀ k, blk x.v = some k → some k ≠ Value.ownBlock (.slice A m c) ∧ k < W.heap.size := by
    intro x hx k hk
    refine ⟨fun e => ?_, ?_⟩
    · rcases hx with hx | hx
      · exact hsep.2.2 x hx _ List.mem_cons_self k hk (by rw [e1, ← e])
      · exact hsep2.1 x hx k (by rw [e1, ← e]) hk
    · rcases hx with hx | hx
      · exact Ent.lt (h.ok x (List.mem_append_left _ hx)).1 k hk
      · exact Ent.lt (h.ok x (List.mem_append_right _ (List.mem_cons_of_mem _ hx))).1 k hk
  have keep : ∀ x, x ∈ H1 ∨ x ∈ H2 → x.ok W → x.ok W' := fun x hx hx1 => Ent.ok_of hx1 fun k hk => hg.block k (other x hx k hk).2 (other x hx k hk).1
  have hge' : ∀ g, Value.ownBlock (.slice A m c) = some g → w0.heap.size ≤ g := fun g hgg => hge g (by rw [e1]; exact hgg)
  refine ⟨⟨hg.os.trans h.below.os, hg.tape.trans h.below.tape, hg.output.trans h.below.output, Nat.le_trans hs hg.size, fun k hk => ?_⟩, ?_, ?_⟩
  · rw [hg.block k (by omega) (fun e => by have := hge' k e.symm; omega)]
    exact h.below.block k hk
  · intro x hx
    rcases List.mem_append.1 hx with hx | hx
    · exact ⟨keep x (.inl hx) (h.ok x (List.mem_append_left _ hx)).1, (h.ok x (List.mem_append_left _ hx)).2⟩
    · rcases List.mem_cons.1 hx with rfl | hx
      · refine ⟨ho, fun g hgg => ?_⟩
        rw [e1] at hgg
        rcases hb with hb | hb
        · exact hge' g (by rw [← hb]; exact hgg)
        · rw [hb] at hgg; injection hgg with hgg; omega
      · exact ⟨keep x (.inr hx) (h.ok x (List.mem_append_right _ (List.mem_cons_of_mem _ hx))).1, (h.ok x (List.mem_append_right _ (List.mem_cons_of_mem _ hx))).2⟩
  · have far : ∀ x, x ∈ H1 ∨ x ∈ H2 → apart x ⟨.slice A' m' c', ty, 1, cs'⟩ := by
      intro x hx g hgx hgn
      rw [e1] at hgn
      obtain ⟨h1, h2⟩ := other x hx g hgx
      rcases hb with hb | hb
      · exact h1 (by rw [← hb]; exact hgn.symm)
      · rw [hb] at hgn; injection hgn with hgn; omega
    refine List.pairwise_append.2 ⟨hsep.1, List.Pairwise.cons (fun y hy => (far y (.inr hy)).symm) hsep2.2, ?_⟩
    intro x hx y hy
    rcases List.mem_cons.1 hy with rfl | hy
    · exact far x (.inl hx)
    · exact hsep.2.2 x hx y (List.mem_cons_of_mem _ hy)

theorem app_does2 {d : Option Nat} {e : TypeId} {A A2 : Option Addr} {m c m2 c2 : Nat} {cs ys : List Value} (H1 H2 : List Ent) (h : appAt P n k L = some (d, e, .slice A m c, .slice A2 m2 c2, k2))
    (hM : Mem w0 w (H1 ++ ⟨.slice A m c, e, 1, cs⟩ :: H2)) (hR : Rd w (.slice A2 m2 c2) ys) (h1 : ∀ u ∈ ys, oneC u = true) (hl : m + m2 ≤ 1099511627776) :
    ∃ A' n' c' W1, Does P n k L w d (.slice A' n' c') W1 k2 ∧ Mem w0 W1 (H1 ++ ⟨.slice A' n' c', e, 1, cs ++ ys⟩ :: H2) ∧ Still w [.slice A m c] W1 ∧ (blk (.slice A' n' c') = blk (.slice A m c) ∨ ∀ b, blk (.slice A' n' c') = some b → w.heap.size ≤ b) := by
  obtain ⟨o, cl, t, s, x, info, z, hcur, hd, hop, hcal, hargs, htys, hu, hi, hz, hs, hb, ho, hvs, hvx⟩ := appAt_spec h
  have hown : w.ownsRow 0 e 1 (.slice A m c) m cs := (hM.ok _ (List.mem_append_right _ List.mem_cons_self)).1
  obtain ⟨hr1, hr2, hr3⟩ := hR
  have hone : ∀ u ∈ ys, u.oneCell' = true := fun u hu => by have := h1 u hu; cases u <;> first | rfl | cases this
  have hexec : ∀ {v' : Value} {w' : World}, (Builtin.append_ #[t, t] o.type #[.slice A m c, .slice A2 m2 c2]).run P w = .ok v' w' → Does P n k L w d v' w' k2 := by
    intro v' w' hrun
    refine ⟨o, hcur, hd, ?_⟩
    have hm : cl.args.map (ev L) = #[.slice A m c, .slice A2 m2 c2] := by simp [hargs, hvs, hvx]
    simp only [execOp, hop, resolve, hcal, htys, bind, Sem.bind, pure, invoke, builtin, hm]
    exact run_next hrun
  cases A2 with
  | none =>
    have hy : ys = [] := by
      cases ys with
      | nil => rfl
      | cons u r => obtain ⟨ad, h3, _⟩ := hr3 0 u rfl; cases h3
    subst hy
    simp only [List.length_nil] at hr1
    subst hr1
    have hle := own_le hown
    refine ⟨A, m, c, w, hexec ?_, by simpa using hM, Still.refl _ _, .inl rfl⟩
    simp only [Builtin.append_, Sem.run_bind]
    cases A <;> simp [run_underlying hu, sizeOf, typeInfo, hi, hs, Builtin.lenOf, Builtin.firstCells, hle.2.1, storeCells]
  | some a2 =>
    have hlim : (m + m2) * info.bytes ≤ 140737488355328 := by
      calc (m + m2) * info.bytes ≤ 1099511627776 * 64 := Nat.mul_le_mul hl hb
        _ ≤ 140737488355328 := by decide
    obtain ⟨v', w', hrun, ho', hg, _, hbl⟩ := run_append_own_at (P := P) w 0 t o.type e info z 1 info.bytes hu hi hz hs rfl (by rw [oneC_cells ho]; rfl) (by omega) (.slice A m c) m cs hown a2 m2 c2 ys (by omega) (fun j u hj => by
        obtain ⟨ad, h3, h4⟩ := hr3 j u hj
        injection h3 with h3; subst h3; exact h4) hone (Nat.le_trans hl (by decide)) hlim (Nat.zero_le _)
    have hsl : ∃ A' c', v' = .slice A' (m + m2) c' := by
      rcases ho'.2 with ⟨h5, h6⟩ | ⟨g, cap, cur, h5, _⟩
      · exact ⟨none, 0, by rw [h5, h6]⟩
      · exact ⟨_, _, h5⟩
    obtain ⟨A', c', rfl⟩ := hsl
    have own : ∀ (A : Option Addr) (m c : Nat), blk (.slice A m c) = Value.ownBlock (.slice A m c) := fun A m c => by cases A <;> rfl
    refine ⟨A', m + m2, c', w', hexec hrun, hM.grow ho' hg hbl, ⟨hg.size, fun b hlt hb => hg.block b hlt (fun e1 => ?_)⟩, ?_⟩
    rotate_left
    · rcases hbl with hbl | hbl
      · left; rw [own, own]; exact hbl
      · right; intro b hb; rw [own, hbl] at hb; injection hb with hb; omega
    refine hb (.slice A m c) List.mem_cons_self ?_
    rw [e1]; cases A <;> rfl

theorem one_nums (kd : IntKind) (xs : List Int) : ∀ u ∈ nums kd xs, oneC u = true := by
  intro u hu; obtain ⟨x, _, rfl⟩ := List.mem_map.1 hu; rfl
def slAt (P : Program) (n : Nat) (k : List Item) (L : Env) : Option (Option Nat × Option Addr × Nat × Nat × Int × Int × List Item) :=
  match cur n k L with
  | some (o, k2) => match o.op with
    | .slice t x lo hi none => match P.underlying t with
      | some (.slice e) => match P.info? e with
        | some info => bif Nat.beq info.size 1 then (match ev L x with
          | .slice A m c => match lo.map (ev L), hi.map (ev L) with
            | none, none => some (o.dst, A, m, c, 0, m, k2)
            | some (.int _ l), none => some (o.dst, A, m, c, l, m, k2)
            | none, some (.int _ h) => some (o.dst, A, m, c, 0, h, k2)
            | some (.int _ l), some (.int _ h) => some (o.dst, A, m, c, l, h, k2)
            | _, _ => none
          | _ => none) else none
        | none => none
      | _ => none
    | _ => none
  | none => none

theorem sub_y {d : Option Nat} {A : Option Addr} {m c : Nat} {l h : Int} (hs : slAt P n k L = some (d, A, m, c, l, h, k2)) (h0 : 0 ≤ l) (h1 : l ≤ h) (h2 : h ≤ (m : Int)) (h3 : m ≤ c) :
    Yl P n k L (fun _ => True) d (.slice (if c = l.toNat then A else A.map (·.add l.toNat)) (h.toNat - l.toNat) (c - l.toNat)) k2 := by
  unfold slAt at hs
  split at hs
  · rename_i o k3 hcur
    split at hs
    · rename_i t x lo hi hop
      split at hs
      · rename_i e hu
        split at hs
        · rename_i info hi'
          cases hz : Nat.beq info.size 1 with
          | false => rw [hz] at hs; cases hs
          | true =>
            rw [hz, cond_true] at hs
            have hsz := Nat.eq_of_beq_eq_true hz
            split at hs
            · rename_i A' m' c' hx
              have g0 : (0 : Int) ≤ (m' : Int) := by omega
              split at hs
              · rename_i hl hh
                injection hs with hs; injection hs with g1 g2; injection g2 with g2 g3; injection g3 with g3 g4; injection g4 with g4 g5; injection g5 with g5 g6; injection g6 with g6 g7
                subst g2; subst g3; subst g4; subst g5; subst g6; subst g7
                refine ⟨o, hcur, g1, fun w _ => ?_⟩
                simp only [execOp, hop, hx]
                refine run_next ?_
                cases lo <;> cases hi <;> simp at hl hh
                simp [Instr.sliceAt, Instr.slice, Instr.sliceBounds, underlying, sizeOf, typeInfo, program, bind, Sem.bind, pure, Sem.run, hu, hi', hsz]
              · rename_i kl l' hl hh
                injection hs with hs; injection hs with g1 g2; injection g2 with g2 g3; injection g3 with g3 g4; injection g4 with g4 g5; injection g5 with g5 g6; injection g6 with g6 g7
                subst g2; subst g3; subst g4; subst g5; subst g6; subst g7
                refine ⟨o, hcur, g1, fun w _ => ?_⟩
                simp only [execOp, hop, hx]
                refine run_next ?_
                cases lo <;> cases hi <;> simp at hl hh
                simp [Instr.sliceAt, Instr.slice, Instr.sliceBounds, Instr.sliceBound, asIntOf, underlying, sizeOf, typeInfo, program, bind, Sem.bind, pure, Sem.run, hu, hi', hsz, hl, h0, h1]
              · rename_i kh h' hl hh
                injection hs with hs; injection hs with g1 g2; injection g2 with g2 g3; injection g3 with g3 g4; injection g4 with g4 g5; injection g5 with g5 g6; injection g6 with g6 g7
                subst g2; subst g3; subst g4; subst g5; subst g6; subst g7
                have hc : h' ≤ (c' : Int) := by omega
                refine ⟨o, hcur, g1, fun w _ => ?_⟩
                simp only [execOp, hop, hx]
                refine run_next ?_
                cases lo <;> cases hi <;> simp at hl hh
                simp [Instr.sliceAt, Instr.slice, Instr.sliceBounds, Instr.sliceBound, asIntOf, underlying, sizeOf, typeInfo, program, bind, Sem.bind, pure, Sem.run, hu, hi', hsz, hh, hc, h1]
              · rename_i kl l' kh h' hl hh
                injection hs with hs; injection hs with g1 g2; injection g2 with g2 g3; injection g3 with g3 g4; injection g4 with g4 g5; injection g5 with g5 g6; injection g6 with g6 g7
                subst g2; subst g3; subst g4; subst g5; subst g6; subst g7
                have hc : h' ≤ (c' : Int) := by omega
                have hp : 0 ≤ h' := by omega
                have hlh : l' ≤ max h' 0 := by omega
                refine ⟨o, hcur, g1, fun w _ => ?_⟩
                simp only [execOp, hop, hx]
                refine run_next ?_
                cases lo <;> cases hi <;> simp at hl hh
                simp [Instr.sliceAt, Instr.slice, Instr.sliceBounds, Instr.sliceBound, asIntOf, underlying, sizeOf, typeInfo, program, bind, Sem.bind, pure, Sem.run, hu, hi', hsz, hl, hh, hc, h0, hp, hlh]
              · cases hs
            · cases hs
        · cases hs
      · cases hs
    · cases hs
  · cases hs

theorem add_add_ (a : Addr) (i j : Nat) (h : a.add i = a.add i) : (a.add i).add j = a.add (i + j) ∨ j = 0 := by
  by_cases hj : j = 0
  · exact .inr hj
  · left
    unfold Addr.add
    by_cases hi : i = 0
    · simp [hi]
    · have : ¬ (i + j = 0) := by omega
      simp [hi, hj, Nat.add_assoc]

theorem add_add (a : Addr) (i j : Nat) : (a.add i).add j = a.add (i + j) := by
  rcases add_add_ a i j rfl with h | h
  · exact h
  · subst h; simp [Addr.add]

theorem Rd.sub {A : Option Addr} {m c l h : Nat} {cs : List Value} (hR : Rd W (.slice A m c) cs) (h1 : l ≤ h) (h2 : h ≤ m) :
    Rd W (.slice (if c = l then A else A.map (·.add l)) (h - l) (c - l)) ((cs.take h).drop l) := by
  obtain ⟨r1, r2, r3⟩ := hR
  refine ⟨by simp; omega, by omega, fun i u hi => ?_⟩
  rw [List.getElem?_drop, List.getElem?_take] at hi
  split at hi
  · rename_i hlt
    obtain ⟨ad, h3, h4⟩ := r3 (l + i) u hi
    subst h3
    have hne : ¬ c = l := by omega
    rw [if_neg hne]
    exact ⟨ad.add l, rfl, by rw [add_add]; exact h4⟩
  · cases hi

theorem cut {d : Option Nat} {A : Option Addr} {m c : Nat} {l h : Int} (kd : IntKind) (xs : List Int) (hs : slAt P n k L = some (d, A, m, c, l, h, k2)) (h0 : 0 ≤ l) (h1 : l ≤ h) (h2 : h ≤ (m : Int)) (hR : Rd w (.slice A m c) (nums kd xs)) :
    ∃ A' n' c', Yl P n k L (fun _ => True) d (.slice A' n' c') k2 ∧ ((xs.take h.toNat).drop l.toNat).length = n' ∧ ∀ W, Rd W (.slice A m c) (nums kd xs) → Rd W (.slice A' n' c') (nums kd ((xs.take h.toNat).drop l.toNat)) := by
  have key : ∀ W, Rd W (.slice A m c) (nums kd xs) → Rd W (.slice (if c = l.toNat then A else A.map (·.add l.toNat)) (h.toNat - l.toNat) (c - l.toNat)) (nums kd ((xs.take h.toNat).drop l.toNat)) := by
    intro W hR
    have := hR.sub (l := l.toNat) (h := h.toNat) (by omega) (by omega)
    simpa [nums, List.map_take, List.map_drop] using this
  refine ⟨_, _, _, sub_y hs h0 h1 h2 hR.2.1, ?_, key⟩
  have := (key w hR).1
  rwa [nums_length] at this

def strOf (xs : List Int) : ByteArray := xs.foldl (fun r n => r.push (UInt8.ofNat n.toNat)) ByteArray.empty

def strAt (P : Program) (n : Nat) (k : List Item) (L : Env) : Option (Option Nat × Option Addr × Nat × Nat × List Item) :=
  match cur n k L with
  | some (o, k2) => match o.op with
    | .convert src dst x => match P.underlying src, P.underlying dst with
      | some (.slice e), some .string => match P.underlying e with
        | some (.int .u8) => match ev L x with
          | .slice A m c => some (o.dst, A, m, c, k2)
          | _ => none
        | _ => none
      | _, _ => none
    | _ => none
  | none => none

theorem str_y {d : Option Nat} {A : Option Addr} {m c : Nat} (xs : List Int) (h : strAt P n k L = some (d, A, m, c, k2)) : Yl P n k L (fun w => Rd w (.slice A m c) (nums .u8 xs)) d (.string (strOf xs)) k2 := by
  unfold strAt at h
  split at h
  · rename_i o k3 hcur
    split at h
    · rename_i src dst x hop
      split at h
      · rename_i e hs hd
        split at h
        · rename_i he
          split at h
          · rename_i A' m' c' hx
            injection h with h; injection h with g1 g2; injection g2 with g2 g3; injection g3 with g3 g4; injection g4 with g4 g5
            subst g2; subst g3; subst g4; subst g5
            refine ⟨o, hcur, g1, fun w hR => ?_⟩
            simp only [execOp, hop, hx]
            refine run_next ?_
            rw [run_convert_bytes_string w src dst e A' m' c' hs he hd]
            obtain ⟨r1, r2, r3⟩ := hR
            cases A' with
            | none =>
              have : xs = [] := by
                cases xs with
                | nil => rfl
                | cons u r => obtain ⟨ad, h3, _⟩ := r3 0 (.int .u8 u) rfl; cases h3
              subst this
              rfl
            | some a =>
              rw [run_bytesToString w a m' c' xs ?_]
              · rfl
              · have := run_loadCells_list (P := P) (w := w) a (nums .u8 xs) (fun j v hj => by
                  obtain ⟨ad, h3, h4⟩ := r3 j v hj
                  injection h3 with h3; subst h3; exact h4)
                rw [r1] at this
                exact this
          · cases h
        · cases h
      · cases h
    · cases h
  · cases h

def mn (x y : Int) : Int := if y < x then y else x
theorem Rd.nil (W : World) (kd : IntKind) : Rd W (.slice none 0 0) (nums kd []) := ⟨rfl, Nat.le_refl _, fun i u hi => by simp [nums] at hi⟩
end
end Go.Scr
