/- Zeros behind a row; cuts; arrays of arrays. -/
import Derived.Test.YtdemmfohkhpklaaGreatDoorXDeep2
import Derived.Lib.AppendZerosOnto
/- Rows that grow by zeros; cuts with a capacity; arrays of arrays; arrays within structs. -/
set_option linter.unnecessarySimpa false
set_option linter.unusedVariables false
set_option linter.unusedSimpArgs false
namespace Go.Scr
open Go.RowKit (Below)
variable {D : List Deferred}

section
variable {P : Program} {R : Ending → World → Prop} {f : FuncId} {k k2 : List Item} {n : Nat} {ops : Array Oper} {S : World → Prop} {L L' : Env} {w w0 W w' : World} {fuel : Nat} {dn : List Nat} {H : List Ent}

def apzAt (P : Program) (n : Nat) (k : List Item) (L : Env) : Option (Option Nat × TypeId × Value × Int × List Item) :=
  match cur n k L with
  | some (o, k2) => match o.op with
    | .call c => match c.callee, c.args.toList, c.argTypes.toList with
      | .builtin .append, [s, x], [t, t'] => (match P.underlying t, P.underlying t' with
        | some (.slice e), some (.int _) => match P.info? e with
          | some info => match info.zero with
            | some z => bif (bif Nat.beq info.size 1 then (bif Nat.ble info.bytes 64 then oneC z else false) else false) then (match ev L s, ev L x with
              | .slice none 0 0, .int _ i => some (o.dst, e, z, i, k2)
              | _, _ => none) else none
            | none => none
          | none => none
        | _, _ => none)
      | _, _, _ => none
    | _ => none
  | none => none

theorem apz_does {d : Option Nat} {e : TypeId} {z : Value} {i : Int} (h : apzAt P n k L = some (d, e, z, i, k2)) (h0 : 0 < i) (h1 : i ≤ 1000000000) (hM : Mem w0 w H) :
    ∃ g c W1, Does P n k L w d (.slice (some ⟨g, 0, none⟩) i.toNat c) W1 k2 ∧ Mem w0 W1 (⟨.slice (some ⟨g, 0, none⟩) i.toNat c, e, 1, List.replicate i.toNat z⟩ :: H) := by
  unfold apzAt at h
  split at h
  · rename_i o k3 hcur
    split at h
    · rename_i c hop
      split at h
      · rename_i s x t t' hcal hargs htys
        split at h
        · rename_i e' kn hu hu'
          split at h
          · rename_i info hi
            split at h
            · rename_i z' hz
              cases g1 : Nat.beq info.size 1 with
              | false => rw [g1] at h; cases h
              | true =>
                cases g2 : Nat.ble info.bytes 64 with
                | false => rw [g1, g2] at h; cases h
                | true =>
                  cases g3 : oneC z' with
                  | false => rw [g1, g2, g3] at h; cases h
                  | true =>
                    rw [g1, g2, g3] at h
                    simp only [cond_true] at h
                    split at h
                    · rename_i kd i' hvs hvx
                      injection h with h; injection h with q1 q2; injection q2 with q2 q3; injection q3 with q3 q4; injection q4 with q4 q5
                      subst q2; subst q3; subst q4; subst q5
                      obtain ⟨j, rfl⟩ := Int.eq_ofNat_of_zero_le (Int.le_of_lt h0)
                      have hb : info.bytes ≤ 64 := Nat.le_of_ble_eq_true g2
                      have hs : info.size = 1 := Nat.eq_of_beq_eq_true g1
                      have hj : 0 < j := by omega
                      have hrun := Lib.run_append_nil_zeros (P := P) w t t' o.type e' info z' kd kn hu hu' hi hz j hj (by omega) (by omega) (by
                        calc j * info.bytes ≤ 1000000000 * 64 := Nat.mul_le_mul (by omega) hb
                          _ ≤ 281474976710656 := by decide)
                      have hzc : ∀ q, Builtin.zeroCells z'.cells q = (List.replicate q z').toArray := by
                        intro q
                        rw [oneC_cells g3]
                        apply Array.ext
                        · simp [Builtin.zeroCells]
                        · intro a h1 h2
                          simp [Builtin.zeroCells, Nat.mod_one]
                      rw [hzc, hzc] at hrun
                      have hcl := grownCap_ge w j 0 e'
                      have hcm := grownCap_le_maxLen w j 0 e' (Nat.le_trans (show j ≤ 1000000000 by omega) (by decide))
                      have hw1 : (w.drew.alloc (.cells ((List.replicate j z').toArray ++ (List.replicate (grownCap w j 0 e' - j) z').toArray) e')) = { w.drew with heap := w.drew.heap.push (.cells (List.replicate (grownCap w j 0 e') z').toArray e') } := by
                        rw [List.append_toArray, List.replicate_append_replicate, Nat.add_sub_cancel' hcl]
                        rfl
                      rw [hw1] at hrun
                      refine ⟨w.heap.size, grownCap w j 0 e', { w.drew with heap := w.drew.heap.push (.cells (List.replicate (grownCap w j 0 e') z').toArray e') }, ⟨o, hcur, q1, ?_⟩, ?_⟩
                      · have hm : c.args.map (ev L) = #[.slice none 0 0, .int kd j] := by
                          rw [← Array.toArray_toList (xs := c.args), hargs]; simp [hvs, hvx]
                        have ht : c.argTypes = #[t, t'] := by rw [← Array.toArray_toList (xs := c.argTypes), htys]
                        simp only [execOp, hop, resolve, hcal, ht, bind, Sem.bind, pure, invoke, builtin, hm]
                        rw [Int.toNat_natCast]
                        exact run_next hrun
                      · have hdrew : Mem w0 w.drew H := hM.drew
                        have hnew := hdrew.new ⟨.slice (some ⟨w.drew.heap.size, 0, none⟩) j (grownCap w j 0 e'), e', 1, List.replicate j z'⟩ (List.replicate (grownCap w j 0 e') z').toArray rfl ?_
                        · rw [Int.toNat_natCast]; exact hnew
                        · refine ⟨by simp, .inr ⟨w.drew.heap.size, grownCap w j 0 e', (List.replicate (grownCap w j 0 e') z').toArray, rfl, Nat.zero_le _, ?_, hcl, hcm, by simp, ?_⟩⟩
                          · show (w.drew.heap.push _)[w.drew.heap.size]? = _
                            rw [Array.getElem?_push_size]
                          simp only [Nat.mul_one]
                          rw [List.take_replicate, Nat.min_eq_left hcl]
                    · cases h
            · cases h
          · cases h
        · cases h
      · cases h
    · cases h
  · cases h

theorem reslice_y {d : Option Nat} {A : Option Addr} {m c : Nat} {h : Int} (hs : slAt P n k L = some (d, A, m, c, 0, h, k2)) (h1 : 0 ≤ h) (h2 : h ≤ (m : Int)) (h3 : m ≤ c) :
    Yl P n k L (fun _ => True) d (.slice A h.toNat c) k2 := by
  have := sub_y hs (Int.le_refl 0) h1 h2 h3
  have e1 : (if c = (0 : Int).toNat then A else A.map (·.add (0 : Int).toNat)) = A := by
    split
    · rfl
    · cases A <;> simp [Addr.add]
  rw [e1] at this
  simpa using this

theorem Mem.reslice {ty : TypeId} {A : Option Addr} {m c : Nat} {cs : List Value} (H1 H2 : List Ent) (hM : Mem w0 W (H1 ++ ⟨.slice A m c, ty, 1, cs⟩ :: H2)) (h : Nat) (hh : h ≤ m) :
    Mem w0 W (H1 ++ ⟨.slice A h c, ty, 1, cs.take h⟩ :: H2) := by
  have hb : ∀ (A : Option Addr) (m m' c : Nat), blk (.slice A m c) = blk (.slice A m' c) := fun A m m' c => by cases A <;> rfl
  refine ⟨hM.below, fun x hx => ?_, ?_⟩
  · rcases List.mem_append.1 hx with hx | hx
    · exact hM.ok x (List.mem_append_left _ hx)
    · rcases List.mem_cons.1 hx with rfl | hx
      · obtain ⟨h1, h2⟩ := hM.ok _ (List.mem_append_right _ List.mem_cons_self)
        refine ⟨?_, fun g hg => h2 g (by rw [← hg]; exact hb A m h c)⟩
        have h1' : W.ownsRow 0 ty 1 (.slice A m c) m cs := h1
        obtain ⟨q1, q2⟩ := h1'
        refine ⟨by simp; omega, ?_⟩
        rcases q2 with ⟨q3, q4⟩ | ⟨g, cap, cur, hv, r1, r2, r3, r4, r5, r6⟩
        · injection q3 with q3 q5 q6
          subst q3; subst q6
          have : h = 0 := by omega
          subst this
          exact .inl ⟨rfl, rfl⟩
        · injection hv with hv1 hv2 hv3
          subst hv1; subst hv3
          refine .inr ⟨g, c, cur, rfl, r1, r2, by omega, r4, r5, ?_⟩
          rw [← r6, List.take_take]
          simp only [Nat.mul_one]
          rw [Nat.min_eq_left hh]
      · exact hM.ok x (List.mem_append_right _ (List.mem_cons_of_mem _ hx))
  · have hsep := List.pairwise_append.1 hM.sep
    have hsep2 := List.pairwise_cons.1 hsep.2.1
    refine List.pairwise_append.2 ⟨hsep.1, List.pairwise_cons.2 ⟨fun x hx g hg => hsep2.1 x hx g (by rw [← hg]; exact hb A m h c), hsep2.2⟩, ?_⟩
    intro x hx y hy
    rcases List.mem_cons.1 hy with rfl | hy
    · have := hsep.2.2 x hx _ List.mem_cons_self
      exact fun g h1 h2 => this g h1 (by rw [← h2]; exact hb A m h c)
    · exact hsep.2.2 x hx y (List.mem_cons_of_mem _ hy)

def sl3At (P : Program) (n : Nat) (k : List Item) (L : Env) : Option (Option Nat × Option Addr × Nat × Nat × Int × Int × Int × List Item) :=
  match cur n k L with
  | some (o, k2) => match o.op with
    | .slice t x lo (some hi) (some mx) => match P.underlying t with
      | some (.slice e) => match P.info? e with
        | some info => bif Nat.beq info.size 1 then (match ev L x, ev L hi, ev L mx with
          | .slice A m c, .int _ h, .int _ q => (match lo.map (ev L) with
            | none => some (o.dst, A, m, c, 0, h, q, k2)
            | some (.int _ l) => some (o.dst, A, m, c, l, h, q, k2)
            | _ => none)
          | _, _, _ => none) else none
        | none => none
      | _ => none
    | _ => none
  | none => none

theorem sub3_y {d : Option Nat} {A : Option Addr} {m c : Nat} {l h q : Int} (hs : sl3At P n k L = some (d, A, m, c, l, h, q, k2)) (h0 : 0 ≤ l) (h1 : l ≤ h) (h2 : h ≤ q) (h3 : q ≤ (c : Int)) :
    Yl P n k L (fun _ => True) d (.slice (if q.toNat = l.toNat then A else A.map (·.add l.toNat)) (h.toNat - l.toNat) (q.toNat - l.toNat)) k2 := by
  unfold sl3At at hs
  split at hs
  · rename_i o k3 hcur
    split at hs
    · rename_i t x lo hi mx hop
      split at hs
      · rename_i e hu
        split at hs
        · rename_i info hi'
          cases hz : Nat.beq info.size 1 with
          | false => rw [hz] at hs; cases hs
          | true =>
            rw [hz, cond_true] at hs
            have hsz := Nat.eq_of_beq_eq_true hz
            split at hs
            · rename_i A' m' c' kh h' kq q' hx hh hq
              split at hs
              · rename_i hl
                injection hs with hs; injection hs with g1 g2; injection g2 with g2 g3; injection g3 with g3 g4; injection g4 with g4 g5; injection g5 with g5 g6; injection g6 with g6 g7; injection g7 with g7 g8
                subst g2; subst g3; subst g4; subst g5; subst g6; subst g7; subst g8
                refine ⟨o, hcur, g1, fun w _ => ?_⟩
                simp only [execOp, hop, hx]
                refine run_next ?_
                have e1 : 0 ≤ q' := by omega
                have e2 : h' ≤ max q' 0 := by omega
                cases lo <;> simp at hl
                simp [Instr.sliceAt, Instr.slice, Instr.sliceBounds, Instr.sliceBound, asIntOf, underlying, sizeOf, typeInfo, program, bind, Sem.bind, pure, Sem.run, hu, hi', hsz, hh, hq, h1, h3, e1, e2]
              · rename_i kl l' hl
                injection hs with hs; injection hs with g1 g2; injection g2 with g2 g3; injection g3 with g3 g4; injection g4 with g4 g5; injection g5 with g5 g6; injection g6 with g6 g7; injection g7 with g7 g8
                subst g2; subst g3; subst g4; subst g5; subst g6; subst g7; subst g8
                refine ⟨o, hcur, g1, fun w _ => ?_⟩
                simp only [execOp, hop, hx]
                refine run_next ?_
                have e1 : 0 ≤ q' := by omega
                have e2 : h' ≤ max q' 0 := by omega
                have e3 : 0 ≤ h' := by omega
                have e4 : l' ≤ max h' 0 := by omega
                cases lo <;> simp at hl
                simp [Instr.sliceAt, Instr.slice, Instr.sliceBounds, Instr.sliceBound, asIntOf, underlying, sizeOf, typeInfo, program, bind, Sem.bind, pure, Sem.run, hu, hi', hsz, hh, hq, hl, h0, h3, e1, e2, e3, e4]
              · cases hs
            · cases hs
        · cases hs
      · cases hs
    · cases hs
  · cases hs

theorem Rd.sub3 {A : Option Addr} {m c l h q : Nat} {cs : List Value} (hR : Rd W (.slice A m c) cs) (h1 : l ≤ h) (h2 : h ≤ q) (h3 : h ≤ m) :
    Rd W (.slice (if q = l then A else A.map (·.add l)) (h - l) (q - l)) ((cs.take h).drop l) := by
  obtain ⟨r1, r2, r3⟩ := hR
  refine ⟨by simp; omega, by omega, fun i u hi => ?_⟩
  rw [List.getElem?_drop, List.getElem?_take] at hi
  split at hi
  · rename_i hlt
    obtain ⟨ad, h4, h5⟩ := r3 (l + i) u hi
    subst h4
    have hne : ¬ q = l := by omega
    rw [if_neg hne]
    exact ⟨ad.add l, rfl, by rw [add_add]; exact h5⟩
  · cases hi

theorem cut3 {d : Option Nat} {A : Option Addr} {m c : Nat} {l h q : Int} (kd : IntKind) (xs : List Int) (hs : sl3At P n k L = some (d, A, m, c, l, h, q, k2)) (h0 : 0 ≤ l) (h1 : l ≤ h) (h2 : h ≤ q) (h3 : q ≤ (m : Int)) (hR : Rd w (.slice A m c) (nums kd xs)) :
    ∃ A' n' c', Yl P n k L (fun _ => True) d (.slice A' n' c') k2 ∧ ((xs.take h.toNat).drop l.toNat).length = n' ∧ ∀ W, Rd W (.slice A m c) (nums kd xs) → Rd W (.slice A' n' c') (nums kd ((xs.take h.toNat).drop l.toNat)) := by
  have key : ∀ W, Rd W (.slice A m c) (nums kd xs) → Rd W (.slice (if q.toNat = l.toNat then A else A.map (·.add l.toNat)) (h.toNat - l.toNat) (q.toNat - l.toNat)) (nums kd ((xs.take h.toNat).drop l.toNat)) := by
    intro W hR
    have := hR.sub3 (l := l.toNat) (h := h.toNat) (q := q.toNat) (by omega) (by omega) (by omega)
    simpa [nums, List.map_take, List.map_drop] using this
  refine ⟨_, _, _, sub3_y hs h0 h1 h2 (by have := hR.2.1; omega), ?_, key⟩
  have := (key w hR).1
  rwa [nums_length] at this

theorem Still.setRow {W w : World} {G : List Value} (h : Still W G w) {g : Nat} {v : Value} (hv : v ∈ G) (hb : blk v = some g) (cs : Array Value) : Still W G (w.setRow g cs) := by
  refine ⟨by simpa using h.1, fun b hlt hg => ?_⟩
  rw [setRow_other w g b cs (fun e => hg v hv (by rw [hb, e]))]
  exact h.2 b hlt hg

theorem one_rows {k : IntKind} {Z : Zp} {cs : List Value} {xs : List (List Int)} (h : Each2 (rNums k Z) cs xs) : ∀ u ∈ cs, oneC u = true := by
  intro u hu
  obtain ⟨i, hi, rfl⟩ := List.mem_iff_getElem.1 hu
  obtain ⟨A, c, e, _⟩ := h.2 i cs[i] (xs[i]'(by rw [← h.1]; exact hi)) (by simp [hi]) (by simp [← h.1, hi])
  rw [e]; rfl
theorem all_rows {k : IntKind} {Z : Zp} {cs : List Value} {xs : List (List Int)} (h : Each2 (rNums k Z) cs xs) : cs.toArray.all (·.oneCell') = true := by
  rw [Array.all_eq_true_iff_forall_mem]; intro x hx
  have := one_rows h x (by simpa using hx)
  cases x <;> first | rfl | cases this

theorem RunAny.rebase3 {W W1 : World} {G G2 : List Value} (hS : Still W G W1) (h2 : ∀ v ∈ G2, ∀ b, blk v = some b → (∃ u, u ∈ G ∧ blk u = some b) ∨ W.heap.size ≤ b)
    (r : RunAny P R f k n ops (Still W1 G2) fuel dn L W1 D) : RunAny P R f k n ops (Still W G) fuel dn L W1 D := by
  refine fun a hF => wpAnyH_weaken (fun w' h' => ⟨Nat.le_trans hS.1 h'.1, fun b hlt hg => ?_⟩) _ _ _ _ (r a hF)
  rw [h'.2 b (Nat.lt_of_lt_of_le hlt hS.1) (fun v hv hb => ?_)]
  · exact hS.2 b hlt hg
  · rcases h2 v hv b hb with ⟨u, hu, h3⟩ | h3
    · exact hg u hu h3
    · omega

theorem len_4 {α : Type} {l : List α} (h : l.length = 4) : ∃ a b c d, l = [a, b, c, d] := by
  match l, h with
  | [a, b, c, d], _ => exact ⟨a, b, c, d, rfl⟩

def sub (xs : List Int) (i : Int) (m : Nat) : List Int := (xs.drop (i * (m : Int)).toNat).take m
theorem sub_length {xs : List Int} {i : Int} {m N : Nat} (h0 : 0 ≤ i) (h1 : i < (N : Int)) (hl : xs.length = N * m) : (sub xs i m).length = m := by
  unfold sub
  obtain ⟨j, rfl⟩ := Int.eq_ofNat_of_zero_le h0
  have e1 : ((j : Int) * (m : Int)).toNat = j * m := by rw [← Int.natCast_mul, Int.toNat_natCast]
  rw [e1, List.length_take, List.length_drop, hl]
  have : (j + 1) * m ≤ N * m := Nat.mul_le_mul_right m (by omega)
  rw [Nat.add_mul, Nat.one_mul] at this
  omega

def idxValS (P : Program) (n : Nat) (k : List Item) (L : Env) (m : Nat) : Option (Option Nat × Array Value × Nat × Int × List Item) :=
  match cur n k L with
  | some (o, k2) => match o.op with
    | .index t x ix => match P.underlying t with
      | some (.array len e) => bif rowT P e m then (match ev L x, ev L ix with
          | .agg cs, .int _ i => some (o.dst, cs, len, i, k2)
          | _, _ => none) else none
      | _ => none
    | _ => none
  | none => none

theorem run_isAgg_row {t : TypeId} {N : Nat} (h : rowT P t N = true) : (isAgg t).run P w = .ok true w := by
  obtain ⟨d, hu, hd, hi⟩ := rowT_spec h
  simp only [isAgg, underlying, program, bind, Sem.bind, pure, Sem.run, hu]
  cases d <;> first | rfl | cases hd

theorem idxValS_y {d : Option Nat} {kd : IntKind} {xs : List Int} {len m : Nat} {i : Int} (h : idxValS P n k L m = some (d, (nums kd xs).toArray, len, i, k2)) (h0 : 0 ≤ i) (h1 : i < (len : Int)) (hl : xs.length = len * m) :
    Yl P n k L (fun _ => True) d (.agg (nums kd (sub xs i m)).toArray) k2 := by
  generalize hX : (nums kd xs).toArray = X at h
  unfold idxValS at h
  split at h
  · rename_i o k3 hcur
    split at h
    · rename_i t x ix hop
      split at h
      · rename_i len' e hut
        cases hs : rowT P e m with
        | false => rw [hs] at h; cases h
        | true =>
          rw [hs, cond_true] at h
          split at h
          · rename_i cs' kd' i' hx hix
            injection h with h; injection h with h1' h2; injection h2 with h2 h3; injection h3 with h3 h4; injection h4 with h4 h5
            subst h2; subst h3; subst h4; subst h5
            refine ⟨o, hcur, h1', fun w _ => ?_⟩
            simp only [execOp, hop, hx, hix]
            refine run_next ?_
            have ha := run_isAgg_row (w := w) hs
            obtain ⟨dd, hu, hd, hi⟩ := rowT_spec hs
            cases hq : P.info? e with
            | none => rw [hq] at hi; cases hi
            | some info =>
              have hsz : info.size = m := by rw [hq] at hi; simpa using hi
              obtain ⟨j, rfl⟩ := Int.eq_ofNat_of_zero_le h0
              have hfin : (Value.agg (cs'.extract (j * m) (j * m + m))) = .agg (nums kd (sub xs (j : Int) m)).toArray := by
                congr 1
                rw [← hX]
                apply Array.ext'
                simp only [Array.toList_extract, List.extract_eq_take_drop]
                unfold sub nums
                have e1 : ((j : Int) * (m : Int)).toNat = j * m := by rw [← Int.natCast_mul, Int.toNat_natCast]
                rw [e1, List.map_take, List.map_drop, Nat.add_sub_cancel_left]
              rw [← hfin]
              simp only [Instr.index, asIntOf, Sem.run_bind, Sem.run_pure, Result.andThen_ok, run_underlying hut]
              simp [h1, sizeOf, typeInfo, hq, hsz, part, ha, Sem.run_bind]
          · cases h
      · cases h
    · cases h
  · cases h

def ldpAt (P : Program) (n : Nat) (k : List Item) (L : Env) (N : Nat) : Option (Option Nat × Nat × Nat × List Item) :=
  match cur n k L with
  | some (o, k2) => match o.op with
    | .load t x => bif rowT P t N then (match ev L x with
      | .pointer (some ⟨g, off, none⟩) => some (o.dst, g, off, k2)
      | _ => none) else none
    | _ => none
  | none => none

theorem ldp_y {d : Option Nat} {g N off : Nat} (cs : List Value) (h : ldpAt P n k L N = some (d, g, off, k2)) (hN : cs.length = N) : Yl P n k L (fun w => ∀ i u, cs[i]? = some u → w.cell? ⟨g, off + i, none⟩ = some u) d (.agg cs.toArray) k2 := by
  unfold ldpAt at h
  split at h
  · rename_i o k3 hcur
    split at h
    · rename_i t x hop
      cases hs : rowT P t N with
      | false => rw [hs] at h; cases h
      | true =>
        rw [hs, cond_true] at h
        split at h
        · rename_i g' off' hx
          injection h with h; injection h with h1 h2; injection h2 with h2 h3; injection h3 with h3 h4; subst h2; subst h3; subst h4
          obtain ⟨dd, hu, hd, hi⟩ := rowT_spec hs
          refine ⟨o, hcur, h1, fun w hc => ?_⟩
          simp only [execOp, hop, hx]
          refine run_next ?_
          simp only [Instr.loadAt, Instr.sureAddr, bind, Sem.bind, pure]
          cases hq : P.info? t with
          | none => rw [hq] at hi; cases hi
          | some info =>
            have hsz : info.size = N := by rw [hq] at hi; simpa using hi
            have hl := run_loadCells_list (P := P) (w := w) ⟨g', off', none⟩ cs (fun j v hj => by rw [add_at]; exact hc j v hj)
            rw [hN] at hl
            unfold loadVar
            rw [Sem.run_bind, run_isAgg_row hs]
            simp [Result.andThen, Sem.run_bind, sizeOf, typeInfo, hq, hsz, hl]
        · cases h
    · cases h
  · cases h
end
end Go.Scr
