/- Arrays: variables of many cells. -/
import Derived.Test.YtdemmfohkhpklaaGreatDoorXRows
import Derived.Laws.Rows
import Derived.Laws.Tables
import Derived.ChangeKeysEq
import Derived.Laws.StructEq
/- Arrays: variables of many cells, values of many cells. -/
set_option linter.unnecessarySimpa false
set_option linter.unusedVariables false
set_option linter.unusedSimpArgs false
namespace Go.Scr
open Go.RowKit (Below)
variable {D : List Deferred}

section
variable {P : Program} {R : Ending → World → Prop} {f : FuncId} {k k2 : List Item} {n : Nat} {ops : Array Oper} {S : World → Prop} {L L' : Env} {w w0 W w' : World} {fuel : Nat} {dn : List Nat} {H : List Ent}

def rowT (P : Program) (t : TypeId) (N : Nat) : Bool :=
  match P.underlying t with
  | some (.struct _) => (match P.info? t with | some i => Nat.beq i.size N | none => false)
  | some (.array _ _) => (match P.info? t with | some i => Nat.beq i.size N | none => false)
  | _ => false

theorem rowT_spec {t : TypeId} {N : Nat} (h : rowT P t N = true) : ∃ d, P.underlying t = some d ∧ (match d with | .struct _ | .array _ _ => true | _ => false) = true ∧ (P.info? t).map (·.size) = some N := by
  unfold rowT at h
  split at h
  · rename_i d hu
    split at h
    · rename_i i hi
      exact ⟨_, hu, rfl, by rw [hi]; simp [Nat.eq_of_beq_eq_true h]⟩
    · cases h
  · rename_i d e hu
    split at h
    · rename_i i hi
      exact ⟨_, hu, rfl, by rw [hi]; simp [Nat.eq_of_beq_eq_true h]⟩
    · cases h
  · cases h

theorem Mem.block (h : Mem w0 W H) (j : Nat) {g : Nat} {ty : TypeId} {cs : List Value} (hj : H[j]? = some ⟨.pointer (some ⟨g, 0, none⟩), ty, 0, cs⟩) : W.heap[g]? = some (.cells cs.toArray ty (0, 0)) :=
  ((h.ok _ (List.mem_of_getElem? hj)).1).2.2

def ldvAt (P : Program) (n : Nat) (k : List Item) (L : Env) (N : Nat) : Option (Option Nat × Nat × List Item) :=
  match cur n k L with
  | some (o, k2) => match o.op with
    | .load t x => bif rowT P t N then (match ev L x with
      | .pointer (some ⟨g, 0, none⟩) => some (o.dst, g, k2)
      | _ => none) else none
    | _ => none
  | none => none

theorem ldv_y {d : Option Nat} {g N : Nat} {ty : TypeId} (cs : List Value) (h : ldvAt P n k L N = some (d, g, k2)) (hN : cs.length = N) : Yl P n k L (fun w => w.heap[g]? = some (.cells cs.toArray ty (0, 0))) d (.agg cs.toArray) k2 := by
  unfold ldvAt at h
  split at h
  · rename_i o k3 hcur
    split at h
    · rename_i t x hop
      cases hs : rowT P t N with
      | false => rw [hs] at h; cases h
      | true =>
        rw [hs, cond_true] at h
        split at h
        · rename_i g' hx
          injection h with h; injection h with h1 h2; injection h2 with h2 h3; subst h2; subst h3
          obtain ⟨dd, hu, hd, hi⟩ := rowT_spec hs
          refine ⟨o, hcur, h1, fun w hc => ?_⟩
          simp only [execOp, hop, hx]
          refine run_next ?_
          simp only [Instr.loadAt, Instr.sureAddr, bind, Sem.bind, pure]
          exact run_loadVar_row w g' ty t cs.toArray (0, 0) dd hc hu (by cases dd <;> first | rfl | cases hd) (by rw [hi]; simp [hN])
        · cases h
    · cases h
  · cases h

def stvAt (P : Program) (n : Nat) (k : List Item) (L : Env) (N : Nat) : Option (Nat × Array Value × List Item) :=
  match cur n k L with
  | some (o, k2) => match o.op with
    | .store t x v => match P.info? t with
      | some i => bif Nat.beq i.size N then (match ev L x with
        | .pointer (some ⟨g, 0, none⟩) => (match ev L v with
          | .agg cs => (match o.dst with | none => some (g, cs, k2) | some _ => none)
          | _ => none)
        | _ => none) else none
      | none => none
    | _ => none
  | none => none

theorem stv_u {g N : Nat} {cells old : Array Value} {ty : TypeId} (h : stvAt P n k L N = some (g, cells, k2)) (hN : cells.size = N) (hg : w.heap[g]? = some (.cells old ty (0, 0))) (ho : old.size = N) (h1 : cells.all (·.oneCell') = true) :
    DoesU P n k L w none (w.setRow g cells) k2 := by
  unfold stvAt at h
  split at h
  · rename_i o k3 hcur
    split at h
    · rename_i t x v hop
      split at h
      · rename_i i hi
        cases hs : Nat.beq i.size N with
        | false => rw [hs] at h; cases h
        | true =>
          rw [hs, cond_true] at h
          split at h
          · rename_i g' hx
            split at h
            · rename_i cs hv
              split at h
              · rename_i hd
                injection h with h; injection h with h1' h2; injection h2 with h2 h3; subst h1'; subst h2; subst h3
                refine ⟨o, hcur, hd, ?_⟩
                have hz : (P.info? t).map (·.size) = some cs.size := by rw [hi]; simp [Nat.eq_of_beq_eq_true hs, hN]
                simp only [execOp, hop, hx, hv, Instr.storeAt, Instr.sureAddr]
                simp only [Sem.run_bind, Sem.run_pure, Result.andThen_ok, run_storeVar_row w g' ty t old cs hg hz (by rw [ho, hN]) h1]
              · cases h
            · cases h
          · cases h
      · cases h
    · cases h
  · cases h

theorem heap_setRow (w : World) (g j : Nat) (cs : Array Value) (h : j ≠ g) : (w.setRow g cs).heap[j]? = w.heap[j]? := setRow_other w g j cs h

theorem Mem.setAll (H1 H2 : List Ent) {g : Nat} {ty : TypeId} {old cs : List Value} (h : Mem w0 W (H1 ++ ⟨.pointer (some ⟨g, 0, none⟩), ty, 0, old⟩ :: H2)) :
    Mem w0 (W.setRow g cs.toArray) (H1 ++ ⟨.pointer (some ⟨g, 0, none⟩), ty, 0, cs⟩ :: H2) := by
  have he : (⟨.pointer (some ⟨g, 0, none⟩), ty, 0, old⟩ : Ent) ∈ H1 ++ ⟨.pointer (some ⟨g, 0, none⟩), ty, 0, old⟩ :: H2 := by simp
  obtain ⟨ho, hg0⟩ := h.ok _ he
  have hb : W.heap[g]? = some (.cells old.toArray ty (0, 0)) := ho.2.2
  have hg1 : w0.heap.size ≤ g := hg0 g rfl
  have hlt : g < W.heap.size := (Array.getElem?_eq_some_iff.1 hb).1
  have hself : (W.setRow g cs.toArray).heap[g]? = some (.cells cs.toArray ty (0, 0)) := setRow_heap W g _ _ _ _ hb
  have hsep := List.pairwise_append.1 h.sep
  have hsep2 := List.pairwise_cons.1 hsep.2.1
  have keep : ∀ x : Ent, x.ok W → (∀ k, blk x.v = some k → k ≠ g) → x.ok (W.setRow g cs.toArray) := fun x hx hne => Ent.ok_of hx (fun k hk => heap_setRow W g k _ (hne k hk))
  refine ⟨?_, ?_, ?_⟩
  · refine ⟨?_, ?_, ?_, ?_, fun b hlt' => ?_⟩
    · exact h.below.os
    · exact h.below.tape
    · exact h.below.output
    · have := h.below.size; rw [setRow_size]; exact this
    · rw [heap_setRow W g b _ (by omega)]; exact h.below.block b hlt'
  · intro x hx
    rcases List.mem_append.1 hx with hx1 | hx1
    · obtain ⟨h1, h2⟩ := h.ok x (List.mem_append_left _ hx1)
      exact ⟨keep x h1 (fun k hk e => by subst e; exact hsep.2.2 x hx1 _ List.mem_cons_self _ hk rfl), h2⟩
    · rcases List.mem_cons.1 hx1 with rfl | hx2
      · exact ⟨⟨rfl, rfl, hself⟩, hg0⟩
      · obtain ⟨h1, h2⟩ := h.ok x (List.mem_append_right _ (List.mem_cons_of_mem _ hx2))
        exact ⟨keep x h1 (fun k hk e => by subst e; exact hsep2.1 x hx2 _ rfl hk), h2⟩
  · refine List.pairwise_append.2 ⟨hsep.1, List.pairwise_cons.2 ⟨fun x hx gg h1 h2 => hsep2.1 x hx gg h1 h2, hsep2.2⟩, ?_⟩
    intro x hx y hy
    rcases List.mem_cons.1 hy with rfl | hy
    · have := hsep.2.2 x hx ⟨.pointer (some ⟨g, 0, none⟩), ty, 0, old⟩ List.mem_cons_self
      exact fun gg h1 h2 => this gg h1 h2
    · exact hsep.2.2 x hx y (List.mem_cons_of_mem _ hy)

theorem idxArr_own {d : Option Nat} {g len : Nat} {i : Int} (h : idxArr P n k L = some (d, ⟨g, 0, none⟩, len, 1, i, k2)) (h0 : 0 ≤ i) (h1 : i < len) :
    Yl P n k L (fun _ => True) d (.pointer (some ⟨g, i.toNat, none⟩)) k2 := by
  have := idxArr_y h h0 h1
  rw [Nat.mul_one, add_zero_at] at this
  exact this

theorem Mem.var_at (h : Mem w0 W H) (j : Nat) {g : Nat} {ty : TypeId} {cs : List Value} (hj : H[j]? = some ⟨.pointer (some ⟨g, 0, none⟩), ty, 0, cs⟩) {i : Nat} {u : Value} (hi : cs[i]? = some u) :
    W.cell? ⟨g, i, none⟩ = some u ∧ W.frozen? ⟨g, i, none⟩ = false := by
  have hb := h.block j hj
  refine ⟨by rw [cell_of_row W g i cs.toArray ty (0, 0) hb]; simpa using hi, ?_⟩
  unfold World.frozen?
  rw [hb]; simp
def idxVal (P : Program) (n : Nat) (k : List Item) (L : Env) : Option (Option Nat × Array Value × Nat × Int × List Item) :=
  match cur n k L with
  | some (o, k2) => match o.op with
    | .index t x ix => match P.underlying t with
      | some (.array len e) => bif scalarT P e then (match P.info? e with
        | some info => bif Nat.beq info.size 1 then (match ev L x, ev L ix with
          | .agg cs, .int _ i => some (o.dst, cs, len, i, k2)
          | _, _ => none) else none
        | none => none) else none
      | _ => none
    | _ => none
  | none => none

theorem idxVal_y {d : Option Nat} {cs : Array Value} {len : Nat} {i : Int} {u : Value} (h : idxVal P n k L = some (d, cs, len, i, k2)) (h0 : 0 ≤ i) (h1 : i < len) (hu : cs[i.toNat]? = some u) : Yl P n k L (fun _ => True) d u k2 := by
  unfold idxVal at h
  split at h
  · rename_i o k3 hcur
    split at h
    · rename_i t x ix hop
      split at h
      · rename_i len' e hut
        cases hs : scalarT P e with
        | false => rw [hs] at h; cases h
        | true =>
          rw [hs, cond_true] at h
          split at h
          · rename_i info hi
            cases hz : Nat.beq info.size 1 with
            | false => rw [hz] at h; cases h
            | true =>
              rw [hz, cond_true] at h
              split at h
              · rename_i cs' kd i' hx hix
                injection h with h; injection h with h1' h2; injection h2 with h2 h3; injection h3 with h3 h4; injection h4 with h4 h5
                subst h2; subst h3; subst h4; subst h5
                refine ⟨o, hcur, h1', fun w _ => ?_⟩
                simp only [execOp, hop, hx, hix]
                refine run_next ?_
                have ha := run_isAgg (w := w) hs
                simp [Instr.index, asIntOf, Sem.run_bind, run_underlying hut, h0, h1, sizeOf, typeInfo, hi, Nat.eq_of_beq_eq_true hz, part, ha, hu]
              · cases h
          · cases h
      · cases h
    · cases h
  · cases h

theorem RunF.retc {fn : Func} {t N : Nat} {ty tv : TypeId} {g : Nat} (cs : List Value) (hf : P.funcs[f]? = some fn) (hr : fn.results = #[.cell t ty]) (hk : isRet k = true) (hl : lk L t = some (.pointer (some ⟨g, 0, none⟩)))
    (hT : rowT P ty N = true) (hN : cs.length = N) (hb : w.heap[g]? = some (.cells cs.toArray tv (0, 0))) (hR : R (.returned (.agg cs.toArray)) w) : RunF P R f k n L w := by
  obtain ⟨d, hu, hd, hi⟩ := rowT_spec hT
  refine fun a hF => Run.ends hf (isRet_spec hk) hF.defs (results_cell_row hr a.tmps w g tv cs.toArray (0, 0) d ?_ hb hu (by cases d <;> first | rfl | cases hd) (by rw [hi]; simp [hN])) hR
  simp [hF.look hl]
theorem all_nums (k : IntKind) (xs : List Int) : (nums k xs).toArray.all (·.oneCell') = true := by
  rw [Array.all_eq_true_iff_forall_mem]; intro x hx
  simp [nums] at hx
  obtain ⟨a, _, rfl⟩ := hx; rfl
theorem all_bools (xs : List Bool) : (bools xs).toArray.all (·.oneCell') = true := by
  rw [Array.all_eq_true_iff_forall_mem]; intro x hx
  simp [bools] at hx
  rcases hx with ⟨_, rfl⟩ | ⟨_, rfl⟩ <;> rfl

def sb (s : ByteArray) (i : Int) : Int := ((s.data.getD i.toNat 0).toNat : Int)
def idxStr (P : Program) (n : Nat) (k : List Item) (L : Env) : Option (Option Nat × ByteArray × Int × List Item) :=
  match cur n k L with
  | some (o, k2) => match o.op with
    | .index t x ix => match P.underlying t with
      | some .string => (match ev L x, ev L ix with
        | .string s, .int _ i => some (o.dst, s, i, k2)
        | _, _ => none)
      | _ => none
    | _ => none
  | none => none

theorem idxStr_y {d : Option Nat} {s : ByteArray} {i : Int} (h : idxStr P n k L = some (d, s, i, k2)) (h0 : 0 ≤ i) (h1 : i < (s.size : Int)) : Yl P n k L (fun _ => True) d (.int .u8 (sb s i)) k2 := by
  unfold idxStr at h
  split at h
  · rename_i o k3 hcur
    split at h
    · rename_i t x ix hop
      split at h
      · rename_i hut
        split at h
        · rename_i s' kd i' hx hix
          injection h with h; injection h with h1' h2; injection h2 with h2 h3; injection h3 with h3 h4
          subst h2; subst h3; subst h4
          refine ⟨o, hcur, h1', fun w _ => ?_⟩
          simp only [execOp, hop, hx, hix]
          refine run_next ?_
          have hlt : i'.toNat < s'.size := by omega
          have hg : s'[i'.toNat]? = some s'[i'.toNat] := by simp [hlt]
          have hb : s'[i'.toNat] = s'.data.getD i'.toNat 0 := by
            simp [Array.getD, ByteArray.getElem_eq_getElem_data, show i'.toNat < s'.data.size from hlt]
            intro hle; omega
          simp [Instr.index, asIntOf, Sem.run_bind, run_underlying hut, h0, hg, sb, hb]
        · cases h
      · cases h
    · cases h
  · cases h

def eqArr (P : Program) (n : Nat) (k : List Item) (L : Env) : Option (Option Nat × Array Value × Array Value × Nat × List Item) :=
  match cur n k L with
  | some (o, k2) => match o.op with
    | .binOp .eql t x y _ => match P.underlying t with
      | some (.array len e) => match P.underlying e with
        | some .bool => match P.info? e with
          | some i => bif Nat.beq (P.cellsOf e) 1 then (bif P.eqGuardType P.depth t then none else (match ev L x, ev L y with
            | .agg xs, .agg ys => some (o.dst, xs, ys, len, k2)
            | _, _ => none)) else none
          | none => none
        | _ => none
      | _ => none
    | _ => none
  | none => none

theorem run_eqItems_bools (d : Nat) {e : TypeId} (he : P.underlying e = some .bool) (xs ys : List Bool) : ∀ (is : List Nat), (∀ i ∈ is, i < xs.length ∧ i < ys.length) →
    (Op.eqItems (d + 1) e 1 (bools xs).toArray (bools ys).toArray is).run P w = .ok (is.all fun i => xs.getD i false == ys.getD i false) w
  | [], _ => by simp [Op.eqItems]
  | i :: is, hi => by
    have hx := (hi i List.mem_cons_self).1
    have hy := (hi i List.mem_cons_self).2
    have hagg : (isAgg e).run P w = .ok false w := by
      unfold isAgg
      rw [Sem.run_bind, run_underlying he w]; rfl
    have p : ∀ zs : List Bool, i < zs.length → (part e (bools zs).toArray (i * 1)).run P w = .ok (.bool (zs.getD i false)) w := by
      intro zs hz
      unfold part
      rw [Sem.run_bind, hagg]
      simp [bools, hz, List.getD_eq_getElem?_getD]
    have q : (Op.equalIn (d + 1) e (.bool (xs.getD i false)) (.bool (ys.getD i false))).run P w = .ok (xs.getD i false == ys.getD i false) w := by
      simp [Op.equalIn, Sem.run_bind, run_underlying he w]
    simp only [Op.eqItems, Sem.run_bind, p xs hx, p ys hy, q, Result.andThen_ok, List.all_cons]
    cases hb : xs.getD i false == ys.getD i false
    · simp
    · simp only [Bool.not_true, Bool.false_eq_true, if_false, Bool.true_and]
      exact run_eqItems_bools d he xs ys is (fun j hj => hi j (List.mem_cons_of_mem _ hj))

theorem all_range_eq {xs ys : List Bool} {N : Nat} (hx : xs.length = N) (hy : ys.length = N) : ((List.range N).all fun i => xs.getD i false == ys.getD i false) = (xs == ys) := by
  rw [Bool.eq_iff_iff]
  simp only [List.all_eq_true, List.mem_range, beq_iff_eq]
  constructor
  · intro h
    refine List.ext_getElem (by omega) fun i h1 h2 => ?_
    have := h i (by omega)
    simpa [List.getD_eq_getElem?_getD, h1, h2] using this
  · intro h; subst h; intro i _; rfl

theorem eqArr_y {d : Option Nat} {xs ys : List Bool} {N : Nat} (h : eqArr P n k L = some (d, (bools xs).toArray, (bools ys).toArray, N, k2)) (hx : xs.length = N) (hy : ys.length = N) : Yl P n k L (fun _ => True) d (.bool (xs == ys)) k2 := by
  generalize hX : (bools xs).toArray = X at h
  generalize hY : (bools ys).toArray = Y at h
  unfold eqArr at h
  split at h
  · rename_i o k3 hcur
    split at h
    · rename_i t x y u hop
      split at h
      · rename_i len e hut
        split at h
        · rename_i he
          split at h
          · rename_i i hi
            cases hc : Nat.beq (P.cellsOf e) 1 with
            | false => rw [hc] at h; cases h
            | true =>
              rw [hc, cond_true] at h
              cases hg : P.eqGuardType P.depth t with
              | true => rw [hg] at h; cases h
              | false =>
                rw [hg, cond_false] at h
                split at h
                · rename_i xs' ys' hxv hyv
                  injection h with h; injection h with h1' h2; injection h2 with h2 h3; injection h3 with h3 h4; injection h4 with h4 h5
                  subst h2; subst h3; subst h4; subst h5
                  refine ⟨o, hcur, h1', fun w _ => ?_⟩
                  have hc1 : P.cellsOf e = 1 := Nat.eq_of_beq_eq_true hc
                  simp only [execOp, hop, hxv, hyv]
                  refine run_next ?_
                  rw [Sem.run_bind, run_eqGuard_agg w .eql t x y xs' ys' hg, Result.andThen_ok, run_eql_struct, run_equalIn_array w 9999 xs' ys' hut hi, hc1, ← hX, ← hY,
                    run_eqItems_bools 9998 he xs ys (List.range len) (fun j hj => by have := List.mem_range.1 hj; omega), all_range_eq hx hy]
                  rfl
                · cases h
          · cases h
        · cases h
      · cases h
    · cases h
  · cases h

def Rg (w : World) (b : Nat) (cs : List Value) : Prop := ∀ i u, cs[i]? = some u → w.cell? ⟨b, i, none⟩ = some u
theorem Rg.mono {b : Nat} {cs : List Value} (h : Rg w b cs) (hb : Below w.heap.size w W) : Rg W b cs := fun i u hi => (hb.cell (World.block_lt_of_cell? _ _ (h i u hi))).trans (h i u hi)
theorem Rg.num {b : Nat} {kd : IntKind} {xs : List Int} (h : Rg w b (nums kd xs)) {i : Int} (h0 : 0 ≤ i) (h1 : i < (xs.length : Int)) : w.cell? ⟨b, i.toNat, none⟩ = some (.int kd (Scr.rd xs i)) := h _ _ (nums_at h0 h1)
end
end Go.Scr
