/- Single cells; structs that change. -/
import Derived.Test.YtdemmfohkhpklaaGreatDoorXRaw
/- Rows of slices, as rows of headers. -/
set_option linter.unnecessarySimpa false
set_option linter.unusedVariables false
set_option linter.unusedSimpArgs false
namespace Go.Scr
open Go.RowKit (Below)
variable {D : List Deferred}
section
variable {P : Program} {n : Nat} {k k2 : List Item} {L : Env} {w w0 W : World} {H H1 H2 : List Ent}
abbrev SlV := Option Addr × Nat × Nat
def sv (x : SlV) : Value := .slice x.1 x.2.1 x.2.2
def ones (xs : List SlV) : List Value := xs.map sv
def rdo (xs : List SlV) (i : Int) : SlV := xs.getD i.toNat (none, 0, 0)
theorem ones_length (xs : List SlV) : (ones xs).length = xs.length := by simp [ones]
theorem ones_set (xs : List SlV) (i : Nat) (x : SlV) : (ones xs).set i (sv x) = ones (xs.set i x) := by simp [ones, List.map_set]
theorem ones_append (xs ys : List SlV) : ones xs ++ ones ys = ones (xs ++ ys) := by simp [ones]
theorem ones_at {xs : List SlV} {i : Int} (h0 : 0 ≤ i) (h1 : i < xs.length) : (ones xs)[i.toNat]? = some (sv (rdo xs i)) := by
  have : i.toNat < xs.length := by omega
  simp [ones, rdo, this]
theorem one_ones (xs : List SlV) : ∀ u ∈ ones xs, oneC u = true := by
  intro u hu; obtain ⟨x, _, rfl⟩ := List.mem_map.1 hu; rfl
theorem Each2.heads {α : Type} {R : Value → α → Prop} (hR : ∀ v x, R v x → ∃ s : SlV, v = sv s) : ∀ {cs : List Value} {xs : List α}, Each2 R cs xs → ∃ ys : List SlV, cs = ones ys
  | [], _, _ => ⟨[], rfl⟩
  | c :: cs, [], h => by have := h.1; simp at this
  | c :: cs, x :: xs, h => by
    obtain ⟨s, rfl⟩ := hR c x (h.2 0 c x rfl rfl)
    have h' : Each2 R cs xs := ⟨by have := h.1; simpa using this, fun i u y hu hy => h.2 (i + 1) u y (by simpa using hu) (by simpa using hy)⟩
    obtain ⟨ys, rfl⟩ := Each2.heads hR h'
    exact ⟨s :: ys, rfl⟩
theorem each_one {α : Type} {R : Value → α → Prop} (hR : ∀ v x, R v x → ∃ s : SlV, v = sv s) {cs : List Value} {xs : List α} (h : Each2 R cs xs) : ∀ u ∈ cs, oneC u = true := by
  obtain ⟨ys, rfl⟩ := Each2.heads hR h
  exact one_ones ys
theorem rrows_head {α : Type} {R : Rep α} {Z : Zp} : ∀ v (x : List α), rRows R Z v x → ∃ s : SlV, v = sv s := fun v x ⟨A, c, cs, h, _⟩ => ⟨(A, x.length, c), h⟩
theorem Each2.reverse {α : Type} {R : Value → α → Prop} {cs : List Value} {xs : List α} (h : Each2 R cs xs) : Each2 R cs.reverse xs.reverse := by
  refine ⟨by rw [List.length_reverse, List.length_reverse]; exact h.1, fun i u x hu hx => ?_⟩
  have hi : i < cs.length := by have := (List.getElem?_eq_some_iff.1 hu).1; rwa [List.length_reverse] at this
  rw [List.getElem?_reverse hi] at hu
  rw [List.getElem?_reverse (by rw [← h.1]; exact hi)] at hx
  refine h.2 (cs.length - 1 - i) u x hu ?_
  rw [h.1]; exact hx
theorem rnums_head {kd : IntKind} {Z : Zp} : ∀ v (x : List Int), rNums kd Z v x → ∃ s : SlV, v = sv s := fun v x ⟨A, c, h, _⟩ => ⟨(A, x.length, c), h⟩
theorem Mem.cellsKept (h : Mem w0 W H) (j : Nat) {g : Nat} {ty : TypeId} {cs : List Value} (hj : H[j]? = some ⟨.pointer (some ⟨g, 0, none⟩), ty, 0, cs⟩) : CellsF (Kept W) g cs := by
  intro W' hk i u hi
  have hb := h.block j hj
  have hg : g < W.heap.size := (Array.getElem?_eq_some_iff.1 hb).1
  have hb' := (hk.2 g hg).trans hb
  rw [cell_of_row W' g i cs.toArray ty (0, 0) hb']; simpa using hi
def stpAt (P : Program) (n : Nat) (k : List Item) (L : Env) (N : Nat) : Option (Nat × Nat × Array Value × List Item) :=
  match cur n k L with
  | some (o, k2) => match o.op with
    | .store t x v => match P.info? t with
      | some i => bif Nat.beq i.size N then (match ev L x with
        | .pointer (some ⟨g, off, none⟩) => (match ev L v with
          | .agg cs => (match o.dst with | none => some (g, off, cs, k2) | some _ => none)
          | _ => none)
        | _ => none) else none
      | none => none
    | _ => none
  | none => none
theorem stp_u {g N off : Nat} {vs : Array Value} {old new : List Value} {ty : TypeId} (h : stpAt P n k L N = some (g, off, vs, k2)) (hN : vs.size = N) (hg : w.heap[g]? = some (.cells old.toArray ty (0, 0))) (ho : off + N ≤ old.length) (h1 : vs.all (·.oneCell') = true)
    (hn : old.take off ++ vs.toList ++ old.drop (off + N) = new) : DoesU P n k L w none (w.setRow g new.toArray) k2 := by
  unfold stpAt at h
  split at h
  · rename_i o k3 hcur
    split at h
    · rename_i t x v hop
      split at h
      · rename_i i hi
        cases hs : Nat.beq i.size N with
        | false => rw [hs] at h; cases h
        | true =>
          rw [hs, cond_true] at h
          split at h
          · rename_i g' off' hx
            split at h
            · rename_i cs hv
              split at h
              · rename_i hd
                injection h with h; injection h with h1' h2; injection h2 with h2 h3; injection h3 with h3 h4; subst h1'; subst h2; subst h3; subst h4
                refine ⟨o, hcur, hd, ?_⟩
                have hz : i.size = cs.size := by rw [Nat.eq_of_beq_eq_true hs, hN]
                have hst := run_storeCells_at (P := P) g' off' ty cs.toList 0 old.toArray w hg (by simp; omega) (by rw [Array.all_eq_true_iff_forall_mem] at h1; intro v hv; exact h1 v (by simpa using hv))
                simp only [execOp, hop, hx, hv, Instr.storeAt, Instr.sureAddr]
                simp only [Sem.run_bind, Sem.run_pure, Result.andThen_ok]
                have hsv : (storeVar t ⟨g', off', none⟩ (.agg cs)).run P w = .ok () (w.setRow g' new.toArray) := by
                  rw [← hn, ← hN]
                  simpa [storeVar, sizeOf, typeInfo, hi, Value.cells, hz] using hst
                rw [hsv]; rfl
              · cases h
            · cases h
          · cases h
      · cases h
    · cases h
  · cases h
def rFn {α : Type} (g : FuncId) (R : Rep α) : Rep α := fun Z v x => ∃ u, v = .func (.func g) #[u] #[] ∧ R Z u x
def rSum {α β : Type} (R : Rep α) (S : Rep β) : Rep (α ⊕ β) := fun Z v x => match x with | .inl a => R Z v a | .inr b => S Z v b
theorem up_fn {α : Type} (g : FuncId) {R : Rep α} (hR : Up R) : Up (rFn g R) := fun Z Y v x hs ⟨u, e, h⟩ => ⟨u, e, hR Z Y u x hs h⟩
theorem up_sum {α β : Type} {R : Rep α} {S : Rep β} (hR : Up R) (hS : Up S) : Up (rSum R S) := fun Z Y v x hs h => match x, h with | .inl a, h => hR Z Y v a hs h | .inr b, h => hS Z Y v b hs h
theorem rSum.left {α β : Type} {R : Rep α} {S : Rep β} {Z : Zp} {v : Value} {x : α ⊕ β} {a : α} (h : rSum R S Z v x) (e : x.getLeft? = some a) : R Z v a := by
  cases x with
  | inl b => cases e; exact h
  | inr b => cases e
theorem rSum.right {α β : Type} {R : Rep α} {S : Rep β} {Z : Zp} {v : Value} {x : α ⊕ β} {b : β} (h : rSum R S Z v x) (e : x.getRight? = some b) : S Z v b := by
  cases x with
  | inl b => cases e
  | inr b => cases e; exact h
end
end Go.Scr
