/- Laws of single steps, short. -/
import Derived.Test.YtdemmfohkhpklaaGreatDoorXSlim7
import Derived.Lib.SlBytesConst
/- '[]byte("abc")' of a constant: a row that is marked behind its last cell. -/
set_option linter.unnecessarySimpa false
set_option linter.unusedVariables false
set_option linter.unusedSimpArgs false
namespace Go.Scr
open Go.RowKit (Below)
variable {D : List Deferred}
section
variable {P : Program} {R : Ending → World → Prop} {f : FuncId} {k k2 : List Item} {n : Nat} {S : Sta} {ops : Array Oper} {w w' w0 W W' : World} {H H' E H1 H2 : List Ent} {Fs Fs' : List (List Ent)} {T : Value → World → Prop} {js js' : List Nat} {Z : List Nat × Env} {L : Env}
variable {A : Option Addr} {m c : Nat} {i : Int} {p : Addr} {u v : Value} {ty : TypeId} {cs : List Value}

theorem freeze_heap (W : World) (g N : Nat) (h : W.heap[g]? = some (.cells cs.toArray ty (0, 0))) : (W.freeze ⟨g, N, none⟩ 1).heap[g]? = some (.cells cs.toArray ty (N, N + 1)) := by
  unfold World.freeze
  rw [if_neg (by decide)]
  simp [Array.getElem?_modify, h]
theorem freeze_other (W : World) (g N j : Nat) (h : j ≠ g) : (W.freeze ⟨g, N, none⟩ 1).heap[j]? = W.heap[j]? := by
  unfold World.freeze
  rw [if_neg (by decide)]
  simp [Array.getElem?_modify, Ne.symm h]
theorem freeze_size (W : World) (g N : Nat) : (W.freeze ⟨g, N, none⟩ 1).heap.size = W.heap.size := by
  unfold World.freeze
  rw [if_neg (by decide)]
  simp
theorem own_all {g : Nat} (h : W.ownsRow 0 ty 1 (.slice (some ⟨g, 0, none⟩) m m) m cs) : cs.length = m ∧ W.heap[g]? = some (.cells cs.toArray ty (0, 0)) := by
  obtain ⟨h1, h2⟩ := h
  rw [Nat.mul_one] at h1
  refine ⟨h1, ?_⟩
  rcases h2 with ⟨h2, _⟩ | ⟨g', cap, cur, hv, h4, h5, h6, h7, h8, h9⟩
  · cases h2
  · injection hv with ha hb hc
    injection ha with ha; injection ha with ha; subst ha; subst hc
    rw [Nat.mul_one] at h8 h9
    have : cur.toList = cs := by rw [← h9, List.take_of_length_le]; simp [h8]
    rw [h5, ← this]
theorem Mem.mark {g N : Nat} (hN : cs.length = N + 1) (h : Mem w0 W (H1 ++ ⟨.slice (some ⟨g, 0, none⟩) (N + 1) (N + 1), ty, 1, cs⟩ :: H2)) :
    Mem w0 (W.freeze ⟨g, N + 1, none⟩ 1) (H1 ++ ⟨.pointer (some ⟨g, 0, none⟩), ty, N + 1, cs⟩ :: H2) := by
  have he : (⟨.slice (some ⟨g, 0, none⟩) (N + 1) (N + 1), ty, 1, cs⟩ : Ent) ∈ H1 ++ ⟨.slice (some ⟨g, 0, none⟩) (N + 1) (N + 1), ty, 1, cs⟩ :: H2 := by simp
  obtain ⟨ho, hg0⟩ := h.ok _ he
  have hb : W.heap[g]? = some (.cells cs.toArray ty (0, 0)) := (own_all ho).2
  have hg1 : w0.heap.size ≤ g := hg0 g rfl
  have hself : (W.freeze ⟨g, N + 1, none⟩ 1).heap[g]? = some (.cells cs.toArray ty (N + 1, N + 2)) := freeze_heap W g _ hb
  have hsep := List.pairwise_append.1 h.sep
  have hsep2 := List.pairwise_cons.1 hsep.2.1
  have keep : ∀ x : Ent, x.ok W → (∀ k, blk x.v = some k → k ≠ g) → x.ok (W.freeze ⟨g, N + 1, none⟩ 1) := fun x hx hne => Ent.ok_of hx (fun k hk => freeze_other W g _ k (hne k hk))
  refine ⟨?_, ?_, ?_⟩
  · refine ⟨?_, ?_, ?_, ?_, fun b hlt' => ?_⟩
    · have := h.below.os; unfold World.freeze; rw [if_neg (by decide)]; exact this
    · have := h.below.tape; unfold World.freeze; rw [if_neg (by decide)]; exact this
    · have := h.below.output; unfold World.freeze; rw [if_neg (by decide)]; exact this
    · have := h.below.size; rw [freeze_size]; exact this
    · rw [freeze_other W g _ b (by omega)]; exact h.below.block b hlt'
  · intro x hx
    rcases List.mem_append.1 hx with hx1 | hx1
    · obtain ⟨h1, h2⟩ := h.ok x (List.mem_append_left _ hx1)
      exact ⟨keep x h1 (fun k hk e => by subst e; exact hsep.2.2 x hx1 _ List.mem_cons_self _ hk rfl), h2⟩
    · rcases List.mem_cons.1 hx1 with rfl | hx2
      · exact ⟨⟨rfl, rfl, hself⟩, hg0⟩
      · obtain ⟨h1, h2⟩ := h.ok x (List.mem_append_right _ (List.mem_cons_of_mem _ hx2))
        exact ⟨keep x h1 (fun k hk e => by subst e; exact hsep2.1 x hx2 _ rfl hk), h2⟩
  · refine List.pairwise_append.2 ⟨hsep.1, List.pairwise_cons.2 ⟨fun x hx gg h1 h2 => hsep2.1 x hx gg h1 h2, hsep2.2⟩, ?_⟩
    intro x hx y hy
    rcases List.mem_cons.1 hy with rfl | hy
    · have := hsep.2.2 x hx ⟨.slice (some ⟨g, 0, none⟩) (N + 1) (N + 1), ty, 1, cs⟩ List.mem_cons_self
      exact fun gg h1 h2 => this gg h1 h2
    · exact hsep.2.2 x hx y (List.mem_cons_of_mem _ hy)
def cvAt (P : Program) (n : Nat) (k : List Item) (L : Env) : Option (Option Nat × Value × List Item) :=
  match cur n k L with
  | some (o, k2) => match o.op with
    | .convert a b x => bif Nat.beq a b then (match P.underlying a with
      | some (.slice e) => (match P.underlying e with
        | some (.int .u8) => some (o.dst, ev L x, k2)
        | _ => none)
      | _ => none) else none
    | _ => none
  | none => none
theorem do_cv {d : Option Nat} {g : Nat} (hb : w.heap[g]? = some (.cells cs.toArray ty (0, 0))) (h : cvAt P n k L = some (d, .slice (some ⟨g, 0, none⟩) m c, k2)) : Does P n k L w d (.slice (some ⟨g, 0, none⟩) m c) (w.freeze ⟨g, cs.length, none⟩ 1) k2 := by
  unfold cvAt at h
  split at h
  · rename_i o k3 hcur
    split at h
    · rename_i a b x hop
      cases hab : Nat.beq a b with
      | false => rw [hab] at h; cases h
      | true =>
        rw [hab, cond_true] at h
        have hab' : a = b := Nat.eq_of_beq_eq_true hab
        subst hab'
        split at h
        · rename_i e he
          split at h
          · rename_i he2
            injection h with h; injection h with h1 h2; injection h2 with h2 h3; subst h3
            refine ⟨o, hcur, h1, ?_⟩
            simp only [execOp, hop, h2]
            have hsh : w.shape? g = some (ty, cs.length) := by unfold World.shape?; rw [hb]; simp
            refine run_next ?_
            simp [convert, run_underlying he, run_underlying he2, markStringish, hsh]
          · cases h
        · cases h
    · cases h
  · cases h
theorem StpA.cv {q N g : Nat} (hM : Mem w0 w (Gs H Fs)) (j : Nat) (hj : H[j]? = some ⟨.slice (some ⟨g, 0, none⟩) (N + 1) (N + 1), ty, 1, cs⟩)
    (r : ∀ W', Mem w0 W' (Gs (H.set j ⟨.pointer (some ⟨g, 0, none⟩), ty, N + 1, cs⟩) Fs) → RunA P R f k n ops (H.set j ⟨.pointer (some ⟨g, 0, none⟩), ty, N + 1, cs⟩) js (afA ops q Z (.slice (some ⟨g, 0, none⟩) (N + 1) (N + 1))) W' D)
    (h : (cvAt P n (one ops q) Z.2, js.contains j) = (some (dA ops q, .slice (some ⟨g, 0, none⟩) (N + 1) (N + 1), [.inRegion ops []]), true) := by kernel_rfl) : StpA P R f k n ops H js Z w q D := by
  injection h with h hc
  have ho := (hM.ok _ (List.mem_of_getElem? (gs_at hj))).1
  obtain ⟨hl, hb⟩ := own_all ho
  have hM' := Mem.mark (H1 := H.take j) (H2 := Gs (H.drop (j + 1)) Fs) hl (gs_split hj ▸ hM)
  have hD := do_cv hb h
  rw [hl] at hD
  refine StpA.dv q hD (Aft.of ⟨by rw [freeze_size]; exact Nat.le_refl _, fun b _ hg => freeze_other w g _ b (fun e => hg _ (mem_vals.2 ⟨j, List.contains_iff_mem.1 hc, _, hj, rfl⟩) (by rw [e]; rfl))⟩ ?_ (r _ (by rw [gs_set _ hj]; exact hM')))
  intro x hx b hb'
  obtain ⟨j', hj', y, hy, rfl⟩ := mem_vals.1 hx
  by_cases e : j = j'
  · subst e
    rw [List.getElem?_set_self (List.getElem?_eq_some_iff.1 hj).1] at hy
    injection hy with hy; subst hy
    exact .inl ⟨_, mem_vals.2 ⟨j, hj', _, hj, rfl⟩, hb'⟩
  · rw [List.getElem?_set_ne e] at hy
    exact .inl ⟨y.v, mem_vals.2 ⟨j', hj', y, hy, rfl⟩, hb'⟩
theorem ent_mk {g N : Nat} (hN : cs.length = N) (h : Ent.ok W ⟨.pointer (some ⟨g, 0, none⟩), ty, N, cs⟩) : Rd W (.slice (some ⟨g, 0, none⟩) N N) cs := by
  refine ⟨hN, Nat.le_refl _, fun i u hi => ⟨_, rfl, ?_⟩⟩
  have := h.2.2
  rw [add_zero_at, cell_of_row W g i cs.toArray ty _ this]; simpa using hi
theorem Mem.mr (h : Mem w0 W (Gs H Fs)) (j : Nat) {g N : Nat} (hj : H[j]? = some ⟨.pointer (some ⟨g, 0, none⟩), ty, N, cs⟩) (hN : cs.length = N) : Rd W (.slice (some ⟨g, 0, none⟩) N N) cs := ent_mk hN (h.ok _ (List.mem_of_getElem? (gs_at hj))).1
end
end Go.Scr
