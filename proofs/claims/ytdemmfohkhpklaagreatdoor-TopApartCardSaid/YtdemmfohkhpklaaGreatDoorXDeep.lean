/- What is made and then only read. -/
import Derived.Test.YtdemmfohkhpklaaGreatDoorXLaw
/- What is made and then only read: groups of rows, pointers to structs, rows of rows. -/
set_option linter.unnecessarySimpa false
set_option linter.unusedVariables false
set_option linter.unusedSimpArgs false
namespace Go.Scr
open Go.RowKit (Below)
variable {D : List Deferred}

def Oks (F : List Ent) (W : World) : Prop := ∀ e ∈ F, e.ok W
def Gs (H : List Ent) (Fs : List (List Ent)) : List Ent := H ++ Fs.flatten

section
variable {w w0 W W' : World} {H H' : List Ent} {F G : List Ent} {Fs Fs' : List (List Ent)}
def Kept (w W : World) : Prop := w.heap.size ≤ W.heap.size ∧ ∀ b, b < w.heap.size → W.heap[b]? = w.heap[b]?
theorem Kept.of (h : Below w.heap.size w W) : Kept w W := ⟨h.size, fun b hb => h.block b hb⟩
theorem Kept.refl (w : World) : Kept w w := ⟨Nat.le_refl _, fun _ _ => rfl⟩
theorem Kept.trans {w W V : World} (h : Kept w W) (h' : Kept W V) : Kept w V := ⟨Nat.le_trans h.1 h'.1, fun b hb => (h'.2 b (Nat.lt_of_lt_of_le hb h.1)).trans (h.2 b hb)⟩
theorem Mem.kept (h : Mem w0 W H) : Kept w0 W := .of h.below
theorem Oks.kept (h : Oks F w) (hk : Kept w W) : Oks F W := fun e he => Ent.ok_of (h e he) (fun g hg => hk.2 g (Ent.lt (h e he) g hg))
theorem Rd.kept {v : Value} {cs : List Value} (h : Rd w v cs) (hk : Kept w W) : Rd W v cs := by
  cases v <;> try exact h
  case slice A n c =>
    obtain ⟨h1, h2, h3⟩ := h
    refine ⟨h1, h2, fun i u hi => ?_⟩
    obtain ⟨ad, h4, h5⟩ := h3 i u hi
    refine ⟨ad, h4, ?_⟩
    rw [World.cell?_of_block (hk.2 _ (World.block_lt_of_cell? _ _ h5))]; exact h5
def Among (H : List Ent) (G : List Value) : Prop := ∀ v ∈ G, ∃ (i : Nat) (e : Ent), H[i]? = some e ∧ e.v = v
theorem Mem.keptStill {w' : World} {G : List Value} (h : Mem w0 W H) (hG : Among H G) (hs : Still W G w') : Kept w0 w' := by
  refine ⟨Nat.le_trans h.below.size hs.1, fun b hb => ?_⟩
  rw [hs.2 b (Nat.lt_of_lt_of_le hb h.below.size) (fun v hv hbv => ?_)]
  · exact h.below.block b hb
  · obtain ⟨i, x, hx, rfl⟩ := hG v hv
    have := (h.ok x (List.mem_of_getElem? hx)).2 b hbv
    omega
theorem Oks.nil (W : World) : Oks [] W := fun e he => by cases he
theorem Mem.oks (h : Mem w0 W (Gs H Fs)) (j : Nat) (hj : Fs[j]? = some F := by exact rfl) : Oks F W :=
  fun e he => (h.ok e (List.mem_append_right _ (List.mem_flatten.2 ⟨F, List.mem_of_getElem? hj, he⟩))).1

def pickG {α : Type} (l : List α) : List Nat → Option (List α)
  | [] => some []
  | i :: r => match l[i]? with
    | some e => match pickG l r with
      | some M => some (e :: M)
      | none => none
    | none => none

theorem pickG_mem {α : Type} {l : List α} : ∀ {is : List Nat} {M : List α}, pickG l is = some M → ∀ e ∈ M, ∃ i ∈ is, l[i]? = some e
  | [], M, h, e, he => by unfold pickG at h; injection h with h; subst h; cases he
  | i :: r, M, h, e, he => by
    unfold pickG at h
    split at h
    · rename_i x hx
      split at h
      · rename_i M1 hM
        injection h with h; subst h
        rcases List.mem_cons.1 he with rfl | he
        · exact ⟨i, List.mem_cons_self, hx⟩
        · obtain ⟨j, hj, hj2⟩ := pickG_mem hM e he
          exact ⟨j, List.mem_cons_of_mem _ hj, hj2⟩
      · cases h
    · cases h

theorem pickG_pairwise {α : Type} {S : α → α → Prop} (sy : ∀ x y, S x y → S y x) {l : List α} (hs : l.Pairwise S) : ∀ {is : List Nat} {M : List α}, pickG l is = some M → distinct is = true → M.Pairwise S
  | [], M, h, _ => by unfold pickG at h; injection h with h; subst h; exact List.Pairwise.nil
  | i :: r, M, h, hd => by
    unfold pickG at h
    unfold distinct at hd
    cases hany : r.any (fun j => Nat.beq i j) with
    | true => rw [hany] at hd; cases hd
    | false =>
      rw [hany] at hd
      split at h
      · rename_i x hx
        split at h
        · rename_i M1 hM
          injection h with h; subst h
          refine List.Pairwise.cons ?_ (pickG_pairwise sy hs hM hd)
          intro y hy
          obtain ⟨j, hj, hj2⟩ := pickG_mem hM y hy
          have hne : i ≠ j := fun e => by
            subst e
            have : r.any (fun j => Nat.beq i j) = true := List.any_eq_true.2 ⟨i, hj, Nat.beq_refl i⟩
            rw [this] at hany; cases hany
          obtain ⟨hi1, hi2⟩ := List.getElem?_eq_some_iff.1 hx
          obtain ⟨hj1, hj3⟩ := List.getElem?_eq_some_iff.1 hj2
          rcases Nat.lt_or_gt_of_ne hne with h | h
          · have := List.pairwise_iff_getElem.1 hs i j hi1 hj1 h
            rw [hi2, hj3] at this; exact this
          · have := List.pairwise_iff_getElem.1 hs j i hj1 hi1 h
            rw [hi2, hj3] at this; exact sy _ _ this
        · cases h
      · cases h

theorem Mem.regr {its M : List (List Ent)} (h : Mem w0 W its.flatten) (l : List Nat) (hp : pickG its l = some M) (hd : distinct l = true) : Mem w0 W M.flatten := by
  have hs := List.pairwise_flatten.1 h.sep
  refine ⟨h.below, fun e he => ?_, List.pairwise_flatten.2 ⟨fun F hF => ?_, pickG_pairwise (fun x y hxy a ha b hb => (hxy b hb a ha).symm) hs.2 hp hd⟩⟩
  · obtain ⟨F, hF, he⟩ := List.mem_flatten.1 he
    obtain ⟨i, _, hi⟩ := pickG_mem hp F hF
    exact h.ok e (List.mem_flatten.2 ⟨F, List.mem_of_getElem? hi, he⟩)
  · obtain ⟨i, _, hi⟩ := pickG_mem hp F hF
    exact hs.1 F (List.mem_of_getElem? hi)

def its (H : List Ent) (Fs : List (List Ent)) : List (List Ent) := H.map (fun e => [e]) ++ Fs
theorem its_flatten (H : List Ent) (Fs : List (List Ent)) : (its H Fs).flatten = Gs H Fs := by
  unfold its Gs
  rw [List.flatten_append]
  congr 1
  induction H with
  | nil => rfl
  | cons e r ih => simp [ih]

theorem Mem.pickF {M : List (List Ent)} (h : Mem w0 W (Gs H Fs)) (l : List Nat) (hp : pickG (its H Fs) l = some M) (hd : distinct l = true) (he : M.flatten = Gs H' Fs') : Mem w0 W (Gs H' Fs') :=
  he ▸ Mem.regr (its_flatten H Fs ▸ h) l hp hd

theorem Mem.callG (h : Mem w0 W (Gs H Fs)) (h' : Mem W W' (Gs H' Fs')) : Mem w0 W' (Gs (H' ++ H) (Fs' ++ Fs)) := by
  refine (Mem.call h h').perm ?_
  unfold Gs
  rw [List.flatten_append, List.append_assoc, List.append_assoc]
  refine List.Perm.append_left H' ?_
  rw [← List.append_assoc, ← List.append_assoc]
  exact List.Perm.append_right _ List.perm_append_comm

/-! What a value stands for, in each world of which Z tells: 'Oks F': as long as a group stands; 'Kept ..': as long as what came in stands. -/
abbrev Zp := World → Prop
def andZ (Z Y : Zp) : Zp := fun W => Z W ∧ Y W
variable {Z Y : Zp}
def RdF (Z : Zp) (v : Value) (cs : List Value) : Prop := ∀ W, Z W → Rd W v cs
def CellsF (Z : Zp) (g : Nat) (cs : List Value) : Prop := ∀ W, Z W → ∀ i u, cs[i]? = some u → W.cell? ⟨g, i, none⟩ = some u
theorem RdF.up {v : Value} {cs : List Value} (h : RdF Z v cs) (hs : ∀ W, Y W → Z W) : RdF Y v cs := fun W hW => h W (hs W hW)
theorem CellsF.up {g : Nat} {cs : List Value} (h : CellsF Z g cs) (hs : ∀ W, Y W → Z W) : CellsF Y g cs := fun W hW => h W (hs W hW)
theorem RdF.of_rd {A : Option Addr} {m c : Nat} {cs : List Value} (h : Rd w (.slice A m c) cs) : RdF (Kept w) (.slice A m c) cs := fun W hW => h.kept hW

theorem Mem.freeze {H1 H2 : List Ent} {e : Ent} (h : Mem w0 W (H1 ++ e :: Gs H2 Fs)) : ∃ F, (∀ W, Oks F W → e.ok W) ∧ Mem w0 W (Gs (H1 ++ H2) (F :: Fs)) := by
  refine ⟨[e], fun W h => h e List.mem_cons_self, h.perm ?_⟩
  unfold Gs
  rw [List.flatten_cons, List.append_assoc]
  refine List.Perm.append_left H1 ?_
  rw [List.cons_append, List.nil_append]
  exact List.perm_middle.symm

abbrev Rep (α : Type) := Zp → Value → α → Prop
def rInt (k : IntKind) : Rep Int := fun _ v x => v = .int k x
def rBool : Rep Bool := fun _ v x => v = .bool x
def rNums (k : IntKind) : Rep (List Int) := fun Z v xs => ∃ A c, v = .slice A xs.length c ∧ RdF Z v (nums k xs)
def Each2 {α : Type} (R : Value → α → Prop) (cs : List Value) (xs : List α) : Prop := cs.length = xs.length ∧ ∀ (i : Nat) (u : Value) (x : α), cs[i]? = some u → xs[i]? = some x → R u x
def rRows {α : Type} (R : Rep α) : Rep (List α) := fun Z v xs => ∃ A c cs, v = .slice A xs.length c ∧ RdF Z v cs ∧ Each2 (R Z) cs xs
def rArr {α : Type} (N : Nat) (R : Rep α) : Rep (List α) := fun Z v xs => ∃ cs, v = .agg cs.toArray ∧ xs.length = N ∧ Each2 (R Z) cs xs
def rPtr {α : Type} (Rs : Zp → List Value → α → Prop) : Rep α := fun Z v x => ∃ g cs, v = .pointer (some ⟨g, 0, none⟩) ∧ CellsF Z g cs ∧ Rs Z cs x
def rOpt {α : Type} (R : Rep α) : Rep (Option α) := fun Z v x => (x = none ∧ v = .pointer none) ∨ ∃ y, x = some y ∧ R Z v y
def Up {α : Type} (R : Rep α) : Prop := ∀ (Z Y : Zp) v x, (∀ W, Y W → Z W) → R Z v x → R Y v x
theorem up_int (k : IntKind) : Up (rInt k) := fun _ _ _ _ _ h => h
theorem up_bool : Up rBool := fun _ _ _ _ _ h => h
theorem up_nums (k : IntKind) : Up (rNums k) := fun _ _ _ _ hs ⟨A, c, h1, h2⟩ => ⟨A, c, h1, h2.up hs⟩
theorem Each2.up {α : Type} {R : Rep α} (hR : Up R) {cs : List Value} {xs : List α} (h : Each2 (R Z) cs xs) (hs : ∀ W, Y W → Z W) : Each2 (R Y) cs xs := ⟨h.1, fun i u x hu hx => hR Z Y u x hs (h.2 i u x hu hx)⟩
theorem up_rows {α : Type} {R : Rep α} (hR : Up R) : Up (rRows R) := fun _ _ _ _ hs ⟨A, c, cs, h1, h2, h3⟩ => ⟨A, c, cs, h1, h2.up hs, h3.up hR hs⟩
theorem up_arr {α : Type} {N : Nat} {R : Rep α} (hR : Up R) : Up (rArr N R) := fun _ _ _ _ hs ⟨cs, h1, h2, h3⟩ => ⟨cs, h1, h2, h3.up hR hs⟩
theorem Each2.nil {α : Type} (R : Value → α → Prop) : Each2 R [] [] := ⟨rfl, fun i u x h _ => by cases h⟩
theorem Each2.cons {α : Type} {R : Value → α → Prop} {u : Value} {x : α} {cs : List Value} {xs : List α} (h : R u x) (hr : Each2 R cs xs) : Each2 R (u :: cs) (x :: xs) := by
  refine ⟨by simp [hr.1], fun i v y hv hy => ?_⟩
  cases i with
  | zero => simp at hv hy; subst hv; subst hy; exact h
  | succ i => simp at hv hy; exact hr.2 i v y hv hy
theorem Each2.append {α : Type} {R : Value → α → Prop} {cs ds : List Value} {xs ys : List α} (h : Each2 R cs xs) (hr : Each2 R ds ys) : Each2 R (cs ++ ds) (xs ++ ys) := by
  refine ⟨by simp [h.1, hr.1], fun i v y hv hy => ?_⟩
  rw [List.getElem?_append] at hv hy
  rw [h.1] at hv
  split at hv
  · rename_i hlt
    rw [if_pos hlt] at hy
    exact h.2 i v y hv hy
  · rename_i hlt
    rw [if_neg hlt] at hy
    exact hr.2 _ v y hv hy
def rdr {α : Type} (d : α) (xs : List α) (i : Int) : α := xs.getD i.toNat d
theorem Each2.at {α : Type} {R : Value → α → Prop} {cs : List Value} {xs : List α} (h : Each2 R cs xs) (d : α) {i : Int} (h0 : 0 ≤ i) (h1 : i < (xs.length : Int)) : ∃ u, cs[i.toNat]? = some u ∧ R u (rdr d xs i) := by
  have hx : i.toNat < xs.length := by omega
  have hc : i.toNat < cs.length := by rw [h.1]; exact hx
  refine ⟨cs[i.toNat], by simp [hc], h.2 i.toNat _ _ (by simp [hc]) ?_⟩
  unfold rdr
  rw [List.getD_eq_getElem?_getD, List.getElem?_eq_getElem hx]; rfl
theorem RdF.len {A : Option Addr} {m c : Nat} {cs : List Value} (h : RdF Z (.slice A m c) cs) (hW : Z W) : cs.length = m := (h W hW).1
theorem rnums_of {k : IntKind} {A : Option Addr} {n c : Nat} {xs : List Int} (h : RdF Z (.slice A n c) (nums k xs)) (hW : Z W) : rNums k Z (.slice A n c) xs := by
  have hl := h.len hW
  rw [nums_length] at hl
  subst hl
  exact ⟨A, c, rfl, h⟩
theorem up_ptr {α : Type} {Rs : Zp → List Value → α → Prop} (hR : ∀ (Z Y : Zp) cs x, (∀ W, Y W → Z W) → Rs Z cs x → Rs Y cs x) : Up (rPtr Rs) := fun Z Y _ x hs ⟨g, cs, h1, h2, h3⟩ => ⟨g, cs, h1, h2.up hs, hR Z Y cs x hs h3⟩
theorem up_opt {α : Type} {R : Rep α} (hR : Up R) : Up (rOpt R) := fun Z Y v x hs h => h.elim .inl (fun ⟨y, h1, h2⟩ => .inr ⟨y, h1, hR Z Y v y hs h2⟩)
theorem rOpt.some {α : Type} {R : Rep α} {v : Value} {x : Option α} {y : α} (h : rOpt R Z v x) (hx : x = some y) : R Z v y := by
  rcases h with ⟨e, _⟩ | ⟨z, e, h⟩
  · rw [hx] at e; cases e
  · rw [hx] at e; injection e with e; subst e; exact h
def strs (xs : List ByteArray) : List Value := xs.map .string
def rds (xs : List ByteArray) (i : Int) : ByteArray := xs.getD i.toNat ByteArray.empty
theorem strs_length (xs : List ByteArray) : (strs xs).length = xs.length := by simp [strs]
theorem strs_at {xs : List ByteArray} {i : Int} (h0 : 0 ≤ i) (h1 : i < xs.length) : (strs xs)[i.toNat]? = some (.string (rds xs i)) := by
  have : i.toNat < xs.length := by omega
  simp [strs, rds, this]
theorem all_strs (xs : List ByteArray) : (strs xs).toArray.all (·.oneCell') = true := by
  rw [Array.all_eq_true_iff_forall_mem]; intro x hx
  simp [strs] at hx
  obtain ⟨a, _, rfl⟩ := hx; rfl
theorem Mem.row_at {ty : TypeId} {cs : List Value} {A : Option Addr} {m c : Nat} (h : Mem w0 W H) (j : Nat) (hj : H[j]? = some ⟨.slice A m c, ty, 1, cs⟩) {i : Nat} {u : Value} (hu : cs[i]? = some u) :
    ∃ g, A = some ⟨g, 0, none⟩ ∧ W.cell? ⟨g, i, none⟩ = some u ∧ W.frozen? ⟨g, i, none⟩ = false ∧ i < cs.length := by
  have ho : W.ownsRow 0 ty 1 (.slice A m c) m cs := (h.ok _ (List.mem_of_getElem? hj)).1
  obtain ⟨g, c', hv, hc, hf⟩ := own_cell ho i _ hu
  injection hv with h3 h4 h5
  exact ⟨g, h3, hc, hf, (List.getElem?_eq_some_iff.1 hu).1⟩
theorem Mem.own_len {ty : TypeId} {cs : List Value} {A : Option Addr} {m c : Nat} (h : Mem w0 W H) (j : Nat) (hj : H[j]? = some ⟨.slice A m c, ty, 1, cs⟩) : cs.length = m := (h.rd j hj).1
end
end Go.Scr
