/- What a function owns, and what it left alone. -/
import Derived.Test.YtdemmfohkhpklaaGreatDoorXBase
import Derived.Below
import Derived.Maps.AppendAt
import Derived.Laws.MakeOwn
import Derived.Laws.BytesString
/- What a call owns in memory, and what it may read. -/
set_option linter.unnecessarySimpa false
set_option linter.unusedVariables false
set_option linter.unusedSimpArgs false
namespace Go.Scr
open Go.RowKit (Below)

def blk : Value → Option Nat
  | .slice (some a) _ _ => some a.block
  | .pointer (some a) => some a.block
  | _ => none

structure Ent where
  v : Value
  ty : TypeId
  sz : Nat
  cs : List Value

def fzm : Nat → Nat × Nat
  | 0 => (0, 0)
  | n + 1 => (n + 1, n + 2)
def Ent.ok (W : World) (e : Ent) : Prop :=
  match e.v with
  | .slice A n c => W.ownsRow 0 e.ty e.sz (.slice A n c) n e.cs
  | .pointer (some a) => a.off = 0 ∧ a.spot = none ∧ W.heap[a.block]? = some (.cells e.cs.toArray e.ty (fzm e.sz))
  | _ => False

theorem own_of {W W' : World} {ty sz n : Nat} {v : Value} {cs : List Value} (h : W.ownsRow 0 ty sz v n cs) (hb : ∀ g, v.ownBlock = some g → W'.heap[g]? = W.heap[g]?) : W'.ownsRow 0 ty sz v n cs := by
  obtain ⟨h1, h2⟩ := h
  refine ⟨h1, ?_⟩
  rcases h2 with h2 | ⟨g, cap, cur, rfl, h4, h5, h6⟩
  · exact .inl h2
  · exact .inr ⟨g, cap, cur, rfl, h4, (hb g rfl).trans h5, h6⟩

theorem own_lt {W : World} {ty sz n : Nat} {v : Value} {cs : List Value} (h : W.ownsRow 0 ty sz v n cs) : ∀ g, v.ownBlock = some g → g < W.heap.size := by
  intro g hg
  rcases h.2 with ⟨rfl, _⟩ | ⟨g', cap, cur, rfl, h4, h5, h6⟩
  · cases hg
  · injection hg with hg
    subst hg
    exact (Array.getElem?_eq_some_iff.1 h5).1

theorem Ent.ok_of {W W' : World} {e : Ent} (h : e.ok W) (hb : ∀ g, blk e.v = some g → W'.heap[g]? = W.heap[g]?) : e.ok W' := by
  obtain ⟨v, ty, sz, cs⟩ := e
  cases v with
  | slice A n c => exact own_of h (fun g hg => hb g (by cases A <;> simpa [blk, Value.ownBlock] using hg))
  | pointer A =>
    cases A with
    | none => exact h
    | some a =>
      obtain ⟨h1, h2, h3⟩ := h
      exact ⟨h1, h2, (hb _ rfl).trans h3⟩
  | _ => exact h

theorem Ent.lt {W : World} {e : Ent} (h : e.ok W) : ∀ g, blk e.v = some g → g < W.heap.size := by
  intro g hg
  obtain ⟨v, ty, sz, cs⟩ := e
  cases v with
  | slice A n c => exact own_lt h g (by cases A <;> simpa [blk, Value.ownBlock] using hg)
  | pointer A =>
    cases A with
    | none => cases hg
    | some a =>
      obtain ⟨h1, h2, h3⟩ := h
      injection hg with hg; subst hg
      exact (Array.getElem?_eq_some_iff.1 h3).1
  | _ => cases hg

def apart (x y : Ent) : Prop := ∀ g, blk x.v = some g → blk y.v ≠ some g

theorem apart.symm {x y : Ent} (h : apart x y) : apart y x := fun g hy hx => h g hx hy

structure Mem (w0 W : World) (H : List Ent) : Prop where
  below : Below w0.heap.size w0 W
  ok : ∀ e ∈ H, e.ok W ∧ ∀ g, blk e.v = some g → w0.heap.size ≤ g
  sep : H.Pairwise apart

theorem Mem.refl (w : World) : Mem w w [] := ⟨Below.refl _ _, by simp, List.Pairwise.nil⟩

theorem Mem.drew {w0 W : World} {H : List Ent} (h : Mem w0 W H) : Mem w0 { W with drawn := W.drawn + 1 } H :=
  ⟨h.below.drew, fun e he => ⟨Ent.ok_of (h.ok e he).1 (fun _ _ => rfl), (h.ok e he).2⟩, h.sep⟩

theorem Mem.call {w0 W W' : World} {H H' : List Ent} (h : Mem w0 W H) (h' : Mem W W' H') : Mem w0 W' (H' ++ H) := by
  have hs := h.below.size
  have hb : Below w0.heap.size w0 W' := h.below.trans (h'.below.mono hs)
  refine ⟨hb, ?_, ?_⟩
  · intro e he
    rcases List.mem_append.1 he with he | he
    · obtain ⟨h1, h2⟩ := h'.ok e he
      exact ⟨h1, fun g hg => Nat.le_trans hs (h2 g hg)⟩
    · obtain ⟨h1, h2⟩ := h.ok e he
      exact ⟨Ent.ok_of h1 (fun g hg => h'.below.block g (Ent.lt h1 g hg)), h2⟩
  · refine List.pairwise_append.2 ⟨h'.sep, h.sep, ?_⟩
    intro x hx y hy g hgx hgy
    have h1 := (h'.ok x hx).2 g hgx
    have h2 := Ent.lt (h.ok y hy).1 g hgy
    omega

theorem Mem.perm {w0 W : World} {H H' : List Ent} (h : Mem w0 W H) (hp : H.Perm H') : Mem w0 W H' :=
  ⟨h.below, fun e he => h.ok e (hp.mem_iff.2 he), (hp.pairwise_iff (fun h => apart.symm h)).1 h.sep⟩

def pick (H : List Ent) : List Nat → Option (List Ent)
  | [] => some []
  | i :: r => match H[i]? with
    | some e => match pick H r with
      | some M => some (e :: M)
      | none => none
    | none => none

def distinct : List Nat → Bool
  | [] => true
  | i :: r => bif r.any (fun j => Nat.beq i j) then false else distinct r

theorem apart_of_ne {H : List Ent} (hs : H.Pairwise apart) {i j : Nat} {x y : Ent} (hi : H[i]? = some x) (hj : H[j]? = some y) (hne : i ≠ j) : apart x y := by
  obtain ⟨hi1, hi2⟩ := List.getElem?_eq_some_iff.1 hi
  obtain ⟨hj1, hj2⟩ := List.getElem?_eq_some_iff.1 hj
  rcases Nat.lt_or_gt_of_ne hne with h | h
  · have := List.pairwise_iff_getElem.1 hs i j hi1 hj1 h
    rw [hi2, hj2] at this; exact this
  · have := List.pairwise_iff_getElem.1 hs j i hj1 hi1 h
    rw [hi2, hj2] at this; exact this.symm

theorem Mem.new {w0 W : World} {H : List Ent} (h : Mem w0 W H) (e : Ent) (cells : Array Value) (hb : blk e.v = some W.heap.size) (ho : e.ok { W with heap := W.heap.push (.cells cells e.ty) }) :
    Mem w0 { W with heap := W.heap.push (.cells cells e.ty) } (e :: H) := by
  have hs := h.below.size
  have keep : ∀ g, g < W.heap.size → (W.heap.push (.cells cells e.ty))[g]? = W.heap[g]? := fun g hg => by rw [Array.getElem?_push, if_neg (by omega)]
  refine ⟨⟨h.below.os, h.below.tape, h.below.output, by have := h.below.size; simp; omega, fun g hg => ?_⟩, ?_, ?_⟩
  · exact (keep g (Nat.lt_of_lt_of_le hg hs)).trans (h.below.block g hg)
  · intro x hx
    rcases List.mem_cons.1 hx with rfl | hx
    · exact ⟨ho, fun g hg => by rw [hb] at hg; injection hg with hg; omega⟩
    · exact ⟨Ent.ok_of (h.ok x hx).1 (fun g hg => keep g (Ent.lt (h.ok x hx).1 g hg)), (h.ok x hx).2⟩
  · refine List.Pairwise.cons ?_ h.sep
    intro y hy g hg hgy
    rw [hb] at hg; injection hg with hg
    have := Ent.lt (h.ok y hy).1 g hgy
    omega

theorem own_set {W : World} {ty sz n : Nat} {a : Addr} {m c : Nat} {cs : List Value} (h : W.ownsRow 0 ty sz (.slice (some a) m c) n cs) (i : Nat) (hi : i < cs.length) (u : Value) :
    (W.setCell ⟨a.block, i, none⟩ u).ownsRow 0 ty sz (.slice (some a) m c) n (cs.set i u) := by
  obtain ⟨h1, h2⟩ := h
  refine ⟨by simpa using h1, ?_⟩
  rcases h2 with ⟨h2, _⟩ | ⟨g, cap, cur, hv, h4, h5, h6, h7, h8, h9⟩
  · cases h2
  · refine .inr ⟨g, cap, cur.setIfInBounds i u, hv, h4, ?_, h6, h7, by simpa using h8, ?_⟩
    · injection hv with hv; injection hv with hv; subst hv
      simp [World.setCell, Array.getElem?_modify, h5]
    · rw [Array.toList_setIfInBounds, List.take_set, h9]

theorem Mem.set {w0 W : World} {e : Ent} (H1 H2 : List Ent) (h : Mem w0 W (H1 ++ e :: H2)) {g : Nat} (hb : blk e.v = some g) (i : Nat) (hi : i < e.cs.length) (u : Value) :
    Mem w0 (W.setCell ⟨g, i, none⟩ u) (H1 ++ ⟨e.v, e.ty, e.sz, e.cs.set i u⟩ :: H2) := by
  have he : e ∈ H1 ++ e :: H2 := by simp
  obtain ⟨ho, hg0⟩ := h.ok e he
  have far : ∀ k, k ≠ g → (W.setCell ⟨g, i, none⟩ u).heap[k]? = W.heap[k]? := fun k hk => Below.heap_setCell W ⟨g, i, none⟩ u k hk
  have hsep := List.pairwise_append.1 h.sep
  have hsep2 := List.pairwise_cons.1 hsep.2.1
  have other : ∀ x, x ∈ H1 ∨ x ∈ H2 → ∀ k, blk x.v = some k → k ≠ g := by
    intro x hx k hk e1
    rcases hx with hx | hx
    · exact hsep.2.2 x hx e List.mem_cons_self k hk (by rw [hb, e1])
    · exact hsep2.1 x hx k (by rw [hb, e1]) hk
  refine ⟨h.below.setCell (hg0 _ hb) u, ?_, ?_⟩
  · intro x hx
    rcases List.mem_append.1 hx with hx | hx
    · obtain ⟨h1, h2⟩ := h.ok x (List.mem_append_left _ hx)
      exact ⟨Ent.ok_of h1 (fun k hk => far k (other x (.inl hx) k hk)), h2⟩
    · rcases List.mem_cons.1 hx with rfl | hx
      · refine ⟨?_, hg0⟩
        obtain ⟨v, ty, sz, cs⟩ := e
        cases v with
        | slice A n c =>
          cases A with
          | none => cases hb
          | some b =>
            injection hb with hb; subst hb
            exact own_set ho i hi u
        | pointer A =>
          cases A with
          | none => cases hb
          | some b =>
            obtain ⟨h1, h2, h5⟩ := ho
            injection hb with hb; subst hb
            refine ⟨h1, h2, ?_⟩
            simp only at h5 ⊢
            simp [World.setCell, Array.getElem?_modify, h5]
        | _ => cases hb
      · obtain ⟨h1, h2⟩ := h.ok x (List.mem_append_right _ (List.mem_cons_of_mem _ hx))
        exact ⟨Ent.ok_of h1 (fun k hk => far k (other x (.inr hx) k hk)), h2⟩
  · refine List.pairwise_append.2 ⟨hsep.1, List.Pairwise.cons (fun y hy => hsep2.1 y hy) hsep2.2, ?_⟩
    intro x hx y hy
    rcases List.mem_cons.1 hy with rfl | hy
    · exact hsep.2.2 x hx e List.mem_cons_self
    · exact hsep.2.2 x hx y (List.mem_cons_of_mem _ hy)

def Rd (W : World) : Value → List Value → Prop
  | .slice A n c, cs => cs.length = n ∧ n ≤ c ∧ ∀ i u, cs[i]? = some u → ∃ ad, A = some ad ∧ W.cell? (ad.add i) = some u
  | _, _ => False

theorem Rd.mono {W W' : World} {v : Value} {cs : List Value} (h : Rd W v cs) (hb : Below W.heap.size W W') : Rd W' v cs := by
  cases v <;> try exact h
  case slice A n c =>
    obtain ⟨h1, h2, h3⟩ := h
    refine ⟨h1, h2, fun i u hi => ?_⟩
    obtain ⟨ad, h4, h5⟩ := h3 i u hi
    exact ⟨ad, h4, (hb.cell (World.block_lt_of_cell? W _ h5)).trans h5⟩

theorem add_zero_at (g i : Nat) : (⟨g, 0, none⟩ : Addr).add i = ⟨g, i, none⟩ := by
  unfold Addr.add; split
  · subst_vars; rfl
  · simp

theorem own_cell {W : World} {ty sz n : Nat} {v : Value} {cs : List Value} (h : W.ownsRow 0 ty sz v n cs) (i : Nat) (u : Value) (hi : cs[i]? = some u) :
    ∃ g c, v = .slice (some ⟨g, 0, none⟩) n c ∧ W.cell? ⟨g, i, none⟩ = some u ∧ W.frozen? ⟨g, i, none⟩ = false := by
  obtain ⟨h1, h2⟩ := h
  have hlt := (List.getElem?_eq_some_iff.1 hi).1
  rcases h2 with ⟨rfl, rfl⟩ | ⟨g, cap, cur, rfl, h4, h5, h6, h7, h8, h9⟩
  · rw [Nat.zero_mul] at h1; omega
  · refine ⟨g, cap, rfl, ?_, by simp [World.frozen?, h5]⟩
    rw [← h9, List.getElem?_take] at hi
    split at hi
    · simpa [World.cell?, h5] using hi
    · cases hi

theorem own_le {W : World} {ty sz n : Nat} {A : Option Addr} {m c : Nat} {cs : List Value} (h : W.ownsRow 0 ty sz (.slice A m c) n cs) : m = n ∧ n ≤ c ∧ c ≤ maxLen := by
  rcases h.2 with ⟨h2, rfl⟩ | ⟨g, cap, cur, hv, h4, h5, h6, h7, h8, h9⟩
  · injection h2 with h3 h4 h5; subst h4; subst h5; exact ⟨rfl, Nat.le_refl _, Nat.zero_le _⟩
  · injection hv with h3 h4 h5; subst h4; subst h5; exact ⟨rfl, h6, h7⟩

theorem Ent.rd {W : World} {A : Option Addr} {n c ty : Nat} {cs : List Value} (h : (Ent.mk (.slice A n c) ty 1 cs).ok W) : Rd W (.slice A n c) cs := by
  have h' : W.ownsRow 0 ty 1 (.slice A n c) n cs := h
  refine ⟨by have := h'.1; omega, (own_le h').2.1, fun i u hi => ?_⟩
  obtain ⟨g, c', hv, hc, _⟩ := own_cell h' i u hi
  injection hv with h3 h4 h5
  exact ⟨⟨g, 0, none⟩, h3, by rw [add_zero_at]; exact hc⟩

theorem Mem.rd {w0 W : World} {H : List Ent} (h : Mem w0 W H) (i : Nat) {A : Option Addr} {n c : Nat} {ty : TypeId} {cs : List Value} (hi : H[i]? = some ⟨.slice A n c, ty, 1, cs⟩) : Rd W (.slice A n c) cs :=
  Ent.rd (h.ok _ (List.mem_of_getElem? hi)).1

def nums (k : IntKind) (xs : List Int) : List Value := xs.map (.int k)
def bools (xs : List Bool) : List Value := xs.map .bool
theorem nums_length (k : IntKind) (xs : List Int) : (nums k xs).length = xs.length := by simp [nums]
theorem nums_set (k : IntKind) (xs : List Int) (i : Nat) (x : Int) : (nums k xs).set i (.int k x) = nums k (xs.set i x) := by simp [nums, List.map_set]
theorem nums_append (k : IntKind) (xs ys : List Int) : nums k xs ++ nums k ys = nums k (xs ++ ys) := by simp [nums]
theorem bools_length (xs : List Bool) : (bools xs).length = xs.length := by simp [bools]
theorem bools_set (xs : List Bool) (i : Nat) (x : Bool) : (bools xs).set i (.bool x) = bools (xs.set i x) := by simp [bools, List.map_set]

def rd (xs : List Int) (i : Int) : Int := xs.getD i.toNat 0
def rdb (xs : List Bool) (i : Int) : Bool := xs.getD i.toNat false

theorem nums_at {k : IntKind} {xs : List Int} {i : Int} (h0 : 0 ≤ i) (h1 : i < xs.length) : (nums k xs)[i.toNat]? = some (.int k (rd xs i)) := by
  have : i.toNat < xs.length := by omega
  simp [nums, rd, this]
theorem bools_at {xs : List Bool} {i : Int} (h0 : 0 ≤ i) (h1 : i < xs.length) : (bools xs)[i.toNat]? = some (.bool (rdb xs i)) := by
  have : i.toNat < xs.length := by omega
  simp [bools, rdb, this]

end Go.Scr
