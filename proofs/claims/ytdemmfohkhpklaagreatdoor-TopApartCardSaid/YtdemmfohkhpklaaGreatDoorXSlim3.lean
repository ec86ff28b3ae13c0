/- Laws of single steps, short. -/
import Derived.Test.YtdemmfohkhpklaaGreatDoorXSlim2
/- The laws told shortly: regions whose order is open. -/
set_option linter.unnecessarySimpa false
set_option linter.unusedVariables false
set_option linter.unusedSimpArgs false
namespace Go.Scr
open Go.RowKit (Below)
variable {D : List Deferred}
section
variable {P : Program} {R : Ending → World → Prop} {f : FuncId} {k : List Item} {n : Nat} {S : Sta} {ops : Array Oper} {w w' w0 W W' : World} {H H' E : List Ent} {Fs Fs' : List (List Ent)} {T : Value → World → Prop} {js js' : List Nat} {Z : List Nat × Env}
variable {A : Option Addr} {m c : Nat} {i : Int} {p : Addr} {u v : Value} {ty : TypeId} {cs : List Value}

def vals (H : List Ent) (js : List Nat) : List Value := js.filterMap fun j => (H[j]?).map (·.v)
theorem mem_vals {v : Value} : v ∈ vals H js ↔ ∃ j ∈ js, ∃ e, H[j]? = some e ∧ e.v = v := by
  unfold vals
  rw [List.mem_filterMap]
  constructor
  · rintro ⟨j, hj, h⟩
    cases he : H[j]? with
    | none => rw [he] at h; cases h
    | some e => rw [he] at h; injection h with h; exact ⟨j, hj, e, he, h⟩
  · rintro ⟨j, hj, e, he, rfl⟩
    exact ⟨j, hj, by rw [he]; rfl⟩
structure RunA (P : Program) (R : Ending → World → Prop) (f : FuncId) (k : List Item) (n : Nat) (ops : Array Oper) (H : List Ent) (js : List Nat) (Z : List Nat × Env) (w : World) (D : List Deferred := []) : Prop where
  o : RunAny P R f k n ops (Still w (vals H js)) (ops.size - Z.1.length) Z.1 Z.2 w D
structure StpA (P : Program) (R : Ending → World → Prop) (f : FuncId) (k : List Item) (n : Nat) (ops : Array Oper) (H : List Ent) (js : List Nat) (Z : List Nat × Env) (w : World) (i : Nat) (D : List Deferred := []) : Prop where
  o : Stepped P R f k n ops (Still w (vals H js)) (ops.size - (Z.1.length + 1)) Z.1 Z.2 w i D
def dA (ops : Array Oper) (i : Nat) : Option Nat := match ops[i]? with | some o => o.dst | none => none
def afA (ops : Array Oper) (i : Nat) (Z : List Nat × Env) (v : Value) : List Nat × Env := (Z.1 ++ [i], upd Z.2 (dA ops i) v)
theorem RunS.dr (js : List Nat) (hM : Mem w0 w (Gs H Fs)) (r : ∀ W, Mem w0 W (Gs H Fs) → RunA P R f (rest1 S.1) n (opsOf S.1) H js ([], S.2) W D) (h : (isDraw S.1, P.follows .mixedOrders) = (true, true) := by kernel_rfl) : RunS P R f n S w D := by
  injection h with h1 h2
  exact ⟨RunF.draw (Still { w with drawn := w.drawn + 1 } (vals H js)) h1 h2 (r _ hM.drew).o⟩
theorem fuel_ok (h : Nat.blt Z.1.length ops.size = true) : ops.size - Z.1.length = (ops.size - (Z.1.length + 1)) + 1 := by
  have : Z.1.length < ops.size := Nat.le_of_ble_eq_true h
  omega
theorem RunA.kn (s : Nat) {t b : Bool} (ht : t = b) (r : RunA P R f k n ops H js (Z.1, known Z.2 s b) w D) (h : lk Z.2 s = some (.bool t) := by kernel_rfl) : RunA P R f k n ops H js Z w D := ⟨RunAny.know s h ht r.o⟩
/- Those that may be taken first. -/
def okA (ops : Array Oper) (cf : Option (List Nat × Nat)) (Z : List Nat × Env) (i : Nat) : Bool :=
  bif Nat.blt Z.1.length ops.size then (match cf with | none => side ops Z.1 i | some (cert, fr) => stepC cert fr Z.1 i) else false
def Cert (ops : Array Oper) : Option (List Nat × Nat) → Prop
  | none => True
  | some (cert, fr) => certB ops cert fr = true
theorem okA_spec {cf : Option (List Nat × Nat)} (hC : Cert ops cf) {i : Nat} (h : okA ops cf Z i = true) : side ops Z.1 i = true ∧ Nat.blt Z.1.length ops.size = true := by
  unfold okA at h
  cases hb : Nat.blt Z.1.length ops.size with
  | false => rw [hb] at h; cases h
  | true =>
    rw [hb, cond_true] at h
    cases cf with
    | none => exact ⟨h, rfl⟩
    | some x => exact ⟨side_of_cert hC h, rfl⟩
def obsA (P : Program) (n : Nat) (ops : Array Oper) (cf : Option (List Nat × Nat)) (Z : List Nat × Env) (i : Nat) (w : World) : Option (Value × World) :=
  bif okA ops cf Z i then
    match ops[i]? with
    | some o => bif dstOk n o.dst then (match wants ops Z.2 o with
      | some true => bif okOp Z.2 o then (match (execOp (ev Z.2) o).run P w with
        | .ok (.value v) w' => some (v, w')
        | _ => none) else none
      | some false => some (undef, w)
      | none => none) else none
    | none => none
  else none
def valA (P : Program) (ops : Array Oper) (Z : List Nat × Env) (i : Nat) : Value :=
  match ops[i]? with
  | some o => match wants ops Z.2 o with
    | some true => match (execOp (ev Z.2) o).run P default with
      | .ok (.value v) _ => v
      | _ => undef
    | _ => undef
  | none => undef
def psZ (P : Program) (ops : Array Oper) : List Nat → List Nat × Env → List Nat × Env
  | [], Z => Z
  | i :: is, Z => psZ P ops is (afA ops i Z (valA P ops Z i))
def psO (P : Program) (n : Nat) (ops : Array Oper) (cf : Option (List Nat × Nat)) : List Nat → List Nat × Env → World → List (Option (Value × World))
  | [], _, _ => []
  | i :: is, Z, w => obsA P n ops cf Z i w :: psO P n ops cf is (afA ops i Z (valA P ops Z i)) w
def psE (P : Program) (ops : Array Oper) : List Nat → List Nat × Env → World → List (Option (Value × World))
  | [], _, _ => []
  | i :: is, Z, w => some (valA P ops Z i, w) :: psE P ops is (afA ops i Z (valA P ops Z i)) w
theorem RunA.ps' {cf : Option (List Nat × Nat)} (hC : Cert ops cf) : ∀ (is : List Nat) (Z : List Nat × Env), (∀ w, psO P n ops cf is Z w = psE P ops is Z w) → RunA P R f k n ops H js (psZ P ops is Z) w D → RunA P R f k n ops H js Z w D
  | [], Z, _, r => r
  | i :: is, Z, h, r => by
    have r1 : RunA P R f k n ops H js (afA ops i Z (valA P ops Z i)) w D := RunA.ps' hC is _ (fun w => by have := h w; unfold psO psE at this; injection this) r
    have h1 : ∀ w, obsA P n ops cf Z i w = some (valA P ops Z i, w) := fun w => by have := h w; unfold psO psE at this; injection this
    have h0 := h1 default
    unfold obsA at h0
    cases hok : okA ops cf Z i with
    | false => rw [hok] at h0; cases h0
    | true =>
      obtain ⟨hs, hb⟩ := okA_spec hC hok
      rw [hok, cond_true] at h0
      refine ⟨?_⟩; rw [fuel_ok hb]
      split at h0
      · rename_i o ho
        have hd1 : dA ops i = o.dst := by unfold dA; rw [ho]
        cases hdo : dstOk n o.dst with
        | false => rw [hdo] at h0; cases h0
        | true =>
          rw [hdo, cond_true] at h0
          have r2 : ∀ L', upd Z.2 (dA ops i) (valA P ops Z i) = L' → RunAny P R f k n ops (Still w (vals H js)) (ops.size - (Z.1.length + 1)) (Z.1 ++ [i]) L' w D := by
            intro L' e; subst e
            have : RunAny P R f k n ops (Still w (vals H js)) (ops.size - (Z.1 ++ [i]).length) (Z.1 ++ [i]) (upd Z.2 (dA ops i) (valA P ops Z i)) w D := r1.o
            rwa [List.length_append, List.length_singleton] at this
          split at h0
          · rename_i hw
            cases hk : okOp Z.2 o with
            | false => rw [hk] at h0; cases h0
            | true =>
              refine RunAny.y (k2 := [.inRegion ops []]) i (d := o.dst) (v := valA P ops Z i) (S' := fun _ => True) hs ⟨o, by simp [cur, Scr.one, ho, hdo, hw, hk], rfl, fun w _ => ?_⟩ (fun _ _ => trivial) (Still.refl w _) (r2 _ (by rw [hd1]))
              have h2 := h1 w
              unfold obsA at h2
              rw [hok, cond_true] at h2
              simp only [ho, hdo, cond_true, hw, hk] at h2
              split at h2
              · rename_i v w' hx
                injection h2 with h2; injection h2 with h3 h4; subst h4
                rw [hx, h3]
              · cases h2
          · rename_i hw
            injection h0 with h0; injection h0 with h0 _
            refine RunAny.off i (d := o.dst) hs (by simp [ho, hdo, hw]) (Still.refl w _) (r2 _ (by rw [hd1, ← h0]))
          · cases h0
      · cases h0
theorem RunA.y {cf : Option (List Nat × Nat)} (hC : Cert ops cf) (i : Nat) {Zp : World → Prop} (hy : Yl P n (one ops i) Z.2 Zp (dA ops i) v [.inRegion ops []]) (hZ : ∀ w', Still w (vals H js) w' → Zp w') (r : RunA P R f k n ops H js (afA ops i Z v) w D) (h : okA ops cf Z i = true := by kernel_rfl) : RunA P R f k n ops H js Z w D := by
  obtain ⟨hs, hb⟩ := okA_spec hC h
  refine ⟨?_⟩; rw [fuel_ok hb]
  refine RunAny.y i hs hy hZ (Still.refl w _) ?_
  have : RunAny P R f k n ops (Still w (vals H js)) (ops.size - (Z.1 ++ [i]).length) (Z.1 ++ [i]) (upd Z.2 (dA ops i) v) w D := r.o
  rwa [List.length_append, List.length_singleton] at this
theorem RunA.yt {cf : Option (List Nat × Nat)} (hC : Cert ops cf) (i : Nat) (hy : Yl P n (one ops i) Z.2 (fun _ => True) (dA ops i) v [.inRegion ops []]) (r : RunA P R f k n ops H js (afA ops i Z v) w D) (h : okA ops cf Z i = true := by kernel_rfl) : RunA P R f k n ops H js Z w D := RunA.y hC i hy (fun _ _ => trivial) r h
theorem RunA.ix {cf : Option (List Nat × Nat)} (hC : Cert ops cf) (q : Nat) (C : Cel W A m i p u) (r : RunA P R f k n ops H js (afA ops q Z (.pointer (some p))) w D) (h : (idxAt P n (one ops q) Z.2, okA ops cf Z q) = (some (dA ops q, A, m, i, [.inRegion ops []]), true) := by kernel_rfl) : RunA P R f k n ops H js Z w D := by
  injection h with h1 h2
  exact RunA.y hC q (yl_ix C h1) (fun _ _ => trivial) r h2
theorem RunA.ia {cf : Option (List Nat × Nat)} {g N : Nat} (hC : Cert ops cf) (q : Nat) (C : Cel W (some ⟨g, 0, none⟩) N i p u) (r : RunA P R f k n ops H js (afA ops q Z (.pointer (some p))) w D) (h : (idxArr P n (one ops q) Z.2, okA ops cf Z q) = (some (dA ops q, ⟨g, 0, none⟩, N, 1, i, [.inRegion ops []]), true) := by kernel_rfl) : RunA P R f k n ops H js Z w D := by
  injection h with h1 h2
  exact RunA.y hC q (yl_ia C h1) (fun _ _ => trivial) r h2
theorem RunA.lz {cf : Option (List Nat × Nat)} (hC : Cert ops cf) (q : Nat) (hc : ∀ w', Still w (vals H js) w' → w'.cell? p = some u) (r : RunA P R f k n ops H js (afA ops q Z u) w D) (h : (ldAt P n (one ops q) Z.2, okA ops cf Z q) = (some (dA ops q, p, [.inRegion ops []]), true) := by kernel_rfl) : RunA P R f k n ops H js Z w D := by
  injection h with h1 h2
  exact RunA.y hC q (ld_y u h1) hc r h2
theorem Cel.rd (C : Cel W A m i p u) {cs' : List Value} (h : Rd W (.slice A m c) cs') : cs'[i.toNat]? = some u := by
  obtain ⟨h0, h1, ⟨a, ha, rfl⟩, hc⟩ := C
  obtain ⟨hl, _, h4⟩ := h
  have hi : i.toNat < cs'.length := by omega
  obtain ⟨a', ha', hc'⟩ := h4 _ _ (List.getElem?_eq_getElem hi)
  rw [ha] at ha'; injection ha' with ha'; subst ha'
  rw [hc] at hc'; rw [List.getElem?_eq_getElem hi]; exact hc'.symm
theorem Mem.ni (hM : Mem w0 w (Gs H Fs)) (j : Nat) {e : Ent} (hj : H[j]? = some e) (hn : js.contains j = false) {b : Nat} (hb : blk e.v = some b) : ∀ v ∈ vals H js, blk v ≠ some b := by
  intro v hv
  obtain ⟨j', hj', e', he', rfl⟩ := mem_vals.1 hv
  refine apart_of_ne hM.sep (gs_at hj) (gs_at he') (fun x => ?_) b hb
  subst x
  rw [List.contains_iff_mem.2 hj'] at hn; cases hn
theorem Mem.rs (hM : Mem w0 w (Gs H Fs)) (hs : Still w (vals H js) w') (j : Nat) (hj : H[j]? = some ⟨.slice A m c, ty, 1, cs⟩) (hn : js.contains j = false := by rfl) : Rd w' (.slice A m c) cs := by
  have hok := (hM.ok _ (List.mem_of_getElem? (gs_at (Fs := Fs) hj))).1
  exact Ent.rd (Ent.ok_of hok (fun g hg => hs.2 g (Ent.lt hok g hg) (hM.ni j hj hn hg)))
theorem Mem.bks (hM : Mem w0 w (Gs H Fs)) (hs : Still w (vals H js) w') (j : Nat) {g : Nat} (hj : H[j]? = some ⟨.pointer (some ⟨g, 0, none⟩), ty, 0, cs⟩) (hn : js.contains j = false := by rfl) : w'.heap[g]? = some (.cells cs.toArray ty (0, 0)) := hs.block (hM.block j (gs_at hj)) (hM.ni j hj hn rfl)
theorem Mem.vs (hM : Mem w0 w (Gs H Fs)) (hs : Still w (vals H js) w') (j : Nat) {g : Nat} (hj : H[j]? = some ⟨.pointer (some ⟨g, 0, none⟩), ty, 0, cs⟩) (q : Nat) (hu : cs[q]? = some u) (hn : js.contains j = false := by rfl) : w'.cell? ⟨g, q, none⟩ = some u := hs.cell (hM.var_at j (gs_at hj) hu).1 (hM.ni j hj hn rfl)
theorem among_vals : Among (Gs H Fs) (vals H js) := fun v hv => by
  obtain ⟨j, _, e, he, h⟩ := mem_vals.1 hv
  exact ⟨j, e, gs_at he, h⟩
theorem Mem.ks (hM : Mem w0 w (Gs H Fs)) (hs : Still w (vals H js) w') : Kept w0 w' := hM.keptStill among_vals hs

/- Those that act. -/
structure Aft (P : Program) (R : Ending → World → Prop) (f : FuncId) (k : List Item) (n : Nat) (ops : Array Oper) (H : List Ent) (js : List Nat) (Z : List Nat × Env) (w w' : World) (D : List Deferred := []) : Prop where
  s : Still w (vals H js) w'
  o : RunAny P R f k n ops (Still w (vals H js)) (ops.size - Z.1.length) Z.1 Z.2 w' D
theorem Aft.of (hS : Still w (vals H js) w') (hJ : ∀ x ∈ vals H' js', ∀ b, blk x = some b → (∃ u, u ∈ vals H js ∧ blk u = some b) ∨ w.heap.size ≤ b) (r : RunA P R f k n ops H' js' Z w' D) : Aft P R f k n ops H js Z w w' D := ⟨hS, RunAny.rebase3 hS hJ r.o⟩
theorem StpA.dv (i : Nat) (hD : Does P n (one ops i) Z.2 w (dA ops i) v w' [.inRegion ops []]) (r : Aft P R f k n ops H js (afA ops i Z v) w w' D) : StpA P R f k n ops H js Z w i D := by
  refine ⟨Stepped.does i hD r.1 ?_⟩
  have := r.2
  unfold afA at this
  simpa only [List.length_append, List.length_singleton] using this
theorem StpA.du (i : Nat) (hd : dA ops i = none) (hD : DoesU P n (one ops i) Z.2 w none w' [.inRegion ops []]) (r : Aft P R f k n ops H js (afA ops i Z undef) w w' D) : StpA P R f k n ops H js Z w i D := by
  refine ⟨Stepped.doesU i hD r.1 ?_⟩
  have := r.2
  unfold afA at this
  simpa only [List.length_append, List.length_singleton, hd] using this
theorem StpA.ca {i : Nat} {g : FuncId} {args : Array Value} (hc : Calls P g args w (Ret T)) (r : ∀ v w', T v w' → Aft P R f k n ops H js (afA ops i Z v) w w' D) (h : callAt P n (one ops i) Z.2 w = some (dA ops i, g, args, [.inRegion ops []], w) := by kernel_rfl) : StpA P R f k n ops H js Z w i D := by
  refine ⟨Stepped.call i h hc (fun v w' hT => (r v w' hT).1) (fun v w' hT => ?_)⟩
  have := (r v w' hT).2
  unfold afA at this
  simpa only [List.length_append, List.length_singleton] using this
def okJ (l : Nat) (js js' : List Nat) : Bool := js'.all fun j => Nat.blt j l || js.contains (j - l)
theorem okJ_app (h : okJ E.length js js' = true) (hE : ∀ e ∈ E, ∀ b, blk e.v = some b → w.heap.size ≤ b) : ∀ x ∈ vals (E ++ H) js', ∀ b, blk x = some b → (∃ u, u ∈ vals H js ∧ blk u = some b) ∨ w.heap.size ≤ b := by
  intro x hx b hb
  obtain ⟨j, hj, e, he, rfl⟩ := mem_vals.1 hx
  have := List.all_eq_true.1 h j hj
  rw [Bool.or_eq_true] at this
  by_cases hl : j < E.length
  · rw [List.getElem?_append_left hl] at he
    exact .inr (hE e (List.mem_of_getElem? he) b hb)
  · rw [List.getElem?_append_right (by omega)] at he
    rcases this with h1 | h1
    · exact absurd (Nat.le_of_ble_eq_true h1) (by omega)
    · exact .inl ⟨e.v, mem_vals.2 ⟨_, List.contains_iff_mem.1 h1, e, he, rfl⟩, hb⟩
theorem Aft.ca (hM_ : Mem w w' (Gs E Fs')) (js' : List Nat) (r : RunA P R f k n ops (E ++ H) js' Z w' D) (h : okJ E.length js js' = true := by rfl) : Aft P R f k n ops H js Z w w' D :=
  Aft.of ((Still.refl w _).below hM_.below) (okJ_app h fun e he b hb => (hM_.ok e (List.mem_append_left _ he)).2 b hb) r
theorem StpA.new {i : Nat} (ty sz m : Nat) (cs : List Value) (hM : Mem w0 w (Gs H Fs)) (js' : List Nat) (r : ∀ g W1, Mem w0 W1 (Gs (⟨.slice (some ⟨g, 0, none⟩) m m, ty, sz, cs⟩ :: H) Fs) → RunA P R f k n ops (⟨.slice (some ⟨g, 0, none⟩) m m, ty, sz, cs⟩ :: H) js' (afA ops i Z (.slice (some ⟨g, 0, none⟩) m m)) W1 D)
    (hn : cs.length = m * sz := by simp [nums, bools, strs, ones]) (hj : okJ 1 js js' = true := by rfl) (h : (doesAt P n (one ops i) Z.2 w, Nat.ble m 1000000) = (some (dA ops i, .slice (some ⟨w.heap.size, 0, none⟩) m m, { w with heap := w.heap.push (.cells cs.toArray ty) }, [.inRegion ops []]), true) := by kernel_rfl) : StpA P R f k n ops H js Z w i D := by
  injection h with h h2
  have hM' := hM.newRow ty sz m cs hn (Nat.le_trans (Nat.le_of_ble_eq_true h2) (by decide))
  refine StpA.dv i (does_of h) (Aft.of ((Still.refl w _).below (below_push w _)) (okJ_app (E := [_]) hj ?_) (r _ _ hM'))
  intro e he b hb
  rw [List.mem_singleton] at he; subst he
  injection hb with hb; exact Nat.le_of_eq hb
theorem StpA.nw {i : Nat} (ty : Nat) (cs : List Value) (hM : Mem w0 w (Gs H Fs)) (js' : List Nat) (r : ∀ g W1, Mem w0 W1 (Gs (⟨.pointer (some ⟨g, 0, none⟩), ty, 0, cs⟩ :: H) Fs) → RunA P R f k n ops (⟨.pointer (some ⟨g, 0, none⟩), ty, 0, cs⟩ :: H) js' (afA ops i Z (.pointer (some ⟨g, 0, none⟩))) W1 D)
    (hj : okJ 1 js js' = true := by rfl) (h : doesAt P n (one ops i) Z.2 w = some (dA ops i, .pointer (some ⟨w.heap.size, 0, none⟩), { w with heap := w.heap.push (.cells cs.toArray ty) }, [.inRegion ops []]) := by kernel_rfl) : StpA P R f k n ops H js Z w i D := by
  have hM' := hM.newVar ty cs
  refine StpA.dv i (does_of h) (Aft.of ((Still.refl w _).below (below_push w _)) (okJ_app (E := [_]) hj ?_) (r _ _ hM'))
  intro e he b hb
  rw [List.mem_singleton] at he; subst he
  injection hb with hb; exact Nat.le_of_eq hb
theorem StpA.mn {i : Nat} (e : TypeId) (kd : IntKind) (l c : Int) (hM : Mem w0 w (Gs H Fs)) (js' : List Nat) (r : ∀ g W1, Mem w0 W1 (Gs (⟨.slice (some ⟨g, 0, none⟩) l.toNat c.toNat, e, 1, nums kd (List.replicate l.toNat 0)⟩ :: H) Fs) → RunA P R f k n ops (⟨.slice (some ⟨g, 0, none⟩) l.toNat c.toNat, e, 1, nums kd (List.replicate l.toNat 0)⟩ :: H) js' (afA ops i Z (.slice (some ⟨g, 0, none⟩) l.toNat c.toNat)) W1 D)
    (h0 : 0 ≤ l := by omega) (h1 : l ≤ c := by omega) (h2 : c ≤ 1099511627776 := by omega) (hj : okJ 1 js js' = true := by rfl) (h : mkAt P n (one ops i) Z.2 = some (dA ops i, e, .int kd 0, l, c, [.inRegion ops []]) := by kernel_rfl) : StpA P R f k n ops H js Z w i D := by
  obtain ⟨g, W1, hD, hM', hB, hg⟩ := do_mk hM h0 h1 h2 h
  rw [rep_nums] at hM'
  refine StpA.dv i hD (Aft.of ((Still.refl w _).below hB) (okJ_app (E := [_]) hj ?_) (r _ _ hM'))
  intro e he b hb
  rw [List.mem_singleton] at he; subst he
  injection hb with hb; subst hb; exact hg
theorem StpA.lc {i : Nat} (hc : w.cell? p = some u) (r : RunA P R f k n ops H js (afA ops i Z u) w D) (h : ldAt P n (one ops i) Z.2 = some (dA ops i, p, [.inRegion ops []]) := by kernel_rfl) : StpA P R f k n ops H js Z w i D :=
  StpA.dv i ((ld_y u h).does hc) (Aft.of (Still.refl w _) (fun x hx b hb => .inl ⟨x, hx, hb⟩) r)
theorem vals_set {j : Nat} {e e' : Ent} (hj : H[j]? = some e) (hv : e'.v = e.v) : ∀ x ∈ vals (H.set j e') js, ∀ b, blk x = some b → (∃ u, u ∈ vals H js ∧ blk u = some b) ∨ w.heap.size ≤ b := by
  intro x hx b hb
  obtain ⟨j', hj', y, hy, rfl⟩ := mem_vals.1 hx
  refine .inl ⟨y.v, mem_vals.2 ⟨j', hj', ?_⟩, hb⟩
  by_cases h : j = j'
  · subst h
    rw [List.getElem?_set_self (List.getElem?_eq_some_iff.1 hj).1] at hy
    injection hy with hy; subst hy
    exact ⟨e, hj, hv.symm⟩
  · rw [List.getElem?_set_ne h] at hy
    exact ⟨y, hy, rfl⟩
theorem dA_st {i : Nat} {L : Env} {k2 : List Item} {v : Value} (h : stAt P n (one ops i) L = some (p, v, k2)) : dA ops i = none := by
  obtain ⟨o, h1, h2⟩ := st_dst h
  obtain ⟨h3, _⟩ := cur_one h1
  unfold dA; rw [h3]; exact h2
theorem StpA.sn {q : Nat} {kd : IntKind} {xs : List Int} (x : Int) (C : Cel W A m i p u) (hM : Mem w0 w (Gs H Fs)) (j : Nat) (hj : H[j]? = some ⟨.slice A m c, ty, 1, nums kd xs⟩)
    (r : ∀ W', Mem w0 W' (Gs (H.set j ⟨.slice A m c, ty, 1, nums kd (xs.set i.toNat x)⟩) Fs) → RunA P R f k n ops (H.set j ⟨.slice A m c, ty, 1, nums kd (xs.set i.toNat x)⟩) js (afA ops q Z undef) W' D) (h : (stAt P n (one ops q) Z.2, js.contains j) = (some (p, .int kd x, [.inRegion ops []]), true) := by kernel_rfl) : StpA P R f k n ops H js Z w q D := by
  injection h with h hc
  obtain ⟨W', hD, hM', hS⟩ := do_st C hM j hj h
  rw [nums_set] at hM'
  exact StpA.du q (dA_st h) hD (Aft.of (hS _ (mem_vals.2 ⟨j, List.contains_iff_mem.1 hc, _, hj, rfl⟩)) (by exact vals_set hj rfl) (r W' hM'))
theorem StpA.so {q : Nat} {xs : List SlV} (x : SlV) (C : Cel W A m i p u) (hM : Mem w0 w (Gs H Fs)) (j : Nat) (hj : H[j]? = some ⟨.slice A m c, ty, 1, ones xs⟩)
    (r : ∀ W', Mem w0 W' (Gs (H.set j ⟨.slice A m c, ty, 1, ones (xs.set i.toNat x)⟩) Fs) → RunA P R f k n ops (H.set j ⟨.slice A m c, ty, 1, ones (xs.set i.toNat x)⟩) js (afA ops q Z undef) W' D) (h : (stAt P n (one ops q) Z.2, js.contains j) = (some (p, sv x, [.inRegion ops []]), true) := by kernel_rfl) : StpA P R f k n ops H js Z w q D := by
  injection h with h hc
  obtain ⟨W', hD, hM', hS⟩ := do_st C hM j hj h
  rw [ones_set] at hM'
  exact StpA.du q (dA_st h) hD (Aft.of (hS _ (mem_vals.2 ⟨j, List.contains_iff_mem.1 hc, _, hj, rfl⟩)) (by exact vals_set hj rfl) (r W' hM'))
theorem StpA.vn {q : Nat} {kd : IntKind} {xs : List Int} {g N : Nat} (x : Int) (C : Cel W (some ⟨g, 0, none⟩) N i p u) (hM : Mem w0 w (Gs H Fs)) (j : Nat) (hj : H[j]? = some ⟨.pointer (some ⟨g, 0, none⟩), ty, 0, nums kd xs⟩) (hN : xs.length = N)
    (r : ∀ W', Mem w0 W' (Gs (H.set j ⟨.pointer (some ⟨g, 0, none⟩), ty, 0, nums kd (xs.set i.toNat x)⟩) Fs) → RunA P R f k n ops (H.set j ⟨.pointer (some ⟨g, 0, none⟩), ty, 0, nums kd (xs.set i.toNat x)⟩) js (afA ops q Z undef) W' D) (h : (stAt P n (one ops q) Z.2, js.contains j) = (some (p, .int kd x, [.inRegion ops []]), true) := by kernel_rfl) : StpA P R f k n ops H js Z w q D := by
  injection h with h hc
  obtain ⟨rfl, hi⟩ := vp_of C
  obtain ⟨W', hD, hM', hS⟩ := do_sv hM j hj (by rw [nums_length]; omega) h
  rw [nums_set] at hM'
  exact StpA.du q (dA_st h) hD (Aft.of (hS _ (mem_vals.2 ⟨j, List.contains_iff_mem.1 hc, _, hj, rfl⟩)) (by exact vals_set hj rfl) (r W' hM'))
theorem StpA.vf {q : Nat} {g : Nat} (o : Nat) (v : Value) (hM : Mem w0 w (Gs H Fs)) (j : Nat) (hj : H[j]? = some ⟨.pointer (some ⟨g, 0, none⟩), ty, 0, cs⟩)
    (r : ∀ W', Mem w0 W' (Gs (H.set j ⟨.pointer (some ⟨g, 0, none⟩), ty, 0, cs.set o v⟩) Fs) → RunA P R f k n ops (H.set j ⟨.pointer (some ⟨g, 0, none⟩), ty, 0, cs.set o v⟩) js (afA ops q Z undef) W' D) (h : (stAt P n (one ops q) Z.2, js.contains j, Nat.blt o cs.length) = (some (⟨g, o, none⟩, v, [.inRegion ops []]), true, true) := by kernel_rfl) : StpA P R f k n ops H js Z w q D := by
  injection h with h hc; injection hc with hc h2
  obtain ⟨W', hD, hM', hS⟩ := do_sv hM j hj (Nat.le_of_ble_eq_true h2) h
  exact StpA.du q (dA_st h) hD (Aft.of (hS _ (mem_vals.2 ⟨j, List.contains_iff_mem.1 hc, _, hj, rfl⟩)) (by exact vals_set hj rfl) (r W' hM'))
theorem StpA.sw {q : Nat} {g N : Nat} {new : List Value} (hM : Mem w0 w (Gs H Fs)) (j : Nat) (hj : H[j]? = some ⟨.pointer (some ⟨g, 0, none⟩), ty, 0, cs⟩) (hl : cs.length = N) (hn : new.length = N) (h1 : new.toArray.all (·.oneCell') = true)
    (r : ∀ W', Mem w0 W' (Gs (H.set j ⟨.pointer (some ⟨g, 0, none⟩), ty, 0, new⟩) Fs) → RunA P R f k n ops (H.set j ⟨.pointer (some ⟨g, 0, none⟩), ty, 0, new⟩) js (afA ops q Z undef) W' D) (h : (stvAt P n (one ops q) Z.2 N, js.contains j, dA ops q) = (some (g, new.toArray, [.inRegion ops []]), true, none) := by kernel_rfl) : StpA P R f k n ops H js Z w q D := by
  injection h with h hc; injection hc with hc h2
  obtain ⟨W', hD, hM', hS⟩ := do_sw hM j hj hl hn h1 h
  exact StpA.du q h2 hD (Aft.of (hS _ (mem_vals.2 ⟨j, List.contains_iff_mem.1 hc, _, hj, rfl⟩)) (by exact vals_set hj rfl) (r W' hM'))
theorem StpA.sp {q : Nat} {g off : Nat} {new : List Value} (N : Nat) (vs : List Value) (hM : Mem w0 w (Gs H Fs)) (j : Nat) (hj : H[j]? = some ⟨.pointer (some ⟨g, 0, none⟩), ty, 0, cs⟩) (hN : vs.length = N) (ho : off + N ≤ cs.length) (h1 : vs.toArray.all (·.oneCell') = true) (hn : cs.take off ++ vs ++ cs.drop (off + N) = new)
    (r : ∀ W', Mem w0 W' (Gs (H.set j ⟨.pointer (some ⟨g, 0, none⟩), ty, 0, new⟩) Fs) → RunA P R f k n ops (H.set j ⟨.pointer (some ⟨g, 0, none⟩), ty, 0, new⟩) js (afA ops q Z undef) W' D) (h : (stpAt P n (one ops q) Z.2 N, js.contains j, dA ops q) = (some (g, off, vs.toArray, [.inRegion ops []]), true, none) := by kernel_rfl) : StpA P R f k n ops H js Z w q D := by
  injection h with h hc; injection hc with hc h2
  obtain ⟨W', hD, hM', hS⟩ := do_sp hM j hj hN ho h1 hn h
  exact StpA.du q h2 hD (Aft.of (hS _ (mem_vals.2 ⟨j, List.contains_iff_mem.1 hc, _, hj, rfl⟩)) (by exact vals_set hj rfl) (r W' hM'))
def okP (j : Nat) (js js' : List Nat) : Bool := js'.all fun x => Nat.beq x j || js.contains x
theorem vals_app {j : Nat} {e e' : Ent} (hj : H[j]? = some e) (h : okP j js js' = true) (hc : js.contains j = true ∨ blk e.v = none) (hb : blk e'.v = blk e.v ∨ ∀ b, blk e'.v = some b → w.heap.size ≤ b) : ∀ x ∈ vals (H.set j e') js', ∀ b, blk x = some b → (∃ u, u ∈ vals H js ∧ blk u = some b) ∨ w.heap.size ≤ b := by
  intro x hx b hxb
  obtain ⟨j', hj', y, hy, rfl⟩ := mem_vals.1 hx
  by_cases he : j = j'
  · subst he
    rw [List.getElem?_set_self (List.getElem?_eq_some_iff.1 hj).1] at hy
    injection hy with hy; subst hy
    rcases hb with hb | hb
    · rcases hc with hc | hc
      · exact .inl ⟨e.v, mem_vals.2 ⟨j, List.contains_iff_mem.1 hc, e, hj, rfl⟩, by rw [← hb]; exact hxb⟩
      · rw [hb, hc] at hxb; cases hxb
    · exact .inr (hb b hxb)
  · rw [List.getElem?_set_ne he] at hy
    have := List.all_eq_true.1 h j' hj'
    rw [Bool.or_eq_true] at this
    rcases this with h1 | h1
    · exact absurd (Nat.eq_of_beq_eq_true h1).symm he
    · exact .inl ⟨y.v, mem_vals.2 ⟨j', List.contains_iff_mem.1 h1, y, hy, rfl⟩, hxb⟩
def isNil : Option Addr → Bool
  | none => true
  | some _ => false
theorem still_app {j : Nat} (hj : H[j]? = some ⟨.slice A m c, ty, 1, cs⟩) (hc : (js.contains j || isNil A) = true) (h : Still w [.slice A m c] W') : Still w (vals H js) W' ∧ (js.contains j = true ∨ blk (.slice A m c) = none) := by
  rw [Bool.or_eq_true] at hc
  rcases hc with hc | hc
  · exact ⟨(Still.refl w _).app h (mem_vals.2 ⟨j, List.contains_iff_mem.1 hc, _, hj, rfl⟩), .inl hc⟩
  · cases A with
    | some a => cases hc
    | none => exact ⟨(Still.refl w _).app0 h rfl, .inr rfl⟩
theorem StpA.an {q : Nat} {e : TypeId} {kd : IntKind} {xs ys : List Int} {A2 : Option Addr} {m2 c2 : Nat} (hM : Mem w0 w (Gs H Fs)) (j : Nat) (hj : H[j]? = some ⟨.slice A m c, e, 1, nums kd xs⟩) (hR : Rd w (.slice A2 m2 c2) (nums kd ys)) (hl : xs.length + ys.length ≤ 1000000000) (js' : List Nat)
    (r : ∀ A' c' W1, Mem w0 W1 (Gs (H.set j ⟨.slice A' (xs ++ ys).length c', e, 1, nums kd (xs ++ ys)⟩) Fs) → RunA P R f k n ops (H.set j ⟨.slice A' (xs ++ ys).length c', e, 1, nums kd (xs ++ ys)⟩) js' (afA ops q Z (.slice A' (xs ++ ys).length c')) W1 D)
    (h : (appAt P n (one ops q) Z.2, (js.contains j || isNil A), okP j js js') = (some (dA ops q, e, .slice A m c, .slice A2 m2 c2, [.inRegion ops []]), true, true) := by kernel_rfl) : StpA P R f k n ops H js Z w q D := by
  injection h with h hc; injection hc with hc h2
  have l1 := hM.own_len j (gs_at hj); have l2 := hR.ln
  rw [nums_length] at l1
  obtain ⟨A', c', W1, hD, hM', hS, hb⟩ := do_ap hM j hj hR (one_nums _ _) (by omega) h
  rw [nums_append, nums_length] at hM' hD hb
  obtain ⟨hS', hc'⟩ := still_app hj hc hS
  exact StpA.dv q hD (Aft.of hS' (by exact vals_app hj h2 hc' hb) (r A' c' W1 hM'))
end
end Go.Scr
