/- A place of the program, refusals, short names. -/
import Derived.Test.YtdemmfohkhpklaaGreatDoorProg
import Derived.Test.YtdemmfohkhpklaaGreatDoorXSlim8
import Derived.Recover
import Derived.ProofKit
/- The laws of a place of the program; what the call that is put off does. -/
namespace Go.Scr.S
open Go.Proofs.Tryz (prog f47 func47)
def RL (f : FuncId) (fn : Func) (T : Value → World → Prop) (p : List Nat) (L : Env) (w : World) (D : List Deferred := []) : Prop := RunS prog (Ret T) f fn.ntmps (pl fn p, L) w D
def RJ (f : FuncId) (fn : Func) (T : Value → World → Prop) (p : List Nat) (w0 : World) (H : List Ent) (Fs : List (List Ent)) (js : List Nat) (Z : List Nat × Env) (D : List Deferred := []) : Prop := ∀ W, Mem w0 W (Gs H Fs) → RunA prog (Ret T) f (rest1 (pl fn p)) fn.ntmps (opsOf (pl fn p)) H js Z W D
set_option maxRecDepth 100000 in
theorem ctx_caught.D (a b : Value) (w : World) : CallsD prog 47 #[a, b] .returning w (fun e u' w' => ∃ y, e = .returned y ∧ u' = .returning ∧ w' = w) := by
  intro c cs hc
  obtain ⟨fn, tmps, todo, defers, mode, kind, ro⟩ := c
  subst hc
  let fr : Frame := { (Frame.enter prog 47 #[a, b] .deferred) with mode := .returning, todo := [], tmps := #[a, b, undef, undef, .nilIface, undef, undef, .nilIface, undef, .bool true, undef, undef, undef, undef, undef, undef, undef, undef] }
  refine ⟨.returned (.tuple #[]), .returning, w, fr, ⟨_, rfl, rfl, rfl⟩, ?_, rfl, rfl, rfl, f47, func47, ?_⟩
  · show Steps _ _ _
    exact ⟨15, by kernel_rfl⟩
  · exact results_none (by kernel_rfl) _ _ _
end Go.Scr.S

/- A row that is a struct's own, as long as another one is not through. -/
namespace Go.Scr.S
def Own5 {α β γ : Type} (e : Ent) (cs : List Value) (x : α × β × γ × List Int × List Int × List Int) : Prop := x.2.2.2.2.1 = [] ∨ ∃ A c, cs[5]? = some (.slice A x.2.2.2.2.2.length c) ∧ e = ⟨.slice A x.2.2.2.2.2.length c, 5, 1, nums .u8 x.2.2.2.2.2⟩
theorem pos_ne {x : List Int} (h : 0 < (x.length : Int)) : ¬ x = [] := fun e => by subst e; simp at h
theorem zero_ne {x : List Int} (h : ((x.length : Int) == 0) = false) : ¬ x = [] := fun e => by subst e; simp at h
theorem nil_of {x : List Int} (h : ((x.length : Int) == 0) = true) : x = [] := by
  have h2 : (x.length : Int) = 0 := by simpa using h
  exact List.eq_nil_of_length_eq_zero (by omega)
end Go.Scr.S

/- A refusal on its way: calls that panic, the call that was put off and catches it. -/
set_option linter.unusedVariables false
set_option linter.unusedSimpArgs false
namespace Go.Scr.S
open Go.Proofs.Tryz (prog f47 func47 f88 func88)
open Go.RowKit (Below)
def rch (n : Int) : List PanicEntry := [{ v := .iface 126 (.int .i64 n), recovered := false }]
def rch' (n : Int) : List PanicEntry := [{ v := .iface 126 (.int .i64 n), recovered := true }]
theorem wpv {P : Program} {ops : Array Oper} {Q : Exit → Act → World → Prop} {i : Nat} {rest : List Nat} {a : Act} {w w' : World} {o : Oper} {v : Value} (ho : ops[i]? = some o) (hw : Region.wanted o (yielded ops a.tmps) = true) (hr : (execOp a.eval o).run P w = .ok (.value v) w') (h : wpOps P ops Q rest (a.put o.dst v) w') : wpOps P ops Q (i :: rest) a w := by
  simp only [wpOps, ho, hw, if_true]
  exact .inl (by simp only [Oper.wp, hr, Oper.upon]; exact h)
theorem wpk {P : Program} {ops : Array Oper} {Q : Exit → Act → World → Prop} {i : Nat} {rest : List Nat} {a : Act} {w w' : World} {o : Oper} (ho : ops[i]? = some o) (hw : Region.wanted o (yielded ops a.tmps) = true) (hr : (execOp a.eval o).run P w = .ok .skip w') (h : wpOps P ops Q rest (a.put o.dst undef) w') : wpOps P ops Q (i :: rest) a w := by
  simp only [wpOps, ho, hw, if_true]
  exact .inl (by simp only [Oper.wp, hr, Oper.upon]; exact h)
theorem run_st {P : Program} {t : TypeId} {x v : Value} {w w' : World} (h : (Instr.storeAt t x v).run P w = .ok () w') : (do Instr.storeAt t x v; pure Next.skip : Sem Next).run P w = .ok .skip w' := by
  simp [Sem.run_bind, h, Result.andThen]
set_option maxRecDepth 100000 in
theorem ctx_caught.P (p q : Addr) (n : Int) (w w1 w2 : World)
    (h1 : (Instr.storeAt 22 (.pointer (some p)) (.slice none 0 0)).run prog w = .ok () w1) (h2 : (Instr.storeAt 30 (.pointer (some q)) (.int .i64 n)).run prog w1 = .ok () w2) :
    CallsD prog 47 #[.pointer (some p), .pointer (some q)] (.panicking (rch n)) w (fun e u' w' => e = .returned (.tuple #[]) ∧ u' = .panicking (rch' n) ∧ w' = w2) := by
  have hta : ∀ w, (Instr.typeAssert (.iface 126 (.int .i64 n)) 20 126 true).run prog w = .ok (.tuple #[.int .i64 n, .bool true]) w := fun w => by kernel_rfl
  refine callsD_of_wpS func47 rfl fun c₀ cs hu => ?_
  apply wpS_seq
  apply wpS_region
  simp [wpOpsS, go_sem, recoverD, hu, rch, Exit.thenS]
  refine wpS_of_wp (wp_block (wp_seq (wp_region ?_)))
  simp [wpOps, go_sem, Exit.then, Array.replicate]
  left
  apply wp_cond_false
  · simp [Act.eval]
  refine wp_seq (wp_region ?_)
  simp [wpOps, go_sem, Exit.then, Array.replicate]
  left
  simp only [Oper.upon, execOp, Act.eval]
  simp [hta, wpOps, go_sem, Exit.then, Array.replicate]
  repeat with_reducible left
  apply wp_cond_true
  · simp [Act.eval]
  refine wp_seq (wp_region ?_)
  simp [wpOps, go_sem, Exit.then, Array.replicate]
  repeat with_reducible left
  refine wp_region ?_
  refine wpv (v := .pointer (some p)) (w' := w) rfl (by kernel_rfl) (by kernel_rfl) <| wpv (v := .pointer (some q)) (w' := w) rfl (by kernel_rfl) (by kernel_rfl) <| wpv (v := .int .i64 n) (w' := w) rfl (by kernel_rfl) (by kernel_rfl) <| wpv (v := .pointer (some p)) (w' := w) rfl (by kernel_rfl) (by kernel_rfl) <| wpk rfl (by kernel_rfl) (run_st h1) <| wpv (v := .pointer (some q)) (w' := w1) rfl (by kernel_rfl) (by kernel_rfl) <| wpk rfl (by kernel_rfl) (run_st h2) ?_
  simp [wpOps, Exit.inBlock, bodyPostS, Act.put, results, go_sem, rch']
end Go.Scr.S
namespace Go.Scr
variable {D : List Deferred} {P : Program} {R : Ending → World → Prop} {f g : FuncId} {n : Nat} {S : Sta} {w w' w0 : World} {H : List Ent} {Fs : List (List Ent)} {T : Value → World → Prop} {args : Array Value} {ch : List PanicEntry} {fn : Func} {U U' : World → Prop}
theorem RunS.cp (hf : P.funcs[f]? = some fn) (hc : Calls P g args w (fun e w' => e = .panicked ch ∧ U w')) (r : ∀ w', U w' → ∀ tmps : Array Value, (∀ p ∈ S.2, tmps[p.1]? = some p.2) → Leaves P fn tmps R D (.panicking ch) w')
    (h : callAt P n S.1 S.2 w = some (dS n S, g, args, kS n S, w) := by kernel_rfl) : RunS P R f n S w D := by
  obtain ⟨k, L⟩ := S
  refine ⟨?_⟩
  unfold callAt at h
  split at h
  · rename_i o k3 hcur
    split at h
    · rename_i g' args' w1 hx
      injection h with h; injection h with h1 h2; injection h2 with h2 h3; injection h3 with h3 h4; injection h4 with h4 h5
      subst h2; subst h3; subst h5
      obtain ⟨ops, i, rest, k', rfl, rfl, ho, hd, hw, hk⟩ := cur_spec hcur
      intro a hF b cs hb hkd
      rw [← hF.exec hk] at hx
      obtain ⟨e, w2, fr, ⟨rfl, hU⟩, hcomes, hfn, hleave⟩ := hc (b.at a (.inRegion ops (i :: rest) :: k') :: cs)
      have hg := stepG_op (P := P) (b := b) (k := k') (cs := cs) (w := w1) (rest := rest) ho (hF.wants_eq hw)
      have henter : step P (lone (b.at a (.inRegion ops (i :: rest) :: k')) cs w1) = .next (lone (Frame.enter P g' args' .normal) (b.at a (.inRegion ops (i :: rest) :: k') :: cs) w1) :=
        step_lone_go (by rw [hg]; simp [stepG.apply, hx, Frame.at])
      have hl := step_leave_panicked (P := P) (c := b.at a (.inRegion ops (i :: rest) :: k')) (cs := cs) hleave
      rw [Frame.raise_at] at hl
      obtain ⟨e2, w3, fr2, h1, h2, h3, h4⟩ := leaves_steps (P := P) (fn := fn) (tmps := a.tmps) (R := R) D (.panicking ch) w2 { b.at a (.inRegion ops (i :: rest) :: k') with mode := .panicking ch } cs rfl hF.defs rfl (by rw [show ({ b.at a (.inRegion ops (i :: rest) :: k') with mode := .panicking ch } : Frame).fn = f from hb]; exact hf) hkd (r w2 hU a.tmps hF.at_)
      exact ⟨e2, w3, fr2, h1, Comes.of_steps (Steps.head henter (Steps.trans hcomes (.one hl))) h2, h3.trans hb, h4⟩
    · cases h
  · cases h
def panAt (P : Program) (n : Nat) (S : Sta) (w : World) : Option (Value × World) :=
  match cur n S.1 S.2 with
  | some (o, _) => match (execOp (ev S.2) o).run P w with
    | .halt (.panic v) w' => some (v, w')
    | _ => none
  | none => none
theorem RunS.pn {v : Value} (hf : P.funcs[f]? = some fn) (r : ∀ tmps : Array Value, (∀ p ∈ S.2, tmps[p.1]? = some p.2) → Leaves P fn tmps R D (.panicking [{ v, recovered := false }]) w)
    (h : panAt P n S w = some (v, w) := by kernel_rfl) : RunS P R f n S w D := by
  obtain ⟨k, L⟩ := S
  refine ⟨?_⟩
  unfold panAt at h
  split at h
  · rename_i o k3 hcur
    split at h
    · rename_i v' w1 hx
      injection h with h; injection h with h1 h2
      subst h1; subst h2
      obtain ⟨ops, i, rest, k', hk1, rfl, ho, hd, hw, hk⟩ := cur_spec hcur
      simp only at hk1; subst hk1
      intro a hF b cs hb hkd
      rw [← hF.exec hk] at hx
      have hg := stepG_op (P := P) (b := b) (k := k') (cs := cs) (w := w1) (rest := rest) ho (hF.wants_eq hw)
      have hs : step P (lone (b.at a (.inRegion ops (i :: rest) :: k')) cs w1) = .next (lone ((b.at a (.inRegion ops (i :: rest) :: k')).raise [{ v := v', recovered := false }]) cs w1) :=
        step_lone_go (by rw [hg]; simp [stepG.apply, hx])
      rw [Frame.raise_at] at hs
      obtain ⟨e2, w3, fr2, h1, h2, h3, h4⟩ := leaves_steps (P := P) (fn := fn) (tmps := a.tmps) (R := R) D (.panicking [{ v := v', recovered := false }]) w1 { b.at a (.inRegion ops (i :: rest) :: k') with mode := .panicking [{ v := v', recovered := false }] } cs rfl hF.defs rfl (by rw [show ({ b.at a (.inRegion ops (i :: rest) :: k') with mode := .panicking [{ v := v', recovered := false }] } : Frame).fn = f from hb]; exact hf) hkd (r a.tmps hF.at_)
      exact ⟨e2, w3, fr2, h1, Comes.of_steps (.one hs) h2, h3.trans hb, h4⟩
    · cases h
  · cases h
theorem run_stv {p : Addr} {u v : Value} {t : TypeId} (hs : (P.info? t).map (·.size) = some 1) (hv : oneC v = true) (hc : w.cell? p = some u) (hf : w.frozen? p = false) : (Instr.storeAt t (.pointer (some p)) v).run P w = .ok () (w.setCell p v) := by
  cases hi : P.info? t with
  | none => rw [hi] at hs; cases hs
  | some info =>
  rw [hi] at hs; injection hs with hsz
  simp only [Instr.storeAt, Instr.sureAddr, storeVar, oneC_cells hv, sizeOf, typeInfo, program, bind, Sem.bind, pure, Sem.run, hi, hsz]
  simp only [List.size_toArray, List.length_cons, List.length_nil, ne_eq, not_true_eq_false, if_false, storeCells, bind, Sem.bind, Nat.zero_add]
  have := run_store1 (P := P) (w := w) hv hc hf
  simp only [Addr.add, if_true]
  rw [Sem.run_bind', this]
  rfl
theorem Mem.sv {v : Value} {ty : TypeId} {cs : List Value} {g q : Nat} (hM : Mem w0 w (Gs H Fs)) (j : Nat) (hj : H[j]? = some ⟨.pointer (some ⟨g, 0, none⟩), ty, 0, cs⟩) (hq : q < cs.length) :
    Mem w0 (w.setCell ⟨g, q, none⟩ v) (Gs (H.set j ⟨.pointer (some ⟨g, 0, none⟩), ty, 0, cs.set q v⟩) Fs) := by
  rw [gs_set _ hj]
  exact Mem.set (e := ⟨.pointer (some ⟨g, 0, none⟩), ty, 0, cs⟩) _ _ (gs_split hj ▸ hM) (g := g) rfl q hq v
end Go.Scr
namespace Go.Scr.S
open Go.Proofs.Tryz (prog f47 func47 f88 func88)
def Pan (n : Int) (U : World → Prop) : Ending → World → Prop := fun e w' => e = .panicked (rch n) ∧ U w'
section
variable {D : List Deferred} {R : Ending → World → Prop} {f g : FuncId} {n : Nat} {S : Sta} {w w' w0 : World} {H : List Ent} {Fs : List (List Ent)} {T : Value → World → Prop} {args : Array Value} {fn : Func} {U U0 : World → Prop} {m : Int}
theorem _root_.Go.Scr.RunS.pq (hf : prog.funcs[f]? = some fn) (hc : Calls prog g args w (Pan m U0)) (r : ∀ w', U0 w' → U w') (h : callAt prog n S.1 S.2 w = some (dS n S, g, args, kS n S, w) := by kernel_rfl) : RunS prog (Pan m U) f n S w := RunS.cp hf hc (fun w' hu _ _ => ⟨rfl, r w' hu⟩) h
theorem _root_.Go.Scr.RunS.pd {g1 g2 : Nat} {v x : Value} (hf : prog.funcs[f]? = some fn) (a b : Nat) (hc : Calls prog g args w (Pan m U0)) (hU : ∀ w', U0 w' → Mem w0 w' (Gs H Fs)) (j1 j2 : Nat) (hj1 : H[j1]? = some ⟨.pointer (some ⟨g1, 0, none⟩), 22, 0, [v]⟩)
    (hj2 : (H.set j1 ⟨.pointer (some ⟨g1, 0, none⟩), 22, 0, [.slice none 0 0]⟩)[j2]? = some ⟨.pointer (some ⟨g2, 0, none⟩), 30, 0, [x]⟩) (hne : (((H.set j1 ⟨.pointer (some ⟨g1, 0, none⟩), 22, 0, [.slice none 0 0]⟩).set j2 ⟨.pointer (some ⟨g2, 0, none⟩), 30, 0, [.int .i64 m]⟩)[j1]?) = some ⟨.pointer (some ⟨g1, 0, none⟩), 22, 0, [.slice none 0 0]⟩)
    (hR : ∀ w2, Mem w0 w2 (Gs ((H.set j1 ⟨.pointer (some ⟨g1, 0, none⟩), 22, 0, [.slice none 0 0]⟩).set j2 ⟨.pointer (some ⟨g2, 0, none⟩), 30, 0, [.int .i64 m]⟩) Fs) → T (.tuple #[.slice none 0 0, .int .i64 m]) w2)
    (h : callAt prog n S.1 S.2 w = some (dS n S, g, args, kS n S, w) := by kernel_rfl) (hs : fn.results = #[.cell a 22, .cell b 30] := by rfl) (hl : (lk S.2 a, lk S.2 b) = (some (.pointer (some ⟨g1, 0, none⟩)), some (.pointer (some ⟨g2, 0, none⟩))) := by kernel_rfl) :
    RunS prog (Ret T) f n S w [⟨.fn (.func 47) #[], #[.pointer (some ⟨g1, 0, none⟩), .pointer (some ⟨g2, 0, none⟩)]⟩] := by
  injection hl with ha hb
  refine RunS.cp hf hc (fun w' hu tmps ht => ?_) h
  have hM := hU w' hu
  obtain ⟨c1, f1⟩ := hM.var_at j1 (gs_at hj1) (i := 0) rfl
  have h1 := run_stv (P := prog) (t := 22) (v := .slice none 0 0) (by kernel_rfl) rfl c1 f1
  have hM1 : Mem w0 _ (Gs (H.set j1 ⟨.pointer (some ⟨g1, 0, none⟩), 22, 0, [.slice none 0 0]⟩) Fs) := hM.sv (q := 0) (v := .slice none 0 0) j1 hj1 (by simp)
  obtain ⟨c2, f2⟩ := hM1.var_at j2 (gs_at hj2) (i := 0) rfl
  have h2 := run_stv (P := prog) (t := 30) (v := .int .i64 m) (by kernel_rfl) rfl c2 f2
  have hM2 : Mem w0 _ (Gs ((H.set j1 ⟨.pointer (some ⟨g1, 0, none⟩), 22, 0, [.slice none 0 0]⟩).set j2 ⟨.pointer (some ⟨g2, 0, none⟩), 30, 0, [.int .i64 m]⟩) Fs) := hM1.sv (q := 0) (v := .int .i64 m) j2 hj2 (by simp)
  have hj3 : ((H.set j1 ⟨.pointer (some ⟨g1, 0, none⟩), 22, 0, [.slice none 0 0]⟩).set j2 ⟨.pointer (some ⟨g2, 0, none⟩), 30, 0, [.int .i64 m]⟩)[j2]? = some ⟨.pointer (some ⟨g2, 0, none⟩), 30, 0, [.int .i64 m]⟩ := by
    have hlt : j2 < (H.set j1 ⟨.pointer (some ⟨g1, 0, none⟩), 22, 0, [.slice none 0 0]⟩).length := (List.getElem?_eq_some_iff.1 hj2).1
    rw [List.getElem?_set_self hlt]
  refine leaves_cons (f := 47) (args := #[.pointer (some ⟨g1, 0, none⟩), .pointer (some ⟨g2, 0, none⟩)]) (by intro e; cases e) (by kernel_rfl) ((ctx_caught.P _ _ m w' _ _ h1 h2).mono ?_)
  rintro e u' w'' ⟨rfl, rfl, rfl⟩
  exact ⟨_, results_cell2 hs tmps _ (ht _ (lk_mem ha)) (ht _ (lk_mem hb)) (by kernel_rfl) (by kernel_rfl) (hM2.var_at j1 (gs_at hne) (i := 0) rfl).1 (hM2.var_at j2 (gs_at hj3) (i := 0) rfl).1, ⟨_, rfl, hR _ hM2⟩⟩
end
def Ve.p (k : Nat) (a0 : Int) : Option Int := if (a0 != 0) = true then (some a0) else (none)
set_option maxRecDepth 100000 in
theorem Ve.panics {k : Nat} {a0 n : Int} {w : World} (h : Ve.p k a0 = some n) : Calls prog 88 #[.int .i64 a0] w (Pan n fun w' => Mem w w' (Gs [] [])) := by
  unfold Ve.p at h
  refine calls_S func88 ?_
  have hM := Mem.r0 w
  refine .gq 5 ?_
  obtain ⟨c1, h⟩ := ifs h
  refine .kn 3 c1 <| .gq 4 ?_
  obtain rfl := sj h
  exact .pn func88 (fun _ _ => ⟨rfl, hM.pm [] []⟩)
def orp {α : Type} (p : Option Int) (a : Int → Option α) (b : Option α) : Option α := match p with | some n => a n | none => b
theorem orpE {α : Type} {p : Option Int} {a : Int → Option α} {b : Option α} {r : α} (h : orp p a b = some r) : (∃ n, p = some n ∧ a n = some r) ∨ (p = none ∧ b = some r) := by
  cases p with
  | none => exact .inr ⟨rfl, h⟩
  | some n => exact .inl ⟨n, rfl, h⟩
def RQ (f : FuncId) (fn : Func) (n : Int) (U : World → Prop) (p : List Nat) (L : Env) (w : World) : Prop := RunS prog (Pan n U) f fn.ntmps (pl fn p, L) w
end Go.Scr.S

/- Regions whose order is open, in which a call changes a struct: of the worlds that they leave nothing is told. -/
namespace Go.Scr
variable {D : List Deferred} {P : Program} {R : Ending → World → Prop} {f : FuncId} {k : List Item} {n : Nat} {S : Sta} {ops : Array Oper} {w w' w0 W W' : World} {H H' E : List Ent} {Fs Fs' : List (List Ent)} {T : Value → World → Prop} {Z : List Nat × Env} {cf : Option (List Nat × Nat)}
structure RunU (P : Program) (R : Ending → World → Prop) (f : FuncId) (k : List Item) (n : Nat) (ops : Array Oper) (Z : List Nat × Env) (w : World) (D : List Deferred := []) : Prop where
  o : RunAny P R f k n ops (fun _ => True) (ops.size - Z.1.length) Z.1 Z.2 w D
structure StpU (P : Program) (R : Ending → World → Prop) (f : FuncId) (k : List Item) (n : Nat) (ops : Array Oper) (Z : List Nat × Env) (w : World) (i : Nat) (D : List Deferred := []) : Prop where
  o : Stepped P R f k n ops (fun _ => True) (ops.size - (Z.1.length + 1)) Z.1 Z.2 w i D
theorem RunS.dru (hM : Mem w0 w (Gs H Fs)) (r : ∀ W, Mem w0 W (Gs H Fs) → RunU P R f (rest1 S.1) n (opsOf S.1) ([], S.2) W D) (h : (isDraw S.1, P.follows .mixedOrders) = (true, true) := by kernel_rfl) : RunS P R f n S w D := by
  injection h with h1 h2
  exact ⟨RunF.draw (fun _ => True) h1 h2 (r _ hM.drew).o⟩
theorem RunU.kn (s : Nat) {t b : Bool} (ht : t = b) (r : RunU P R f k n ops (Z.1, known Z.2 s b) w D) (h : lk Z.2 s = some (.bool t) := by kernel_rfl) : RunU P R f k n ops Z w D := ⟨RunAny.know s h ht r.o⟩
theorem RunU.ps' {cf : Option (List Nat × Nat)} (hC : Cert ops cf) : ∀ (is : List Nat) (Z : List Nat × Env), (∀ w, psO P n ops cf is Z w = psE P ops is Z w) → RunU P R f k n ops (psZ P ops is Z) w D → RunU P R f k n ops Z w D
  | [], Z, _, r => r
  | i :: is, Z, h, r => by
    have r1 : RunU P R f k n ops (afA ops i Z (valA P ops Z i)) w D := RunU.ps' hC is _ (fun w => by have := h w; unfold psO psE at this; injection this) r
    have h1 : ∀ w, obsA P n ops cf Z i w = some (valA P ops Z i, w) := fun w => by have := h w; unfold psO psE at this; injection this
    have h0 := h1 default
    unfold obsA at h0
    cases hok : okA ops cf Z i with
    | false => rw [hok] at h0; cases h0
    | true =>
      obtain ⟨hs, hb⟩ := okA_spec hC hok
      rw [hok, cond_true] at h0
      refine ⟨?_⟩; rw [fuel_ok hb]
      split at h0
      · rename_i o ho
        have hd1 : dA ops i = o.dst := by unfold dA; rw [ho]
        cases hdo : dstOk n o.dst with
        | false => rw [hdo] at h0; cases h0
        | true =>
          rw [hdo, cond_true] at h0
          have r2 : ∀ L', upd Z.2 (dA ops i) (valA P ops Z i) = L' → RunAny P R f k n ops (fun _ => True) (ops.size - (Z.1.length + 1)) (Z.1 ++ [i]) L' w D := by
            intro L' e; subst e
            have : RunAny P R f k n ops (fun _ => True) (ops.size - (Z.1 ++ [i]).length) (Z.1 ++ [i]) (upd Z.2 (dA ops i) (valA P ops Z i)) w D := r1.o
            rwa [List.length_append, List.length_singleton] at this
          split at h0
          · rename_i hw
            cases hk : okOp Z.2 o with
            | false => rw [hk] at h0; cases h0
            | true =>
              refine RunAny.y (k2 := [.inRegion ops []]) i (d := o.dst) (v := valA P ops Z i) (S' := fun _ => True) hs ⟨o, by simp [cur, Scr.one, ho, hdo, hw, hk], rfl, fun w _ => ?_⟩ (fun _ _ => trivial) trivial (r2 _ (by rw [hd1]))
              have h2 := h1 w
              unfold obsA at h2
              rw [hok, cond_true] at h2
              simp only [ho, hdo, cond_true, hw, hk] at h2
              split at h2
              · rename_i v w' hx
                injection h2 with h2; injection h2 with h3 h4; subst h4
                rw [hx, h3]
              · cases h2
          · rename_i hw
            injection h0 with h0; injection h0 with h0 _
            refine RunAny.off i (d := o.dst) hs (by simp [ho, hdo, hw]) trivial (r2 _ (by rw [hd1, ← h0]))
          · cases h0
      · cases h0
theorem RunU.pz (hC : Cert ops cf) (is : List Nat) (r : RunU P R f k n ops (psZ P ops is Z) w D) (h : ∀ w, psO P n ops cf is Z w = psE P ops is Z w := by intro w; kernel_rfl) : RunU P R f k n ops Z w D := RunU.ps' hC is Z h r
theorem RunU.dn (hC : Cert ops cf) (r : RunS P R f n (k, Z.2) w D) (h : rdyA ops cf Z.1 = [] := by kernel_rfl) : RunU P R f k n ops Z w D := ⟨RunAny.done (rdyA_spec hC h) r.o⟩
theorem each_u : ∀ {is : List Nat}, Each (fun i => StpU P R f k n ops Z w i D) is → Each (fun i => Stepped P R f k n ops (fun _ => True) (ops.size - (Z.1.length + 1)) Z.1 Z.2 w i D) is
  | [], _ => trivial
  | _ :: _, h => ⟨h.1.o, each_u h.2⟩
theorem RunU.al (hC : Cert ops cf) (is : List Nat) (s : Each (fun i => StpU P R f k n ops Z w i D) is) (hne : is ≠ []) (h : (rdyA ops cf Z.1, Nat.blt Z.1.length ops.size) = (is, true)) : RunU P R f k n ops Z w D := by
  injection h with h1 h2
  refine ⟨?_⟩; rw [fuel_ok h2]
  exact RunAny.all is (rdyA_spec hC h1) hne (each_u s)
theorem RunU.a1 (hC : Cert ops cf) (i : Nat) (s : StpU P R f k n ops Z w i D) (h : (rdyA ops cf Z.1, Nat.blt Z.1.length ops.size) = ([i], true) := by kernel_rfl) : RunU P R f k n ops Z w D := RunU.al hC [i] ⟨s, trivial⟩ (by simp) h
theorem RunU.a2 (hC : Cert ops cf) (i0 i1 : Nat) (s0 : StpU P R f k n ops Z w i0 D) (s1 : StpU P R f k n ops Z w i1 D) (h : (rdyA ops cf Z.1, Nat.blt Z.1.length ops.size) = ([i0, i1], true) := by kernel_rfl) : RunU P R f k n ops Z w D := RunU.al hC [i0, i1] ⟨s0, s1, trivial⟩ (by simp) h
theorem StpU.ca {i : Nat} {g : FuncId} {args : Array Value} (hc : Calls P g args w (Ret T)) (r : ∀ v w', T v w' → RunU P R f k n ops (afA ops i Z v) w' D) (h : callAt P n (one ops i) Z.2 w = some (dA ops i, g, args, [.inRegion ops []], w) := by kernel_rfl) : StpU P R f k n ops Z w i D := by
  refine ⟨Stepped.call i h hc (fun v w' hT => trivial) (fun v w' hT => ?_)⟩
  have := (r v w' hT).o
  unfold afA at this
  simpa only [List.length_append, List.length_singleton] using this
theorem StpU.dv {v : Value} (i : Nat) (hD : Does P n (one ops i) Z.2 w (dA ops i) v w' [.inRegion ops []]) (r : RunU P R f k n ops (afA ops i Z v) w' D) : StpU P R f k n ops Z w i D := by
  refine ⟨Stepped.does i hD trivial ?_⟩
  have := r.o
  unfold afA at this
  simpa only [List.length_append, List.length_singleton] using this
theorem StpU.lv {q : Nat} {g : Nat} {ty : TypeId} {cs : List Value} {u : Value} (hM : Mem w0 w (Gs H Fs)) (j : Nat) (hj : H[j]? = some ⟨.pointer (some ⟨g, 0, none⟩), ty, 0, cs⟩) (o : Nat) (hu : cs[o]? = some u) (r : RunU P R f k n ops (afA ops q Z u) w D) (h : ldAt P n (one ops q) Z.2 = some (dA ops q, ⟨g, o, none⟩, [.inRegion ops []]) := by kernel_rfl) : StpU P R f k n ops Z w q D :=
  StpU.dv q ((ld_y u h).does (hM.var_at j (gs_at hj) hu).1) r
end Go.Scr

/- Results, one of them a variable of several cells. -/
namespace Go.Scr
variable {D : List Deferred} {P : Program} {R : Ending → World → Prop} {f : FuncId} {k : List Item} {n : Nat} {S : Sta} {ops : Array Oper} {w w' w0 W W' : World} {H H' E : List Ent} {Fs Fs' : List (List Ent)} {T : Value → World → Prop}
theorem RunS.r3 {fn : Func} (t : Nat) (ty : TypeId) (b c N : Nat) {tv : TypeId} {g : Nat} {cs : List Value} {v x : Value} (hf : P.funcs[f]? = some fn) (hM : Mem w0 w (Gs H Fs)) (j : Nat) (hj : H[j]? = some ⟨.pointer (some ⟨g, 0, none⟩), tv, 0, cs⟩) (hN : cs.length = N) (hR : T (.tuple #[.agg cs.toArray, v, x]) w)
    (h : (fn.results.toList, isRet S.1, lk S.2 t, rowT P ty N, lk S.2 b, lk S.2 c) = ([.cell t ty, .tmp b, .tmp c], true, some (.pointer (some ⟨g, 0, none⟩)), true, some v, some x) := by kernel_rfl) : RunS P (Ret T) f n S w := by
  injection h with h1 h; injection h with h2 h; injection h with h3 h; injection h with h4 h; injection h with h5 h6
  have hr : fn.results = #[.cell t ty, .tmp b, .tmp c] := by
    have : fn.results = [ResultVar.cell t ty, .tmp b, .tmp c].toArray := by rw [← h1]
    exact this
  obtain ⟨d, hu, hd, hi⟩ := rowT_spec h4
  have hb := hM.block j (gs_at hj)
  refine ⟨fun a hF => Run.ends hf (isRet_spec h2) hF.defs (v := .tuple #[.agg cs.toArray, v, x]) ?_ ⟨_, rfl, hR⟩⟩
  have e1 : a.tmps[t]?.getD undef = .pointer (some ⟨g, 0, none⟩) := by simpa using congrArg (Option.getD · undef) (hF.at_ _ (lk_mem h3))
  have e2 : a.tmps[b]?.getD undef = v := by simpa using congrArg (Option.getD · undef) (hF.at_ _ (lk_mem h5))
  have e3 : a.tmps[c]?.getD undef = x := by simpa using congrArg (Option.getD · undef) (hF.at_ _ (lk_mem h6))
  have := run_loadVar_row (P := P) w g tv ty cs.toArray (0, 0) d hb hu (by cases d <;> first | rfl | cases hd) (by rw [hi]; simp [hN])
  simp [results, hr, e1, e2, e3, asAddr, this]
end Go.Scr

/- Short names. -/
namespace Go.Scr.S
abbrev Li := List Int
abbrev Lj := List Li
abbrev Lk := List Lj
abbrev Lp := Li × Li
abbrev Cs := Option Lk ⊕ (Option Lp ⊕ (Option Lp ⊕ (Option (Lj × Lj) ⊕ Option (Li × Int))))
abbrev Ci := Int × Cs
abbrev Mo := Option Ci × Int × Bool × Li × Li × Li
abbrev Cx := Bool × Bool × Int × Int × Int × Bool × Option Ci × Li × Option Mo × Li × Li
abbrev Cy := Bool × Bool × Int × Int × Int × Bool × Option Ci × Li × Mo × Li × Li
abbrev Ak := Int × Int × Int × Int × Bool × Li × Li
abbrev Cf := Int × Int × Int × Bool
abbrev pa (g : Nat) : Option Addr := some ⟨g, 0, none⟩
abbrev gd (c : Prop) [Decidable c] {α : Type} (x : Option α) : Option α := if decide c = true then x else none
variable {w0 W : World} {H FT : List Ent} {Fs : List (List Ent)} {Z : Zp}
theorem zk (hM : Mem w0 W (Gs H Fs)) (hZ : ∀ W, Kept w0 W → Oks FT W → Z W) (j : Nat) (hj : Fs[j]? = some FT := by exact rfl) : ∀ w, Kept W w → Z w := fun _ h => hZ _ (hM.kept.trans h) ((hM.oks j hj).kept h)
theorem zp (hM : Mem w0 W (Gs H Fs)) (hZ : ∀ W, Kept w0 W → Z W) : ∀ w, Kept W w → Z w := fun _ h => hZ _ (hM.kept.trans h)
theorem zl (hM : Mem w0 W (Gs H Fs)) (hZ : ∀ W, Kept w0 W → Oks FT W → Z W) (j : Nat) (hj : Fs[j]? = some FT := by exact rfl) : Z W := hZ _ hM.kept (hM.oks j hj)
theorem upn {k : IntKind} {Z Y : Zp} {v : Value} {x : Li} (hs : ∀ W, Y W → Z W) (h : rNums k Z v x) : rNums k Y v x := up_nums k _ _ _ _ hs h
theorem rno {k : IntKind} {A : Option Addr} {n c : Nat} {xs : List Int} (h : RdF Z (.slice A n c) (nums k xs)) (hW : Z W) : rNums k Z (.slice A n c) xs := rnums_of h hW
theorem ai {a b : Prop} (h : a) (h' : b) : a ∧ b := ⟨h, h'⟩
end Go.Scr.S
namespace Go
abbrev Value.pt (g : Nat) : Value := .pointer (some ⟨g, 0, none⟩)
abbrev Value.i (x : Int) : Value := .int .i64 x
abbrev Value.u (x : Int) : Value := .int .u32 x
abbrev Value.y (x : Int) : Value := .int .u8 x
end Go
