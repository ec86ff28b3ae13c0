/- The machine's todo list, reckoned. -/
import Derived.Calls
import Derived.Scope
import Derived.OrdersHeld
import Derived.Below
import Derived.KernelRfl
import Derived.OwnWalk
/- The steps of a call over what is to be done, and what is known of its temporaries; a step that is reckoned by the kernel. -/
set_option linter.unnecessarySimpa false
set_option linter.unusedVariables false
set_option linter.unusedSimpArgs false
namespace Go.Scr
open Go.RowKit (Below)
variable {D : List Deferred}

abbrev Env := List (Nat × Value)

structure Fr (n : Nat) (a : Act) (L : Env) (D : List Deferred := []) : Prop where
  size : a.tmps.size = n
  defs : a.defers = D
  at_ : ∀ p ∈ L, a.tmps[p.1]? = some p.2

theorem Fr.sub {n : Nat} {a : Act} {L L' : Env} (h : Fr n a L D) (hs : ∀ p ∈ L', p ∈ L) : Fr n a L' D := ⟨h.size, h.defs, fun p hp => h.at_ p (hs p hp)⟩

def lk : Env → Nat → Option Value
  | [], _ => none
  | (s, v) :: r, t => bif Nat.beq s t then some v else lk r t

theorem lk_mem : ∀ {L : Env} {t : Nat} {v : Value}, lk L t = some v → (t, v) ∈ L
  | [], _, _, h => by cases h
  | (s, u) :: r, t, v, h => by
    unfold lk at h
    cases hb : Nat.beq s t with
    | true =>
      rw [hb] at h
      simp only [cond_true, Option.some.injEq] at h
      have := Nat.eq_of_beq_eq_true hb
      subst this; subst h
      exact List.mem_cons_self
    | false =>
      rw [hb] at h
      exact List.mem_cons_of_mem _ (lk_mem h)

theorem Fr.look {n : Nat} {a : Act} {L : Env} (h : Fr n a L D) {t : Nat} {v : Value} (hl : lk L t = some v) : a.tmps[t]? = some v := h.at_ _ (lk_mem hl)

def del : Env → Nat → Env
  | [], _ => []
  | (s, v) :: r, t => bif Nat.beq s t then del r t else (s, v) :: del r t

theorem mem_del : ∀ {L : Env} {t : Nat} {p : Nat × Value}, p ∈ del L t → p ∈ L ∧ p.1 ≠ t
  | [], _, _, h => by cases h
  | (s, u) :: r, t, p, h => by
    unfold del at h
    cases hb : Nat.beq s t with
    | true =>
      rw [hb] at h
      obtain ⟨h1, h2⟩ := mem_del h
      exact ⟨List.mem_cons_of_mem _ h1, h2⟩
    | false =>
      rw [hb] at h
      rcases List.mem_cons.1 h with rfl | h
      · exact ⟨List.mem_cons_self, fun e => by rw [show (s, u).1 = s from rfl] at e; subst e; rw [Nat.beq_refl] at hb; cases hb⟩
      · obtain ⟨h1, h2⟩ := mem_del h
        exact ⟨List.mem_cons_of_mem _ h1, h2⟩

def upd (L : Env) : Option Nat → Value → Env
  | some d, v => (d, v) :: del L d
  | none, _ => L

theorem Fr.put {n : Nat} {a : Act} {L : Env} (h : Fr n a L D) (d : Option Nat) (v : Value) (hd : ∀ t, d = some t → t < n) : Fr n (a.put d v) (upd L d v) D := by
  cases d with
  | none => exact h
  | some t =>
    have ht : t < a.tmps.size := by rw [h.size]; exact hd t rfl
    refine ⟨by simp [Act.put, h.size], h.defs, ?_⟩
    intro p hp
    rcases List.mem_cons.1 hp with rfl | hp
    · simp [Act.put, ht]
    · obtain ⟨h1, h2⟩ := mem_del hp
      simp only [Act.put]
      rw [Array.getElem?_setIfInBounds_ne (Ne.symm h2)]
      exact h.at_ p h1

def ev (L : Env) : Operand → Value
  | .tmp t => match lk L t with | some v => v | none => undef
  | .const v => v
  | .global g => .pointer (some ⟨g, 0, none⟩)
  | .func f => .func (.func f) #[] #[]

def has (L : Env) : Operand → Bool
  | .tmp t => match lk L t with | some _ => true | none => false
  | _ => true

theorem Fr.eval_eq {n : Nat} {a : Act} {L : Env} (h : Fr n a L D) {x : Operand} (hx : has L x = true) : a.eval x = ev L x := by
  cases x with
  | tmp t =>
    simp only [has] at hx
    cases hl : lk L t with
    | none => rw [hl] at hx; cases hx
    | some v => simp [Act.eval, ev, hl, h.look hl]
  | const v => rfl
  | global g => rfl
  | func f => rfl

def allHas (L : Env) : List Operand → Bool
  | [] => true
  | x :: r => bif has L x then allHas L r else false

theorem allHas_spec {L : Env} : ∀ {xs : List Operand}, allHas L xs = true → ∀ x ∈ xs, has L x = true
  | [], _, x, hx => by cases hx
  | y :: r, h, x, hx => by
    unfold allHas at h
    cases hy : has L y with
    | false => rw [hy] at h; cases h
    | true =>
      rw [hy] at h
      rcases List.mem_cons.1 hx with rfl | hx
      · exact hy
      · exact allHas_spec h x hx

def noSel : Op → Bool
  | .select .. => false
  | _ => true

def okOp (L : Env) (o : Oper) : Bool := bif noSel o.op then allHas L o.op.operands.toList else false

theorem Fr.exec {n : Nat} {a : Act} {L : Env} (h : Fr n a L D) {o : Oper} (ho : okOp L o = true) : execOp a.eval o = execOp (ev L) o := by
  unfold okOp at ho
  cases hs : noSel o.op with
  | false => rw [hs] at ho; cases ho
  | true =>
    rw [hs] at ho
    refine execOp_congr o (fun cs b e => by rw [e] at hs; cases hs) fun x hx => ?_
    exact h.eval_eq (allHas_spec ho x (by simpa using hx))

def wants (ops : Array Oper) (L : Env) (o : Oper) : Option Bool :=
  match o.guard with
  | none => some true
  | some (j, b) =>
    match (ops[j]?).bind (·.dst) with
    | none => none
    | some t => match lk L t with
      | some (.bool c) => some (c == b)
      | some (.tuple _) => some false
      | _ => none

theorem Fr.wants_eq {n : Nat} {a : Act} {L : Env} (h : Fr n a L D) {ops : Array Oper} {o : Oper} {r : Bool} (hw : wants ops L o = some r) : Region.wanted o (yielded ops a.tmps) = r := by
  unfold wants at hw
  unfold Region.wanted
  split at hw
  · rename_i hg
    rw [hg]; simpa using hw
  · rename_i j b hg
    rw [hg]
    split at hw
    · cases hw
    · rename_i t ht
      split at hw
      · rename_i c hl
        have : yielded ops a.tmps j = some c := by simp [yielded, ht, h.look hl]
        simp only [this]
        simp only [Option.some.injEq] at hw
        rw [← hw]
        cases c <;> cases b <;> rfl
      · rename_i c hl
        have : yielded ops a.tmps j = none := by simp [yielded, ht, h.look hl]
        simp only [this]
        simp only [Option.some.injEq] at hw
        rw [← hw]
        cases b <;> rfl
      · cases hw

def Run (P : Program) (R : Ending → World → Prop) (f : FuncId) (k : List Item) (a : Act) (w : World) : Prop :=
  ∀ (b : Frame) (cs : List Frame), b.fn = f → b.kind = .normal → ∃ e w' fr, R e w' ∧ Comes P (lone (b.at a k) cs w) (lone fr cs w') e ∧ fr.fn = f ∧ fr.leaving P w' e

section
variable {P : Program} {R : Ending → World → Prop} {f : FuncId} {k k' : List Item} {a a' : Act} {w w' : World}
theorem Run.step (h : ∀ (b : Frame) (cs : List Frame), step P (lone (b.at a k) cs w) = .next (lone (b.at a' k') cs w')) (r : Run P R f k' a' w') : Run P R f k a w := by
  intro b cs hb hk
  obtain ⟨e, w2, fr, h1, h2, h3⟩ := r b cs hb hk
  exact ⟨e, w2, fr, h1, Comes.of_steps (.one (h b cs)) h2, h3⟩

theorem Calls_of_Run {fn : Func} {c : Code} {args : Array Value} (hf : P.funcs[f]? = some fn) (hb : fn.body = some c)
    (h : Run P R f [.code c] { tmps := args ++ Array.replicate (fn.ntmps - args.size) undef, defers := [] } w) : Calls P f args w R := by
  intro cs
  let b : Frame := { (default : Frame) with fn := f, kind := .normal }
  have henter : Frame.enter P f args .normal = b.at { tmps := args ++ Array.replicate (fn.ntmps - args.size) undef, defers := [] } [.code c] := by
    simp [Frame.enter, Frame.at, hf, hb, b]
  rw [henter]
  exact h b cs rfl rfl

theorem Run.of_wp {c : Code} (h : c.wp P (fun e a' w' => e = .normal ∧ Run P R f k a' w') a w) : Run P R f (.code c :: k) a w := by
  intro b cs hb hk
  obtain ⟨e, a', w', ⟨rfl, hr⟩, harr⟩ := h b k cs
  obtain ⟨e2, w2, fr, h1, h2, h3⟩ := hr b cs hb hk
  exact ⟨e2, w2, fr, h1, Comes.of_steps harr h2, h3⟩

theorem Run.ends {fn : Func} {v : Value} (hf : P.funcs[f]? = some fn) (hk : k = [] ∨ ∃ r, k = .code .ret :: r) (hd : a.defers = []) (hr : (results fn a.tmps).run P w = .ok v w) (hR : R (.returned v) w) : Run P R f k a w := by
  intro b cs hb hkd
  rcases hk with rfl | ⟨r, rfl⟩
  · exact ⟨.returned v, w, _, hR, Steps.one step_end, hb, rfl, hd, hkd, fn, by rw [show ({ b.at a [] with mode := .returning } : Frame).fn = f from hb]; exact hf, hr⟩
  · exact ⟨.returned v, w, _, hR, Steps.one step_ret, hb, rfl, hd, hkd, fn, by rw [show ({ b.at a (.code .ret :: r) with mode := .returning } : Frame).fn = f from hb]; exact hf, hr⟩
end

def RunF (P : Program) (R : Ending → World → Prop) (f : FuncId) (k : List Item) (n : Nat) (L : Env) (w : World) (D : List Deferred := []) : Prop := ∀ a, Fr n a L D → Run P R f k a w

def opStep (P : Program) (ops : Array Oper) (o : Oper) (n : Nat) (L : Env) (w : World) : Option (Env × World) :=
  match o.dst with
  | some d => bif Nat.blt d n then
    match wants ops L o with
    | some true => bif okOp L o then
        match (execOp (ev L) o).run P w with
        | .ok (.value v) w' => some (upd L (some d) v, w')
        | .ok .skip w' => some (upd L (some d) undef, w')
        | _ => none
      else none
    | some false => some (upd L (some d) undef, w)
    | none => none
    else none
  | none =>
    match wants ops L o with
    | some true => bif okOp L o then
        match (execOp (ev L) o).run P w with
        | .ok (.value _) w' => some (L, w')
        | .ok .skip w' => some (L, w')
        | _ => none
      else none
    | some false => some (L, w)
    | none => none

def bstep (P : Program) (n : Nat) : List Item → Env → World → Option (List Item × Env × World)
  | .code .skip :: k, L, w => some (k, L, w)
  | .code (.label _) :: k, L, w => some (k, L, w)
  | .inBlock _ :: k, L, w => some (k, L, w)
  | .inScope _ :: k, L, w => some (k, L, w)
  | .code (.seq x y) :: k, L, w => some (.code x :: .code y :: k, L, w)
  | .code (.cond c x y) :: k, L, w => bif has L c then (match ev L c with | .bool b => some (.code (if b then x else y) :: k, L, w) | _ => none) else none
  | .code (.block id c) :: k, L, w => some (.code c :: .inBlock id :: k, L, w)
  | .code (.loop c) :: k, L, w => some (.code c :: .inLoop c :: k, L, w)
  | .inLoop c :: k, L, w => some (.code c :: .inLoop c :: k, L, w)
  | .code (.scope c) :: k, L, w => some (.code c :: .inScope c :: k, L, w)
  | .code (.exit id) :: k, L, w => match exitTo id k with | some k' => some (k', L, w) | none => none
  | .code (.goto l) :: k, L, w => match gotoIn l k with | some k' => some (k', L, w) | none => none
  | .code (.region _ ops false) :: k, L, w => some (.inRegion ops (List.range ops.size) :: k, L, w)
  | .inRegion _ [] :: k, L, w => some (k, L, w)
  | .inRegion ops (i :: rest) :: k, L, w =>
    match ops[i]? with
    | some o => match opStep P ops o n L w with
      | some (L', w') => some (.inRegion ops rest :: k, L', w')
      | none => none
    | none => none
  | _, _, _ => none

section
variable {P : Program} {R : Ending → World → Prop} {f : FuncId} {k k' : List Item} {n : Nat} {L L' : Env} {w w' : World} {a : Act}

theorem step_op_value {b : Frame} {cs : List Frame} {ops : Array Oper} {i : Nat} {rest : List Nat} {o : Oper} {v : Value} (ho : ops[i]? = some o) (hw : Region.wanted o (yielded ops a.tmps) = true)
    (hr : (execOp a.eval o).run P w = .ok (.value v) w') : step P (lone (b.at a (.inRegion ops (i :: rest) :: k)) cs w) = .next (lone (b.at (a.put o.dst v) (.inRegion ops rest :: k)) cs w') := by
  have hg := stepG_op (P := P) (b := b) (k := k) (cs := cs) (w := w) (rest := rest) ho hw
  have hfin := Frame.finish_at b a ops i rest k v
  rw [ho] at hfin
  simp only [Option.bind_some] at hfin
  exact step_lone_go (by rw [hg, ← hfin]; simp [stepG.apply, hr])

theorem step_op_unit {b : Frame} {cs : List Frame} {ops : Array Oper} {i : Nat} {rest : List Nat} {o : Oper} (ho : ops[i]? = some o) (hw : Region.wanted o (yielded ops a.tmps) = true)
    (hr : (execOp a.eval o).run P w = .ok .skip w') : step P (lone (b.at a (.inRegion ops (i :: rest) :: k)) cs w) = .next (lone (b.at (a.put o.dst undef) (.inRegion ops rest :: k)) cs w') := by
  have hg := stepG_op (P := P) (b := b) (k := k) (cs := cs) (w := w) (rest := rest) ho hw
  have hfin := Frame.finish_at b a ops i rest k undef
  rw [ho] at hfin
  simp only [Option.bind_some] at hfin
  exact step_lone_go (by rw [hg, ← hfin]; simp [stepG.apply, hr])

theorem opStep_sound {ops : Array Oper} {i : Nat} {rest : List Nat} {o : Oper} (ho : ops[i]? = some o) (hs : opStep P ops o n L w = some (L', w'))
    (r : RunF P R f (.inRegion ops rest :: k) n L' w' D) : RunF P R f (.inRegion ops (i :: rest) :: k) n L w D := by
  intro a hF
  have skip : ∀ d, o.dst = d → wants ops L o = some false → Run P R f (.inRegion ops rest :: k) (a.put d undef) w → Run P R f (.inRegion ops (i :: rest) :: k) a w := by
    intro d hd hw r
    refine Run.step (fun b cs => ?_) r
    have := step_op_skip (P := P) (b := b) (a := a) (k := k) (cs := cs) (w := w) (ops := ops) (i := i) (rest := rest) (by simp [ho, hF.wants_eq hw])
    simpa [ho, hd] using this
  unfold opStep at hs
  split at hs
  · rename_i d hd
    cases hlt : Nat.blt d n with
    | false => rw [hlt] at hs; cases hs
    | true =>
      rw [hlt, cond_true] at hs
      have hdn : ∀ t, some d = some t → t < n := fun t e => by injection e with e; subst e; simpa [Nat.blt_eq] using hlt
      split at hs
      · rename_i hw
        cases hok : okOp L o with
        | false => rw [hok] at hs; cases hs
        | true =>
          rw [hok, cond_true] at hs
          split at hs
          · rename_i v w1 hx
            injection hs with hs; injection hs with h1 h2; subst h1; subst h2
            rw [← hF.exec hok] at hx
            refine Run.step (fun b cs => step_op_value ho (hF.wants_eq hw) hx) ?_
            rw [hd]
            exact r _ (hF.put (some d) v hdn)
          · rename_i w1 hx
            injection hs with hs; injection hs with h1 h2; subst h1; subst h2
            rw [← hF.exec hok] at hx
            refine Run.step (fun b cs => step_op_unit ho (hF.wants_eq hw) hx) ?_
            rw [hd]
            exact r _ (hF.put (some d) undef hdn)
          · cases hs
      · rename_i hw
        injection hs with hs; injection hs with h1 h2; subst h1; subst h2
        exact skip _ hd hw (r _ (hF.put (some d) undef hdn))
      · cases hs
  · rename_i hd
    split at hs
    · rename_i hw
      cases hok : okOp L o with
      | false => rw [hok] at hs; cases hs
      | true =>
        rw [hok, cond_true] at hs
        split at hs
        · rename_i v w1 hx
          injection hs with hs; injection hs with h1 h2; subst h1; subst h2
          rw [← hF.exec hok] at hx
          refine Run.step (fun b cs => step_op_value ho (hF.wants_eq hw) hx) ?_
          rw [hd]
          exact r _ hF
        · rename_i w1 hx
          injection hs with hs; injection hs with h1 h2; subst h1; subst h2
          rw [← hF.exec hok] at hx
          refine Run.step (fun b cs => step_op_unit ho (hF.wants_eq hw) hx) ?_
          rw [hd]
          exact r _ hF
        · cases hs
    · rename_i hw
      injection hs with hs; injection hs with h1 h2; subst h1; subst h2
      exact skip _ hd hw (r _ hF)
    · cases hs

theorem bstep_sound (hs : bstep P n k L w = some (k', L', w')) (r : RunF P R f k' n L' w' D) : RunF P R f k n L w D := by
  unfold bstep at hs
  split at hs
  · injection hs with hs; injection hs with h1 h2; injection h2 with h2 h3; subst h1; subst h2; subst h3
    exact fun a hF => Run.step (fun b cs => step_skip) (r a hF)
  · injection hs with hs; injection hs with h1 h2; injection h2 with h2 h3; subst h1; subst h2; subst h3
    exact fun a hF => Run.step (fun b cs => step_label) (r a hF)
  · injection hs with hs; injection hs with h1 h2; injection h2 with h2 h3; subst h1; subst h2; subst h3
    exact fun a hF => Run.step (fun b cs => step_inBlock) (r a hF)
  · injection hs with hs; injection hs with h1 h2; injection h2 with h2 h3; subst h1; subst h2; subst h3
    exact fun a hF => Run.step (fun b cs => step_inScope) (r a hF)
  · injection hs with hs; injection hs with h1 h2; injection h2 with h2 h3; subst h1; subst h2; subst h3
    exact fun a hF => Run.step (fun b cs => step_seq) (r a hF)
  · rename_i c x y k1
    cases hh : has L c with
    | false => rw [hh] at hs; cases hs
    | true =>
      rw [hh, cond_true] at hs
      split at hs
      · rename_i b0 hb
        injection hs with hs; injection hs with h1 h2; injection h2 with h2 h3; subst h1; subst h2; subst h3
        exact fun a hF => Run.step (fun b cs => step_cond (by rw [hF.eval_eq hh, hb])) (r a hF)
      · cases hs
  · injection hs with hs; injection hs with h1 h2; injection h2 with h2 h3; subst h1; subst h2; subst h3
    exact fun a hF => Run.step (fun b cs => step_block) (r a hF)
  · injection hs with hs; injection hs with h1 h2; injection h2 with h2 h3; subst h1; subst h2; subst h3
    exact fun a hF => Run.step (fun b cs => step_loop) (r a hF)
  · injection hs with hs; injection hs with h1 h2; injection h2 with h2 h3; subst h1; subst h2; subst h3
    exact fun a hF => Run.step (fun b cs => step_inLoop) (r a hF)
  · injection hs with hs; injection hs with h1 h2; injection h2 with h2 h3; subst h1; subst h2; subst h3
    exact fun a hF => Run.step (fun b cs => step_scope) (r a hF)
  · split at hs
    · rename_i hx
      injection hs with hs; injection hs with h1 h2; injection h2 with h2 h3; subst h1; subst h2; subst h3
      exact fun a hF => Run.step (fun b cs => step_exit hx) (r a hF)
    · cases hs
  · split at hs
    · rename_i hx
      injection hs with hs; injection hs with h1 h2; injection h2 with h2 h3; subst h1; subst h2; subst h3
      exact fun a hF => Run.step (fun b cs => step_goto hx) (r a hF)
    · cases hs
  · injection hs with hs; injection hs with h1 h2; injection h2 with h2 h3; subst h1; subst h2; subst h3
    exact fun a hF => Run.step (fun b cs => step_region) (r a hF)
  · injection hs with hs; injection hs with h1 h2; injection h2 with h2 h3; subst h1; subst h2; subst h3
    exact fun a hF => Run.step (fun b cs => step_region_end) (r a hF)
  · split at hs
    · rename_i o ho
      split at hs
      · rename_i L1 w1 hx
        injection hs with hs; injection hs with h1 h2; injection h2 with h2 h3; subst h1; subst h2; subst h3
        exact opStep_sound ho hx r
      · cases hs
    · cases hs
  · cases hs

def bulk (P : Program) (n : Nat) : Nat → List Item → Env → World → Option (List Item × Env × World)
  | 0, k, L, w => some (k, L, w)
  | m + 1, k, L, w => match bstep P n k L w with
    | some (k', L', w') => bulk P n m k' L' w'
    | none => none

theorem bulk_sound : ∀ {m : Nat} {k : List Item} {L : Env} {w : World}, bulk P n m k L w = some (k', L', w') → RunF P R f k' n L' w' D → RunF P R f k n L w D
  | 0, k, L, w, h, r => by
    unfold bulk at h
    injection h with hs; injection hs with h1 h2; injection h2 with h2 h3; subst h1; subst h2; subst h3
    exact r
  | m + 1, k, L, w, h, r => by
    unfold bulk at h
    split at h
    · rename_i k1 L1 w1 hx
      exact bstep_sound hx (bulk_sound h r)
    · cases h

def sel (L : Env) : List Nat → Option Env
  | [] => some []
  | t :: r => match lk L t with
    | some v => match sel L r with
      | some M => some ((t, v) :: M)
      | none => none
    | none => none

theorem sel_mem {L : Env} : ∀ {ts : List Nat} {M : Env}, sel L ts = some M → ∀ p ∈ M, p ∈ L
  | [], M, h, p, hp => by unfold sel at h; injection h with h; subst h; cases hp
  | t :: r, M, h, p, hp => by
    unfold sel at h
    split at h
    · rename_i v hv
      split at h
      · rename_i M1 hM
        injection h with h; subst h
        rcases List.mem_cons.1 hp with rfl | hp
        · exact lk_mem hv
        · exact sel_mem hM p hp
      · cases h
    · cases h

theorem RunF.sub {L' : Env} (r : RunF P R f k n L' w D) (h : ∀ p ∈ L', p ∈ L) : RunF P R f k n L w D := fun a hF => r a (hF.sub h)

end

def at_ : Code → List Nat → List Item → List Item
  | c, [], k => .code c :: k
  | .seq x y, 0 :: p, k => at_ x p (.code y :: k)
  | .seq _ y, _ :: p, k => at_ y p k
  | .cond _ x _, 0 :: p, k => at_ x p k
  | .cond _ _ y, _ :: p, k => at_ y p k
  | .block id c, _ :: p, k => at_ c p (.inBlock id :: k)
  | .loop c, _ :: p, k => at_ c p (.inLoop c :: k)
  | .scope c, _ :: p, k => at_ c p (.inScope c :: k)
  | _, _, k => k

theorem at_nil (c : Code) (k : List Item) : at_ c [] k = .code c :: k := by cases c <;> rfl

def bodyOf (fn : Func) : Code := match fn.body with | some c => c | none => .skip

def pl (fn : Func) (p : List Nat) : List Item := at_ (bodyOf fn) p []

def inside (i : Nat) : List Item → List Item
  | .code (.region _ ops _) :: k => .inRegion ops ((List.range ops.size).drop i) :: k
  | k => k

def argsEnv : Nat → List Value → Env
  | _, [] => []
  | i, v :: r => (i, v) :: argsEnv (i + 1) r

theorem argsEnv_mem : ∀ {vs : List Value} {i : Nat} {p : Nat × Value}, p ∈ argsEnv i vs → ∃ j, p.1 = i + j ∧ vs[j]? = some p.2
  | [], _, p, h => by cases h
  | v :: r, i, p, h => by
    unfold argsEnv at h
    rcases List.mem_cons.1 h with rfl | h
    · exact ⟨0, rfl, rfl⟩
    · obtain ⟨j, h1, h2⟩ := argsEnv_mem h
      exact ⟨j + 1, by omega, h2⟩

theorem calls_of {P : Program} {R : Ending → World → Prop} {f : FuncId} {fn : Func} {w : World} (vs : List Value) (hf : P.funcs[f]? = some fn) (hb : fn.body = some (bodyOf fn)) (hn_ : Nat.ble vs.length fn.ntmps = true)
    (h : RunF P R f (pl fn []) fn.ntmps (argsEnv 0 vs) w) : Calls P f vs.toArray w R := by
  have hn : vs.length ≤ fn.ntmps := Nat.le_of_ble_eq_true hn_
  refine Calls_of_Run hf hb (at_nil (bodyOf fn) [] ▸ h { tmps := vs.toArray ++ Array.replicate (fn.ntmps - vs.toArray.size) undef, defers := [] } ⟨?_, rfl, ?_⟩)
  · simp; omega
  · intro p hp
    obtain ⟨j, h1, h2⟩ := argsEnv_mem hp
    have hj : j < vs.length := (List.getElem?_eq_some_iff.1 h2).1
    rw [h1, Nat.zero_add, Array.getElem?_append_left (by simpa using hj)]
    simpa using h2

def known (L : Env) (s : Nat) (b : Bool) : Env := (s, .bool b) :: del L s

theorem RunF.know {P : Program} {R : Ending → World → Prop} {f : FuncId} {k : List Item} {n : Nat} {L : Env} {w : World} (s : Nat) {t b : Bool} (hl : lk L s = some (.bool t)) (ht : t = b) (r : RunF P R f k n (known L s b) w D) : RunF P R f k n L w D := by
  subst ht
  refine r.sub fun p hp => ?_
  rcases List.mem_cons.1 hp with rfl | hp
  · exact lk_mem hl
  · exact (mem_del hp).1

def isRet : List Item → Bool
  | [] => true
  | .code .ret :: _ => true
  | _ => false

theorem isRet_spec {k : List Item} (h : isRet k = true) : k = [] ∨ ∃ r, k = .code .ret :: r := by
  unfold isRet at h
  split at h
  · exact .inl rfl
  · exact .inr ⟨_, rfl⟩
  · cases h

section
variable {P : Program} {R : Ending → World → Prop} {f : FuncId} {fn : Func} {k : List Item} {n : Nat} {L : Env} {w : World}
theorem RunF.ret0 (hf : P.funcs[f]? = some fn) (hr : fn.results = #[]) (hk : isRet k = true) (hR : R (.returned (.tuple #[])) w) : RunF P R f k n L w :=
  fun a hF => Run.ends hf (isRet_spec hk) hF.defs (by rw [results_none hr]) hR
theorem RunF.ret1 (t : Nat) (v : Value) (hf : P.funcs[f]? = some fn) (hr : fn.results = #[.tmp t]) (hk : isRet k = true) (hl : lk L t = some v) (hR : R (.returned v) w) : RunF P R f k n L w :=
  fun a hF => Run.ends hf (isRet_spec hk) hF.defs (by rw [results_tmp hr]; simp [hF.look hl]) hR
theorem RunF.ret2 (t u : Nat) (v x : Value) (hf : P.funcs[f]? = some fn) (hr : fn.results = #[.tmp t, .tmp u]) (hk : isRet k = true) (hl : lk L t = some v) (hx : lk L u = some x) (hR : R (.returned (.tuple #[v, x])) w) : RunF P R f k n L w :=
  fun a hF => Run.ends hf (isRet_spec hk) hF.defs (by rw [results_tmp2 hr]; simp [hF.look hl, hF.look hx]) hR
theorem RunF.ret3 (t u s : Nat) (v x y : Value) (hf : P.funcs[f]? = some fn) (hr : fn.results = #[.tmp t, .tmp u, .tmp s]) (hk : isRet k = true) (hl : lk L t = some v) (hx : lk L u = some x) (hy : lk L s = some y) (hR : R (.returned (.tuple #[v, x, y])) w) : RunF P R f k n L w :=
  fun a hF => Run.ends hf (isRet_spec hk) hF.defs (by rw [results_tmp3 hr]; simp [hF.look hl, hF.look hx, hF.look hy]) hR
end

end Go.Scr
