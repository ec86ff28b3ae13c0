/- What single steps of the program do. -/
import Derived.Test.YtdemmfohkhpklaaGreatDoorXMem
/- Operations whose outcome hangs on memory. -/
set_option linter.unnecessarySimpa false
set_option linter.unusedVariables false
set_option linter.unusedSimpArgs false
namespace Go.Scr
open Go.RowKit (Below)
variable {D : List Deferred}

def dstOk (n : Nat) : Option Nat → Bool
  | some d => Nat.blt d n
  | none => true

theorem dstOk_spec {n : Nat} {d : Option Nat} (h : dstOk n d = true) : ∀ t, d = some t → t < n := by
  intro t e; subst e; simpa [dstOk, Nat.blt_eq] using h

def cur (n : Nat) (k : List Item) (L : Env) : Option (Oper × List Item) :=
  match k with
  | .inRegion ops (i :: rest) :: k' =>
    match ops[i]? with
    | some o => bif dstOk n o.dst then (match wants ops L o with
      | some true => bif okOp L o then some (o, .inRegion ops rest :: k') else none
      | _ => none) else none
    | none => none
  | _ => none

section
variable {P : Program} {R : Ending → World → Prop} {f : FuncId} {k k2 : List Item} {n : Nat} {L : Env} {w w' : World} {o : Oper}

theorem cur_spec (h : cur n k L = some (o, k2)) : ∃ ops i rest k', k = .inRegion ops (i :: rest) :: k' ∧ k2 = .inRegion ops rest :: k' ∧ ops[i]? = some o ∧ (∀ t, o.dst = some t → t < n) ∧ wants ops L o = some true ∧ okOp L o = true := by
  unfold cur at h
  split at h
  · rename_i ops i rest k'
    split at h
    · rename_i o' ho
      cases hd : dstOk n o'.dst with
      | false => rw [hd] at h; cases h
      | true =>
        rw [hd, cond_true] at h
        split at h
        · rename_i hw
          cases hk : okOp L o' with
          | false => rw [hk] at h; cases h
          | true =>
            rw [hk, cond_true] at h
            injection h with h; injection h with h1 h2; subst h1
            exact ⟨ops, i, rest, k', rfl, h2.symm, ho, dstOk_spec hd, hw, hk⟩
        · cases h
    · cases h
  · cases h

theorem RunF.val {v : Value} (hc : cur n k L = some (o, k2)) (hr : (execOp (ev L) o).run P w = .ok (.value v) w') (r : RunF P R f k2 n (upd L o.dst v) w' D) : RunF P R f k n L w D := by
  obtain ⟨ops, i, rest, k', rfl, rfl, ho, hd, hw, hk⟩ := cur_spec hc
  intro a hF
  rw [← hF.exec hk] at hr
  exact Run.step (fun b cs => step_op_value ho (hF.wants_eq hw) hr) (r _ (hF.put o.dst v hd))

theorem RunF.unit (hc : cur n k L = some (o, k2)) (hr : (execOp (ev L) o).run P w = .ok .skip w') (r : RunF P R f k2 n (upd L o.dst undef) w' D) : RunF P R f k n L w D := by
  obtain ⟨ops, i, rest, k', rfl, rfl, ho, hd, hw, hk⟩ := cur_spec hc
  intro a hF
  rw [← hF.exec hk] at hr
  exact Run.step (fun b cs => step_op_unit ho (hF.wants_eq hw) hr) (r _ (hF.put o.dst undef hd))

def Yl (P : Program) (n : Nat) (k : List Item) (L : Env) (S : World → Prop) (d : Option Nat) (v : Value) (k2 : List Item) : Prop :=
  ∃ o, cur n k L = some (o, k2) ∧ o.dst = d ∧ ∀ w, S w → (execOp (ev L) o).run P w = .ok (.value v) w

def Does (P : Program) (n : Nat) (k : List Item) (L : Env) (w : World) (d : Option Nat) (v : Value) (w' : World) (k2 : List Item) : Prop :=
  ∃ o, cur n k L = some (o, k2) ∧ o.dst = d ∧ (execOp (ev L) o).run P w = .ok (.value v) w'

def DoesU (P : Program) (n : Nat) (k : List Item) (L : Env) (w : World) (d : Option Nat) (w' : World) (k2 : List Item) : Prop :=
  ∃ o, cur n k L = some (o, k2) ∧ o.dst = d ∧ (execOp (ev L) o).run P w = .ok .skip w'

theorem RunF.y {S : World → Prop} {d : Option Nat} {v : Value} (hy : Yl P n k L S d v k2) (hS : S w) (r : RunF P R f k2 n (upd L d v) w D) : RunF P R f k n L w D := by
  obtain ⟨o, hc, rfl, hr⟩ := hy
  exact RunF.val hc (hr w hS) r

theorem RunF.does {d : Option Nat} {v : Value} (hy : Does P n k L w d v w' k2) (r : RunF P R f k2 n (upd L d v) w' D) : RunF P R f k n L w D := by
  obtain ⟨o, hc, rfl, hr⟩ := hy
  exact RunF.val hc hr r

theorem RunF.doesU {d : Option Nat} (hy : DoesU P n k L w d w' k2) (r : RunF P R f k2 n (upd L d undef) w' D) : RunF P R f k n L w D := by
  obtain ⟨o, hc, rfl, hr⟩ := hy
  exact RunF.unit hc hr r

def Ret (S : Value → World → Prop) : Ending → World → Prop := fun e w' => ∃ v, e = .returned v ∧ S v w'

def callAt (P : Program) (n : Nat) (k : List Item) (L : Env) (w : World) : Option (Option Nat × FuncId × Array Value × List Item × World) :=
  match cur n k L with
  | some (o, k2) => match (execOp (ev L) o).run P w with
    | .ok (.enter g args) w' => some (o.dst, g, args, k2, w')
    | _ => none
  | none => none

theorem RunF.call {d : Option Nat} {g : FuncId} {args : Array Value} {S : Value → World → Prop} (h : callAt P n k L w = some (d, g, args, k2, w)) (hc : Calls P g args w (Ret S))
    (r : ∀ v w', S v w' → RunF P R f k2 n (upd L d v) w' D) : RunF P R f k n L w D := by
  unfold callAt at h
  split at h
  · rename_i o k3 hcur
    split at h
    · rename_i g' args' w1 hx
      injection h with h; injection h with h1 h2; injection h2 with h2 h3; injection h3 with h3 h4; injection h4 with h4 h5
      subst h1; subst h2; subst h3; subst h4; subst h5
      obtain ⟨ops, i, rest, k', rfl, rfl, ho, hd, hw, hk⟩ := cur_spec hcur
      intro a hF b cs hb hkd
      rw [← hF.exec hk] at hx
      obtain ⟨e, w2, fr, ⟨v, rfl, hS⟩, hcomes, hfn, hleave⟩ := hc (b.at a (.inRegion ops (i :: rest) :: k') :: cs)
      have hg := stepG_op (P := P) (b := b) (k := k') (cs := cs) (w := w1) (rest := rest) ho (hF.wants_eq hw)
      have hfin := Frame.finish_at b a ops i rest k' v
      rw [ho] at hfin
      simp only [Option.bind_some] at hfin
      have henter : step P (lone (b.at a (.inRegion ops (i :: rest) :: k')) cs w1) = .next (lone (Frame.enter P g' args' .normal) (b.at a (.inRegion ops (i :: rest) :: k') :: cs) w1) :=
        step_lone_go (by rw [hg]; simp [stepG.apply, hx, Frame.at])
      obtain ⟨e2, w3, fr2, h1, h2, h3⟩ := r v w2 hS _ (hF.put o.dst v hd) b cs hb hkd
      refine ⟨e2, w3, fr2, h1, Comes.of_steps (Steps.head henter (Steps.trans hcomes (.one ?_))) h2, h3⟩
      rw [← hfin]; exact step_leave_returned hleave
    · cases h
  · cases h

def idxAt (P : Program) (n : Nat) (k : List Item) (L : Env) : Option (Option Nat × Option Addr × Nat × Int × List Item) :=
  match cur n k L with
  | some (o, k2) => match o.op with
    | .indexAddr t x ix => match P.underlying t with
      | some (.slice e) => match P.info? e with
        | some info => match ev L x, ev L ix with
          | .slice A m _, .int _ i => bif Nat.beq info.size 1 then some (o.dst, A, m, i, k2) else none
          | _, _ => none
        | none => none
      | _ => none
    | _ => none
  | none => none

theorem idxAt_spec {d : Option Nat} {A : Option Addr} {m : Nat} {i : Int} (h : idxAt P n k L = some (d, A, m, i, k2)) : ∃ o t x ix e info c kd, cur n k L = some (o, k2) ∧ o.dst = d ∧ o.op = .indexAddr t x ix ∧ P.underlying t = some (.slice e) ∧ P.info? e = some info ∧ info.size = 1 ∧ ev L x = .slice A m c ∧ ev L ix = .int kd i := by
  unfold idxAt at h
  split at h
  · rename_i o k3 hcur
    split at h
    · rename_i t x ix hop
      split at h
      · rename_i e hu
        split at h
        · rename_i info hi
          split at h
          · rename_i A' m' c' kd i' hx hix
            cases hs : Nat.beq info.size 1 with
            | false => rw [hs] at h; cases h
            | true =>
              rw [hs, cond_true] at h
              injection h with h; injection h with h1 h2; injection h2 with h2 h3; injection h3 with h3 h4; injection h4 with h4 h5
              subst h2; subst h3; subst h4; subst h5
              exact ⟨o, t, x, ix, e, info, c', kd, hcur, h1, hop, hu, hi, Nat.eq_of_beq_eq_true hs, hx, hix⟩
          · cases h
        · cases h
      · cases h
    · cases h
  · cases h

theorem run_indexAt {t e : TypeId} {info : TypeInfo} {ad : Addr} {m c : Nat} {kd : IntKind} {i : Int} (hu : P.underlying t = some (.slice e)) (hi : P.info? e = some info) (hs : info.size = 1) (h0 : 0 ≤ i) (h1 : i < m) :
    (Instr.indexAt t (.slice (some ad) m c) (.int kd i)).run P w = .ok (.pointer (some (ad.add i.toNat))) w := by
  simp [Instr.indexAt, asIntOf, underlying, sizeOf, typeInfo, program, bind, Sem.bind, pure, Sem.run, hu, hi, hs, h0, h1]

theorem run_next {s : Sem Value} {v : Value} (h : s.run P w = .ok v w') : (do pure (Next.value (← s)) : Sem Next).run P w = .ok (.value v) w' := by
  rw [Sem.run_bind, h]; rfl

theorem run_nextu {s : Sem Unit} (h : s.run P w = .ok () w') : (do s; pure Next.skip : Sem Next).run P w = .ok .skip w' := by
  rw [Sem.run_bind, h]; rfl

theorem idx_y {d : Option Nat} {A : Option Addr} {m : Nat} {i : Int} {ad : Addr} (h : idxAt P n k L = some (d, A, m, i, k2)) (h0 : 0 ≤ i) (h1 : i < m) (hA : A = some ad) :
    Yl P n k L (fun _ => True) d (.pointer (some (ad.add i.toNat))) k2 := by
  obtain ⟨o, t, x, ix, e, info, c, kd, hcur, hd, hop, hu, hi, hs, hx, hix⟩ := idxAt_spec h
  subst hA
  refine ⟨o, hcur, hd, fun w _ => ?_⟩
  simp only [execOp, hop, hx, hix]
  exact run_next (run_indexAt hu hi hs h0 h1)

def idxArr (P : Program) (n : Nat) (k : List Item) (L : Env) : Option (Option Nat × Addr × Nat × Nat × Int × List Item) :=
  match cur n k L with
  | some (o, k2) => match o.op with
    | .indexAddr t x ix => match P.underlying t with
      | some (.array len e) => match P.info? e with
        | some info => match ev L x, ev L ix with
          | .pointer (some a), .int _ i => some (o.dst, a, len, info.size, i, k2)
          | _, _ => none
        | none => none
      | _ => none
    | _ => none
  | none => none

theorem idxArr_y {d : Option Nat} {a : Addr} {len sz : Nat} {i : Int} (h : idxArr P n k L = some (d, a, len, sz, i, k2)) (h0 : 0 ≤ i) (h1 : i < len) :
    Yl P n k L (fun _ => True) d (.pointer (some (a.add (i.toNat * sz)))) k2 := by
  unfold idxArr at h
  split at h
  · rename_i o k3 hcur
    split at h
    · rename_i t x ix hop
      split at h
      · rename_i len' e hu
        split at h
        · rename_i info hi
          split at h
          · rename_i a' kd i' hx hix
            injection h with h; injection h with h1' h2; injection h2 with h2 h3; injection h3 with h3 h4; injection h4 with h4 h5; injection h5 with h5 h6
            subst h2; subst h3; subst h4; subst h5; subst h6
            refine ⟨o, hcur, h1', fun w _ => ?_⟩
            simp only [execOp, hop, hx, hix]
            refine run_next ?_
            simp [Instr.indexAt, Instr.sureAddr, asIntOf, underlying, sizeOf, typeInfo, program, bind, Sem.bind, pure, Sem.run, hu, hi, h0, h1]
          · cases h
        · cases h
      · cases h
    · cases h
  · cases h

def scalarT (P : Program) (t : TypeId) : Bool :=
  match P.underlying t with
  | some (.struct _) => false
  | some (.array _ _) => false
  | some _ => true
  | none => false

def ldAt (P : Program) (n : Nat) (k : List Item) (L : Env) : Option (Option Nat × Addr × List Item) :=
  match cur n k L with
  | some (o, k2) => match o.op with
    | .load t x => bif scalarT P t then (match ev L x with
      | .pointer (some p) => some (o.dst, p, k2)
      | _ => none) else none
    | _ => none
  | none => none

theorem run_isAgg {t : TypeId} (h : scalarT P t = true) : (isAgg t).run P w = .ok false w := by
  unfold scalarT at h
  cases hu : P.underlying t with
  | none => rw [hu] at h; cases h
  | some d =>
    rw [hu] at h
    simp only [isAgg, underlying, program, bind, Sem.bind, pure, Sem.run, hu]
    cases d <;> first | rfl | cases h

theorem run_loadVar1 {t : TypeId} {p : Addr} {u : Value} (h : scalarT P t = true) (hc : w.cell? p = some u) : (loadVar t p).run P w = .ok u w := by
  unfold loadVar
  rw [Sem.run_bind, run_isAgg h]
  simp [Result.andThen, load, Sem.run, hc]

theorem ld_y {d : Option Nat} {p : Addr} (u : Value) (h : ldAt P n k L = some (d, p, k2)) : Yl P n k L (fun w => w.cell? p = some u) d u k2 := by
  unfold ldAt at h
  split at h
  · rename_i o k3 hcur
    split at h
    · rename_i t x hop
      cases hs : scalarT P t with
      | false => rw [hs] at h; cases h
      | true =>
        rw [hs, cond_true] at h
        split at h
        · rename_i p' hx
          injection h with h; injection h with h1 h2; injection h2 with h2 h3; subst h2; subst h3
          refine ⟨o, hcur, h1, fun w hc => ?_⟩
          simp only [execOp, hop, hx]
          refine run_next ?_
          simp only [Instr.loadAt, Instr.sureAddr, bind, Sem.bind, pure]
          exact run_loadVar1 hs hc
        · cases h
    · cases h
  · cases h

def oneC : Value → Bool
  | .agg _ => false
  | .tuple _ => false
  | _ => true

def stAt (P : Program) (n : Nat) (k : List Item) (L : Env) : Option (Addr × Value × List Item) :=
  match cur n k L with
  | some (o, k2) => match o.op with
    | .store t x v => match P.info? t with
      | some info => bif Nat.beq info.size 1 then (match ev L x with
        | .pointer (some p) => bif oneC (ev L v) then (match o.dst with | none => some (p, ev L v, k2) | some _ => none) else none
        | _ => none) else none
      | none => none
    | _ => none
  | none => none

theorem oneC_cells {v : Value} (h : oneC v = true) : v.cells = #[v] := by cases v <;> first | rfl | cases h

theorem run_store1 {p : Addr} {u v : Value} (hv : oneC v = true) (hc : w.cell? p = some u) (hf : w.frozen? p = false) : (store p v).run P w = .ok () (w.setCell p v) := by
  cases v <;> first | (cases hv; done) | simp [store, Sem.run, hc, hf]

theorem st_u {p : Addr} {u v : Value} (h : stAt P n k L = some (p, v, k2)) (hc : w.cell? p = some u) (hf : w.frozen? p = false) : DoesU P n k L w none (w.setCell p v) k2 := by
  unfold stAt at h
  split at h
  · rename_i o k3 hcur
    split at h
    · rename_i t x v' hop
      split at h
      · rename_i info hi
        cases hs : Nat.beq info.size 1 with
        | false => rw [hs] at h; cases h
        | true =>
          rw [hs, cond_true] at h
          split at h
          · rename_i p' hx
            cases ho : oneC (ev L v') with
            | false => rw [ho] at h; cases h
            | true =>
              rw [ho, cond_true] at h
              split at h
              · rename_i hd
                injection h with h; injection h with h1 h2; injection h2 with h2 h3; subst h1; subst h2; subst h3
                have hsz := Nat.eq_of_beq_eq_true hs
                refine ⟨o, hcur, hd, ?_⟩
                simp only [execOp, hop, hx]
                refine run_nextu ?_
                simp only [Instr.storeAt, Instr.sureAddr, storeVar, oneC_cells ho, sizeOf, typeInfo, program, bind, Sem.bind, pure, Sem.run, hi, hsz]
                simp only [List.size_toArray, List.length_cons, List.length_nil, ne_eq, not_true_eq_false, if_false, storeCells, bind, Sem.bind, Nat.zero_add]
                have := run_store1 (P := P) (w := w) ho hc hf
                simp only [Addr.add, if_true]
                rw [Sem.run_bind', this]
                rfl
              · cases h
          · cases h
      · cases h
    · cases h
  · cases h

def shAt (n : Nat) (k : List Item) (L : Env) : Option (Option Nat × Bool × IntKind × Int × Int × List Item) :=
  match cur n k L with
  | some (o, k2) => match o.op with
    | .binOp .shl _ x y _ => match ev L x, ev L y with
      | .int kd a, .int _ b => some (o.dst, true, kd, a, b, k2)
      | _, _ => none
    | .binOp .shr _ x y _ => match ev L x, ev L y with
      | .int kd a, .int _ b => some (o.dst, false, kd, a, b, k2)
      | _, _ => none
    | _ => none
  | none => none

def shl (k : IntKind) (x : Int) (n : Nat) : Int := k.wrap (x * 2 ^ n)
def shr (x : Int) (n : Nat) : Int := x.fdiv (2 ^ n)
def shlv (k : IntKind) (x y : Int) : Int := shl k x (min y.toNat k.bits)
def shrv (k : IntKind) (x y : Int) : Int := shr x (min y.toNat k.bits)

theorem sh_y {d : Option Nat} {b : Bool} {kd : IntKind} {x y : Int} (h : shAt n k L = some (d, b, kd, x, y, k2)) (h0 : decide (0 ≤ y) = true) : Yl P n k L (fun _ => True) d (.int kd (if b then shlv kd x y else shrv kd x y)) k2 := by
  have hy : ¬ y < 0 := by have := of_decide_eq_true h0; omega
  unfold shAt at h
  split at h
  · rename_i o k3 hcur
    split at h
    · rename_i t a c t2 hop
      split at h
      · rename_i kd' x' ky y' hx hyy
        injection h with h; injection h with h1 h2; injection h2 with h2 h3; injection h3 with h3 h4; injection h4 with h4 h5; injection h5 with h5 h6
        subst h2; subst h3; subst h4; subst h5; subst h6
        refine ⟨o, hcur, h1, fun w _ => ?_⟩
        simp only [execOp, hop, hx, hyy]
        refine run_next ?_
        simp [eqGuard, binOp, Op.shift, hy, bind, Sem.bind, pure, Sem.run, shlv, shl]
      · cases h
    · rename_i t a c t2 hop
      split at h
      · rename_i kd' x' ky y' hx hyy
        injection h with h; injection h with h1 h2; injection h2 with h2 h3; injection h3 with h3 h4; injection h4 with h4 h5; injection h5 with h5 h6
        subst h2; subst h3; subst h4; subst h5; subst h6
        refine ⟨o, hcur, h1, fun w _ => ?_⟩
        simp only [execOp, hop, hx, hyy]
        refine run_next ?_
        simp [eqGuard, binOp, Op.shift, hy, bind, Sem.bind, pure, Sem.run, shrv, shr]
      · cases h
    · cases h
  · cases h

def divAt (n : Nat) (k : List Item) (L : Env) : Option (Option Nat × Bool × IntKind × Int × Int × List Item) :=
  match cur n k L with
  | some (o, k2) => match o.op with
    | .binOp .quo _ x y _ => match ev L x, ev L y with
      | .int .i64 a, .int .i64 b => some (o.dst, true, .i64, a, b, k2)
      | .int .u32 a, .int .u32 b => some (o.dst, true, .u32, a, b, k2)
      | _, _ => none
    | .binOp .rem _ x y _ => match ev L x, ev L y with
      | .int .i64 a, .int .i64 b => some (o.dst, false, .i64, a, b, k2)
      | .int .u32 a, .int .u32 b => some (o.dst, false, .u32, a, b, k2)
      | _, _ => none
    | _ => none
  | none => none

theorem div_y {d : Option Nat} {b : Bool} {kd : IntKind} {x y : Int} (h : divAt n k L = some (d, b, kd, x, y, k2)) (h0 : decide (y = 0) = false) : Yl P n k L (fun _ => True) d (.int kd (if b then kd.wrap (x.tdiv y) else x.tmod y)) k2 := by
  have hy : ¬ y = 0 := of_decide_eq_false h0
  unfold divAt at h
  split at h
  · rename_i o k3 hcur
    split at h
    · rename_i t a c t2 hop
      split at h
      all_goals first
        | (cases h; done)
        | (rename_i x' y' hx hyy
           injection h with h; injection h with h1 h2; injection h2 with h2 h3; injection h3 with h3 h4; injection h4 with h4 h5; injection h5 with h5 h6
           subst h2; subst h3; subst h4; subst h5; subst h6
           refine ⟨o, hcur, h1, fun w _ => ?_⟩
           simp only [execOp, hop, hx, hyy]
           refine run_next ?_
           simp [eqGuard, binOp, Op.intDiv, hy, bind, Sem.bind, pure, Sem.run])
    · rename_i t a c t2 hop
      split at h
      all_goals first
        | (cases h; done)
        | (rename_i x' y' hx hyy
           injection h with h; injection h with h1 h2; injection h2 with h2 h3; injection h3 with h3 h4; injection h4 with h4 h5; injection h5 with h5 h6
           subst h2; subst h3; subst h4; subst h5; subst h6
           refine ⟨o, hcur, h1, fun w _ => ?_⟩
           simp only [execOp, hop, hx, hyy]
           refine run_next ?_
           simp [eqGuard, binOp, Op.intDiv, hy, bind, Sem.bind, pure, Sem.run])
    · cases h
  · cases h
end
end Go.Scr
