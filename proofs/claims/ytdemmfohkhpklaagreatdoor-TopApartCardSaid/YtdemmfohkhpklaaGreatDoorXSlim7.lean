/- Laws of single steps, short. -/
import Derived.Test.YtdemmfohkhpklaaGreatDoorXSlim6
import Derived.Recover
/- The laws told shortly: calls that are put off to the end. -/
set_option linter.unnecessarySimpa false
set_option linter.unusedVariables false
set_option linter.unusedSimpArgs false
namespace Go.Scr
open Go.RowKit (Below)
variable {D : List Deferred}
section
variable {P : Program} {R : Ending → World → Prop} {f : FuncId} {n : Nat} {S : Sta} {w w' w0 : World} {H : List Ent} {Fs : List (List Ent)} {T : Value → World → Prop}
def defAt (P : Program) (n : Nat) (S : Sta) (w : World) : Option (Deferred × World) :=
  match cur n S.1 S.2 with
  | some (o, _) => match (execOp (ev S.2) o).run P w with
    | .ok (.defer d) w' => some (d, w')
    | _ => none
  | none => none
theorem RunS.df {d : Deferred} (r : RunS P R f n (af n S undef) w (d :: D)) (h : defAt P n S w = some (d, w) := by kernel_rfl) : RunS P R f n S w D := by
  unfold defAt at h
  split at h
  · rename_i o k2 hcur
    split at h
    · rename_i d' w1 hx
      injection h with h; injection h with h1 h2; subst h1; subst h2
      have e1 : kS n S = k2 := by unfold kS; rw [hcur]
      have e2 : dS n S = o.dst := dS_of hcur
      obtain ⟨r⟩ := r
      have r' : RunF P R f k2 n (upd S.2 o.dst undef) w1 (d' :: D) := by rw [← e1, ← e2]; exact r
      obtain ⟨ops, i, rest, k', hk, rfl, ho, hd, hw, hok⟩ := cur_spec hcur
      refine ⟨?_⟩
      intro a hF
      rw [← hF.exec hok] at hx
      have hF' : Fr n ({ a with defers := d' :: a.defers }.put o.dst undef) (upd S.2 o.dst undef) (d' :: D) := by
        have h0 : Fr n { a with defers := d' :: a.defers } S.2 (d' :: D) := ⟨hF.size, by rw [hF.defs], hF.at_⟩
        exact h0.put o.dst undef hd
      rw [hk]
      refine Run.step (fun b cs => ?_) (r' _ hF')
      have hg := stepG_op (P := P) (b := b) (k := k') (cs := cs) (w := w1) (rest := rest) ho (hF.wants_eq hw)
      refine step_lone_go ?_
      have : ({ b.at a (.inRegion ops (i :: rest) :: k') with defers := d' :: a.defers } : Frame).finish undef =
          b.at ({ a with defers := d' :: a.defers }.put o.dst undef) (.inRegion ops rest :: k') := by
        have := Frame.finish_at b { a with defers := d' :: a.defers } ops i rest k' undef
        rw [ho] at this; exact this
      rw [hg]; simp only [stepG.apply, Sem.runT_eq, hx, GStep.bare_after]
      exact congrArg (fun fr => GStep.go { frame := fr, callers := cs, status := .running, dying := none } w1) this
    · cases h
  · cases h
theorem RunS.rl {fn : Func} (hf : P.funcs[f]? = some fn) (hL : ∀ tmps : Array Value, (∀ p ∈ S.2, tmps[p.1]? = some p.2) → Leaves P fn tmps R D .returning w) (h : isRet S.1 = true) : RunS P R f n S w D := by
  refine ⟨fun a hF b cs hb hkd => ?_⟩
  have key := leaves_steps (P := P) (fn := fn) (tmps := a.tmps) (R := R) D .returning w { b.at a S.1 with mode := .returning } cs rfl hF.defs rfl (by rw [show ({ b.at a S.1 with mode := .returning } : Frame).fn = f from hb]; exact hf) hkd (hL a.tmps hF.at_)
  obtain ⟨e, w2, fr, h1, h2, h3, h4⟩ := key
  refine ⟨e, w2, fr, h1, Comes.of_steps (.one ?_) h2, h3.trans hb, h4⟩
  rcases isRet_spec h with h | ⟨r, h⟩
  · rw [h]; exact step_end
  · rw [h]; exact step_ret
theorem results_cell2 {fn : Func} {a b : Tmp} {ta tb : TypeId} (h : fn.results = #[.cell a ta, .cell b tb]) (tmps : Array Value) (w : World) {p q : Addr} {v x : Value} (ha : tmps[a]? = some (.pointer (some p))) (hb : tmps[b]? = some (.pointer (some q)))
    (h1 : scalarT P ta = true) (h2 : scalarT P tb = true) (hv : w.cell? p = some v) (hx : w.cell? q = some x) : (results fn tmps).run P w = .ok (.tuple #[v, x]) w := by
  simp [results, h, ha, hb, asAddr, run_loadVar1 h1 hv, run_loadVar1 h2 hx]
theorem RunS.rd {fn : Func} {t1 t2 : TypeId} {g1 g2 q : Nat} {args : Array Value} {v x : Value} (hf : P.funcs[f]? = some fn) (a : Nat) (ta : TypeId) (b : Nat) (tb : TypeId) (hM : Mem w0 w (Gs H Fs)) (j1 j2 : Nat) (hj1 : H[j1]? = some ⟨.pointer (some ⟨g1, 0, none⟩), t1, 0, [v]⟩) (hj2 : H[j2]? = some ⟨.pointer (some ⟨g2, 0, none⟩), t2, 0, [x]⟩)
    (hD : CallsD P q args .returning w (fun e u' w' => ∃ y, e = .returned y ∧ u' = .returning ∧ w' = w)) (hR : T (.tuple #[v, x]) w)
    (hs : fn.results = #[.cell a ta, .cell b tb]) (h : (isRet S.1, lk S.2 a, lk S.2 b, scalarT P ta, scalarT P tb) = (true, some (.pointer (some ⟨g1, 0, none⟩)), some (.pointer (some ⟨g2, 0, none⟩)), true, true)) (hi : (invoke (.fn (.func q) #[]) args).run P w = .ok (.enter q args) w) : RunS P (Ret T) f n S w [⟨.fn (.func q) #[], args⟩] := by
  injection h with h1 h; injection h with h2 h; injection h with h3 h; injection h with h4 h5
  refine RunS.rl hf (fun tmps ht => ?_) h1
  refine leaves_cons (by intro e; cases e) hi (hD.mono ?_)
  rintro e u' w' ⟨y, rfl, rfl, rfl⟩
  refine ⟨_, results_cell2 hs tmps w' (ht _ (lk_mem h2)) (ht _ (lk_mem h3)) h4 h5 (hM.var_at j1 (gs_at hj1) (i := 0) rfl).1 (hM.var_at j2 (gs_at hj2) (i := 0) rfl).1, ⟨_, rfl, hR⟩⟩
end
end Go.Scr
