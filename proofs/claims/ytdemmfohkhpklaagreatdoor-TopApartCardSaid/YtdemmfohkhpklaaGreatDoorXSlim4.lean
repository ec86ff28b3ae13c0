/- Laws of single steps, short. -/
import Derived.Test.YtdemmfohkhpklaaGreatDoorXSlim3
/- The laws told shortly: whole functions, loops, joins. -/
set_option linter.unnecessarySimpa false
set_option linter.unusedVariables false
set_option linter.unusedSimpArgs false
namespace Go.Scr
open Go.RowKit (Below)
variable {D : List Deferred}
section
variable {P : Program} {R : Ending → World → Prop} {f : FuncId} {k : List Item} {n : Nat} {S : Sta} {ops : Array Oper} {w w' w0 W W' : World} {H H' E : List Ent} {Fs Fs' : List (List Ent)} {T : Value → World → Prop} {js js' : List Nat} {Z Z' : List Nat × Env}
theorem calls_S {fn : Func} {vs : List Value} (hf : P.funcs[f]? = some fn) (r : RunS P R f fn.ntmps (pl fn [], argsEnv 0 vs) w) (h : (fn.body, Nat.ble vs.length fn.ntmps) = (some (bodyOf fn), true) := by kernel_rfl) : Calls P f vs.toArray w R := by
  injection h with h1 h2
  exact calls_of vs hf h1 h2 r.o
theorem loopI {M : Nat → Prop} {k : Nat} (h0 : M 0) (h : ∀ j, j < k → (∀ m, m ≤ j → M m) → M (j + 1)) : ∀ k_, k_ ≤ k → M k_ := by
  intro k_
  induction k_ using Nat.strongRecOn with
  | _ k_ ih =>
    intro hk
    cases k_ with
    | zero => exact h0
    | succ j => exact h j hk fun m hm => ih m (Nat.lt_succ_of_le hm) (by omega)
theorem bz {α β : Type} {x y : α} {g : α → Option β} {r : β} (h : (some x).bind g = some r) (e : x = y) : g y = some r := e ▸ h
theorem Mem.r0 (w : World) : Mem w w (Gs [] []) := Mem.refl w
theorem Oks.g {Fs : List (List Ent)} {F : List Ent} (h : Oks Fs.flatten W) (j : Nat) (hj : Fs[j]? = some F) : Oks F W := fun e he => h e (List.mem_flatten.2 ⟨F, List.mem_of_getElem? hj, he⟩)
def okQ (is js js' : List Nat) : Bool := js'.all fun j => match is[j]? with | some x => js.contains x | none => true
theorem pickG_get {α : Type} {l : List α} : ∀ {is : List Nat} {M : List α} {j : Nat} {e : α}, pickG l is = some M → M[j]? = some e → ∃ i, is[j]? = some i ∧ l[i]? = some e
  | [], M, j, e, h, he => by unfold pickG at h; injection h with h; subst h; cases he
  | i :: is, M, j, e, h, he => by
    unfold pickG at h
    split at h
    · rename_i x hx
      split at h
      · rename_i M1 hM1
        injection h with h; subst h
        cases j with
        | zero => injection he with he; subst he; exact ⟨i, rfl, hx⟩
        | succ j => exact pickG_get (j := j) hM1 he
      · cases h
    · cases h
theorem RunA.jn (hM : Mem w0 w (Gs H Fs)) (is : List Nat) (gs : List (List Nat)) (J : ∀ W, Mem w0 W (Gs H' Fs') → RunA P R f k n ops H' js' Z' W D) (hp : pickG H is = some H') (hq : pickJ Fs gs = some Fs')
    (h : ((distinct is && distinct gs.flatten), okQ is js js', maskOf Z.1, Nat.beq Z.1.length Z'.1.length, sel Z.2 (Z'.2.map Prod.fst)) = (true, true, maskOf Z'.1, true, some Z'.2) := by kernel_rfl) : RunA P R f k n ops H js Z w D := by
  injection h with h1 h; injection h with h2 h; injection h with h3 h; injection h with h4 h5
  have r := J w (hM.pm is gs hp hq h1)
  refine ⟨?_⟩
  intro a hF
  have r2 := r.o a (hF.sub (sel_mem h5))
  rw [← Nat.eq_of_beq_eq_true h4, ← lst_of_mask h3] at r2
  refine wpAnyH_weaken (fun w2 h' => ⟨h'.1, fun b hlt hg => h'.2 b hlt (fun v hv hb => ?_)⟩) _ _ _ _ r2
  obtain ⟨j, hj, e, he, rfl⟩ := mem_vals.1 hv
  obtain ⟨i, hi, hie⟩ := pickG_get hp he
  have := List.all_eq_true.1 h2 j hj
  rw [hi] at this
  exact hg e.v (mem_vals.2 ⟨i, List.contains_iff_mem.1 this, e, hie, rfl⟩) hb
end
end Go.Scr
