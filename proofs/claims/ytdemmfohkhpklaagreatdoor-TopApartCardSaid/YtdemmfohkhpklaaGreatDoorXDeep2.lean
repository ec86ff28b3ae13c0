/- Copies; rows of arrays. -/
import Derived.Test.YtdemmfohkhpklaaGreatDoorXDeep
import Derived.Laws.CopyRow
import Derived.Laws.IdiomCopy
/- Copies; rows of arrays; parts of variables. -/
set_option linter.unnecessarySimpa false
set_option linter.unusedVariables false
set_option linter.unusedSimpArgs false
namespace Go.Scr
open Go.RowKit (Below)
variable {D : List Deferred}

section
variable {P : Program} {R : Ending → World → Prop} {f : FuncId} {k k2 : List Item} {n : Nat} {ops : Array Oper} {S : World → Prop} {L L' : Env} {w w0 W w' : World} {fuel : Nat} {dn : List Nat} {H : List Ent}

def cpAt (P : Program) (n : Nat) (k : List Item) (L : Env) : Option (Option Nat × Value × Value × List Item) :=
  match cur n k L with
  | some (o, k2) => match o.op with
    | .call c => match c.callee, c.args.toList, c.argTypes.toList with
      | .builtin .copy, [s, x], [t, _] => (match P.underlying t with
        | some (.slice e) => match P.info? e with
          | some info => bif Nat.beq info.size 1 then some (o.dst, ev L s, ev L x, k2) else none
          | none => none
        | _ => none)
      | _, _, _ => none
    | _ => none
  | none => none

theorem cpAt_spec {d : Option Nat} {vs vx : Value} (h : cpAt P n k L = some (d, vs, vx, k2)) : ∃ o c t t' s x e, cur n k L = some (o, k2) ∧ o.dst = d ∧ o.op = .call c ∧ c.callee = .builtin .copy ∧ c.args = #[s, x] ∧ c.argTypes = #[t, t'] ∧ P.underlying t = some (.slice e) ∧ (P.info? e).map (·.size) = some 1 ∧ ev L s = vs ∧ ev L x = vx := by
  unfold cpAt at h
  split at h
  · rename_i o k3 hcur
    split at h
    · rename_i c hop
      split at h
      · rename_i s x t t' hcal hargs htys
        split at h
        · rename_i e hu
          split at h
          · rename_i info hi
            cases h1 : Nat.beq info.size 1 with
            | false => rw [h1] at h; cases h
            | true =>
              rw [h1, cond_true] at h
              injection h with h; injection h with g1 g2; injection g2 with g2 g3; injection g3 with g3 g4
              subst g4
              refine ⟨o, c, t, t', s, x, e, hcur, g1, hop, hcal, ?_, ?_, hu, by rw [hi]; simp [Nat.eq_of_beq_eq_true h1], g2, g3⟩
              · rw [← Array.toArray_toList (xs := c.args), hargs]
              · rw [← Array.toArray_toList (xs := c.argTypes), htys]
          · cases h
        · cases h
      · cases h
    · cases h
  · cases h

theorem grown_setRow (w : World) (g : Nat) (cs : Array Value) : w.grownBy (w.setRow g cs) (some g) := by
  refine ⟨rfl, rfl, rfl, by simp, fun b hlt hne => ?_⟩
  exact setRow_other w g b cs (fun e => hne (by rw [e]))

theorem cp_does {d : Option Nat} {ty : TypeId} {A A2 : Option Addr} {m c m2 c2 : Nat} {cs ys : List Value} (H1 H2 : List Ent) (h : cpAt P n k L = some (d, .slice A m c, .slice A2 m2 c2, k2))
    (hM : Mem w0 w (H1 ++ ⟨.slice A m c, ty, 1, cs⟩ :: H2)) (hR : Rd w (.slice A2 m2 c2) ys) (h1 : ∀ u ∈ ys, oneC u = true) :
    ∃ W1, Does P n k L w d (.int .i64 ((min m2 m : Nat) : Int)) W1 k2 ∧ Mem w0 W1 (H1 ++ ⟨.slice A m c, ty, 1, ys.take cs.length ++ cs.drop ys.length⟩ :: H2) ∧ Still w [.slice A m c] W1 := by
  obtain ⟨o, cl, t, t', s, x, e, hcur, hd, hop, hcal, hargs, htys, hu, hi, hvs, hvx⟩ := cpAt_spec h
  have hown : w.ownsRow 0 ty 1 (.slice A m c) m cs := (hM.ok _ (List.mem_append_right _ List.mem_cons_self)).1
  obtain ⟨hr1, hr2, hr3⟩ := hR
  have hcl : cs.length = m := by have := hown.1; omega
  have hone : ∀ u ∈ ys.take m, u.oneCell' = true := fun u hu => by have := h1 u (List.mem_of_mem_take hu); cases u <;> first | rfl | cases this
  have hexec : ∀ {v' : Value} {w' : World}, (Builtin.copy_ #[t, t'] o.type #[.slice A m c, .slice A2 m2 c2]).run P w = .ok v' w' → Does P n k L w d v' w' k2 := by
    intro v' w' hrun
    refine ⟨o, hcur, hd, ?_⟩
    have hm : cl.args.map (ev L) = #[.slice A m c, .slice A2 m2 c2] := by simp [hargs, hvs, hvx]
    simp only [execOp, hop, resolve, hcal, htys, bind, Sem.bind, pure, invoke, builtin, hm]
    exact run_next hrun
  by_cases h0 : Nat.min m2 m = 0
  · have h0' : min m2 m = 0 := h0
    refine ⟨w, ?_, ?_, Still.refl _ _⟩
    · rw [h0']
      exact hexec (run_copy_none w t t' o.type e A A2 m c m2 c2 hu hi h0)
    · have e1 : ys.take cs.length ++ cs.drop ys.length = cs := by
        rw [hcl, hr1]
        rcases Nat.eq_zero_or_pos m2 with hm2 | hm2
        · subst hm2
          have : ys = [] := List.eq_nil_of_length_eq_zero hr1
          simp [this]
        · have hm0 : m = 0 := by omega
          subst hm0
          have : cs = [] := List.eq_nil_of_length_eq_zero hcl
          simp [this]
      rw [e1]; exact hM
  · have h0' : min m2 m ≠ 0 := h0
    have hp : 0 < m2 ∧ 0 < m := by omega
    rcases hown.2 with ⟨e1, e2⟩ | ⟨g, cap, cur, hv, hb, hg, hc1, hc2, hc3, hc4⟩
    · omega
    · injection hv with hv1 hv2 hv3
      subst hv1; subst hv3
      have hA2 : ∃ a, A2 = some a := by
        have hlt : 0 < ys.length := by omega
        obtain ⟨ad, ha, _⟩ := hr3 0 ys[0] (by simp [hlt])
        exact ⟨ad, ha⟩
      obtain ⟨a2, rfl⟩ := hA2
      have hln : (ys.take m).length = Nat.min m2 m := by
        rw [List.length_take, hr1, Nat.min_comm]
      have hln' : (ys.take m).length = min m2 m := hln
      have hrun := run_copy_row (P := P) w t t' o.type e g 0 m c a2 m2 c2 cur ty (ys.take m) hu hi hg hln (fun j v hj => by
        rw [List.getElem?_take] at hj
        split at hj
        · obtain ⟨ad, h3, h4⟩ := hr3 j v hj
          injection h3 with h3; subst h3; exact h4
        · cases hj) (by rw [hc3, hln']; omega) hone
      have hgo : (goInt (ys.take m).length : Value) = .int .i64 ((min m2 m : Nat) : Int) := by rw [hln']; rfl
      rw [hgo] at hrun
      refine ⟨_, hexec hrun, hM.grow (A' := some ⟨g, 0, none⟩) (m' := m) (c' := c) ?_ (grown_setRow w g _) (.inl rfl), ?_⟩
      · have hlc : cs.length = min m cur.size := by rw [← hc4]; simp
        refine ⟨?_, .inr ⟨g, c, _, rfl, Nat.zero_le _, setRow_heap w g cur _ ty (0, 0) hg, hc1, hc2, ?_, ?_⟩⟩
        · simp [hr1, hcl]; omega
        · simp [hln']; omega
        · simp only [List.take_zero, List.nil_append, Nat.mul_one, Nat.zero_add]
          rw [List.take_append, List.take_of_length_le (by rw [hln']; omega), List.take_drop, hcl, hln', hr1]
          congr 1
          have e3 : min m2 m + (m - min m2 m) = m := by omega
          rw [Nat.mul_one] at hc4
          rw [e3, hc4]
          rcases Nat.le_total m2 m with hle | hle
          · rw [Nat.min_eq_left hle]
          · rw [Nat.min_eq_right hle, List.drop_eq_nil_of_le (by omega), List.drop_eq_nil_of_le (by omega)]
      · refine ⟨by simp, fun b hlt hb => ?_⟩
        exact setRow_other w g b _ (fun e1 => hb (.slice (some ⟨g, 0, none⟩) m c) List.mem_cons_self (by rw [e1]; rfl))

theorem add_at (g b i : Nat) : (⟨g, b, none⟩ : Addr).add i = ⟨g, b + i, none⟩ := by
  unfold Addr.add; split
  · subst_vars; rfl
  · rfl

theorem Rd.isnil {A : Option Addr} {m c : Nat} {cs : List Value} (h : Rd W (.slice A m c) cs) : A = none ∧ cs = [] ∨ ∃ a, A = some a := by
  cases A with
  | some a => exact .inr ⟨a, rfl⟩
  | none =>
    refine .inl ⟨rfl, ?_⟩
    cases cs with
    | nil => rfl
    | cons u r => obtain ⟨ad, h3, _⟩ := h.2.2 0 u rfl; cases h3
theorem nums_take (k : IntKind) (xs : List Int) (n : Nat) : (nums k xs).take n = nums k (xs.take n) := by simp [nums, List.map_take]
theorem nums_drop (k : IntKind) (xs : List Int) (n : Nat) : (nums k xs).drop n = nums k (xs.drop n) := by simp [nums, List.map_drop]
end
end Go.Scr
