/- Laws of single steps, short. -/
import Derived.Test.YtdemmfohkhpklaaGreatDoorXSlim
/- The laws told shortly: elements, rows that are made, written, lengthened. -/
set_option linter.unnecessarySimpa false
set_option linter.unusedVariables false
set_option linter.unusedSimpArgs false
namespace Go.Scr
open Go.RowKit (Below)
variable {D : List Deferred}
section
variable {P : Program} {R : Ending → World → Prop} {f : FuncId} {k k2 : List Item} {n : Nat} {S : Sta} {L : Env} {w w' w0 W W' : World} {H H' E : List Ent} {Fs Fs' : List (List Ent)} {T : Value → World → Prop} {d : Option Nat}
variable {A : Option Addr} {m c : Nat} {i : Int} {p : Addr} {u : Value} {ty : TypeId} {cs : List Value}

def Cel (W : World) (A : Option Addr) (m : Nat) (i : Int) (p : Addr) (u : Value) : Prop := 0 ≤ i ∧ i < (m : Int) ∧ (∃ a, A = some a ∧ p = a.add i.toNat) ∧ W.cell? p = some u
theorem Cel.cc (C : Cel W A m i p u) : W.cell? p = some u := C.2.2.2
theorem Mem.cel (h : Mem w0 W (Gs H Fs)) (j : Nat) (hj : H[j]? = some ⟨.slice A m c, ty, 1, cs⟩) (h0 : 0 ≤ i) (h1 : i < (m : Int)) (hu : cs[i.toNat]? = some u) : ∃ p, Cel W A m i p u := by
  obtain ⟨g, hA, hc, _, _⟩ := h.row_at j (gs_at hj) hu
  exact ⟨⟨g, i.toNat, none⟩, h0, h1, ⟨_, hA, (add_zero_at _ _).symm⟩, hc⟩
theorem Mem.na {kd : IntKind} {xs : List Int} (h : Mem w0 W (Gs H Fs)) (j : Nat) (hj : H[j]? = some ⟨.slice A m c, ty, 1, nums kd xs⟩) (h0 : 0 ≤ i) (h1 : i < (m : Int)) : ∃ p, Cel W A m i p (.int kd (Scr.rd xs i)) :=
  h.cel j hj h0 h1 (nums_at h0 (by have := h.own_len j (gs_at hj); rw [nums_length] at this; omega))
theorem Mem.oa {xs : List SlV} (h : Mem w0 W (Gs H Fs)) (j : Nat) (hj : H[j]? = some ⟨.slice A m c, ty, 1, ones xs⟩) (h0 : 0 ≤ i) (h1 : i < (m : Int)) : ∃ p, Cel W A m i p (sv (Scr.rdo xs i)) :=
  h.cel j hj h0 h1 (ones_at h0 (by have := h.own_len j (gs_at hj); rw [ones_length] at this; omega))
theorem Rd.cel (h : Rd W (.slice A m c) cs) (h0 : 0 ≤ i) (h1 : i < (m : Int)) (hu : cs[i.toNat]? = some u) : ∃ p, Cel W A m i p u := by
  obtain ⟨_, _, h4⟩ := h
  obtain ⟨a, ha, hc⟩ := h4 _ _ hu
  exact ⟨_, h0, h1, ⟨a, ha, rfl⟩, hc⟩
theorem Rd.ln {kd : IntKind} {xs : List Int} (h : Rd W (.slice A m c) (nums kd xs)) : xs.length = m := by have := h.1; rwa [nums_length] at this
theorem Rd.lo {xs : List SlV} (h : Rd W (.slice A m c) (ones xs)) : xs.length = m := by have := h.1; rwa [ones_length] at this
theorem Rd.na {kd : IntKind} {xs : List Int} (h : Rd W (.slice A m c) (nums kd xs)) (h0 : 0 ≤ i) (h1 : i < (m : Int)) : ∃ p, Cel W A m i p (.int kd (Scr.rd xs i)) := h.cel h0 h1 (nums_at h0 (by have := h.ln; omega))
theorem Cel.re {u' : Value} (C : Cel W A m i p u) (h : Rd W' (.slice A m c) cs) (hu : cs[i.toNat]? = some u') : Cel W' A m i p u' := by
  obtain ⟨h0, h1, ⟨a, ha, rfl⟩, _⟩ := C
  obtain ⟨_, _, h4⟩ := h
  obtain ⟨a', ha', hc⟩ := h4 _ _ hu
  rw [ha] at ha'; injection ha' with ha'; subst ha'
  exact ⟨h0, h1, ⟨a, ha, rfl⟩, hc⟩
theorem Cel.rn {kd : IntKind} {xs : List Int} (C : Cel W A m i p u) (h : Rd W' (.slice A m c) (nums kd xs)) : Cel W' A m i p (.int kd (Scr.rd xs i)) := C.re h (nums_at C.1 (by have := h.ln; have := C.2.1; omega))
theorem Cel.ro {xs : List SlV} (C : Cel W A m i p u) (h : Rd W' (.slice A m c) (ones xs)) : Cel W' A m i p (sv (Scr.rdo xs i)) := C.re h (ones_at C.1 (by have := h.lo; have := C.2.1; omega))
theorem Mem.vel (h : Mem w0 W (Gs H Fs)) (j : Nat) {g : Nat} (hj : H[j]? = some ⟨.pointer (some ⟨g, 0, none⟩), ty, 0, cs⟩) {N : Nat} (h0 : 0 ≤ i) (h1 : i < (N : Int)) (hu : cs[i.toNat]? = some u) : ∃ p, Cel W (some ⟨g, 0, none⟩) N i p u :=
  ⟨⟨g, i.toNat, none⟩, h0, h1, ⟨_, rfl, (add_zero_at _ _).symm⟩, (h.var_at j (gs_at hj) hu).1⟩
theorem Mem.nv {kd : IntKind} {xs : List Int} (h : Mem w0 W (Gs H Fs)) (j : Nat) {g : Nat} (hj : H[j]? = some ⟨.pointer (some ⟨g, 0, none⟩), ty, 0, nums kd xs⟩) {N : Nat} (hN : xs.length = N) (h0 : 0 ≤ i) (h1 : i < (N : Int)) : ∃ p, Cel W (some ⟨g, 0, none⟩) N i p (.int kd (Scr.rd xs i)) := h.vel j hj h0 h1 (nums_at h0 (by omega))
theorem Mem.bv {xs : List Bool} (h : Mem w0 W (Gs H Fs)) (j : Nat) {g : Nat} (hj : H[j]? = some ⟨.pointer (some ⟨g, 0, none⟩), ty, 0, bools xs⟩) {N : Nat} (hN : xs.length = N) (h0 : 0 ≤ i) (h1 : i < (N : Int)) : ∃ p, Cel W (some ⟨g, 0, none⟩) N i p (.bool (Scr.rdb xs i)) := h.vel j hj h0 h1 (bools_at h0 (by omega))
theorem Mem.sv' {xs : List ByteArray} (h : Mem w0 W (Gs H Fs)) (j : Nat) {g : Nat} (hj : H[j]? = some ⟨.pointer (some ⟨g, 0, none⟩), ty, 0, strs xs⟩) {N : Nat} (hN : xs.length = N) (h0 : 0 ≤ i) (h1 : i < (N : Int)) : ∃ p, Cel W (some ⟨g, 0, none⟩) N i p (.string (Scr.rds xs i)) := h.vel j hj h0 h1 (strs_at h0 (by omega))
theorem Cel.vre {u' : Value} {g N : Nat} (C : Cel W (some ⟨g, 0, none⟩) N i p u) (h : Mem w0 W' (Gs H Fs)) (j : Nat) (hj : H[j]? = some ⟨.pointer (some ⟨g, 0, none⟩), ty, 0, cs⟩) (hu : cs[i.toNat]? = some u') : Cel W' (some ⟨g, 0, none⟩) N i p u' := by
  obtain ⟨h0, h1, ⟨a, ha, rfl⟩, _⟩ := C
  injection ha with ha; subst ha
  refine ⟨h0, h1, ⟨_, rfl, rfl⟩, ?_⟩
  rw [add_zero_at]; exact (h.var_at j (gs_at hj) hu).1
theorem Cel.vn {kd : IntKind} {xs : List Int} {g N : Nat} (C : Cel W (some ⟨g, 0, none⟩) N i p u) (h : Mem w0 W' (Gs H Fs)) (j : Nat) (hj : H[j]? = some ⟨.pointer (some ⟨g, 0, none⟩), ty, 0, nums kd xs⟩) (hN : xs.length = N) : Cel W' (some ⟨g, 0, none⟩) N i p (.int kd (Scr.rd xs i)) := C.vre h j hj (nums_at C.1 (by have := C.2.1; omega))
/- Laws of single operations (the kernel's part last). -/
theorem yl_ix (C : Cel W A m i p u) (h : idxAt P n k L = some (d, A, m, i, k2)) : Yl P n k L (fun _ => True) d (.pointer (some p)) k2 := by
  obtain ⟨h0, h1, ⟨a, ha, rfl⟩, _⟩ := C
  exact idx_y h h0 h1 ha
theorem yl_ia {g N : Nat} (C : Cel W (some ⟨g, 0, none⟩) N i p u) (h : idxArr P n k L = some (d, ⟨g, 0, none⟩, N, 1, i, k2)) : Yl P n k L (fun _ => True) d (.pointer (some p)) k2 := by
  obtain ⟨h0, h1, ⟨a, ha, rfl⟩, _⟩ := C
  injection ha with ha; subst ha
  rw [add_zero_at]; exact idxArr_own h h0 h1
theorem RunS.ix (C : Cel W A m i p u) (r : RunS P R f n (af n S (.pointer (some p))) w D) (h : idxAt P n S.1 S.2 = some (dS n S, A, m, i, kS n S) := by kernel_rfl) : RunS P R f n S w D := ⟨RunF.y (yl_ix C h) trivial r.o⟩
theorem RunS.ia {g N : Nat} (C : Cel W (some ⟨g, 0, none⟩) N i p u) (r : RunS P R f n (af n S (.pointer (some p))) w D) (h : idxArr P n S.1 S.2 = some (dS n S, ⟨g, 0, none⟩, N, 1, i, kS n S) := by kernel_rfl) : RunS P R f n S w D := ⟨RunF.y (yl_ia C h) trivial r.o⟩
theorem RunS.ld (hc : w.cell? p = some u) (r : RunS P R f n (af n S u) w D) (h : ldAt P n S.1 S.2 = some (dS n S, p, kS n S) := by kernel_rfl) : RunS P R f n S w D := ⟨RunF.y (ld_y u h) hc r.o⟩
theorem RunS.lc (C : Cel w A m i p u) (r : RunS P R f n (af n S u) w D) (h : ldAt P n S.1 S.2 = some (dS n S, p, kS n S) := by kernel_rfl) : RunS P R f n S w D := ⟨RunF.y (ld_y u h) C.cc r.o⟩
theorem RunS.lv (hM : Mem w0 w (Gs H Fs)) (j : Nat) {g : Nat} (hj : H[j]? = some ⟨.pointer (some ⟨g, 0, none⟩), ty, 0, cs⟩) (q : Nat) (hu : cs[q]? = some u) (r : RunS P R f n (af n S u) w D) (h : ldAt P n S.1 S.2 = some (dS n S, ⟨g, q, none⟩, kS n S) := by kernel_rfl) : RunS P R f n S w D := ⟨RunF.y (ld_y u h) (hM.var_at j (gs_at hj) hu).1 r.o⟩

theorem st_dst {v : Value} (h : stAt P n k L = some (p, v, k2)) : ∃ o, cur n k L = some (o, k2) ∧ o.dst = none := by
  unfold stAt at h
  split at h
  · rename_i o k3 hcur
    split at h
    · rename_i t x v' hop
      split at h
      · rename_i info hi
        cases hs : Nat.beq info.size 1 with
        | false => rw [hs] at h; cases h
        | true =>
          rw [hs, cond_true] at h
          split at h
          · rename_i p' hx
            cases ho : oneC (ev L v') with
            | false => simp [ho] at h
            | true =>
              simp only [ho, cond_true] at h
              split at h
              · rename_i hd
                injection h with h; injection h with h1 h2; injection h2 with h2 h3; subst h3
                exact ⟨o, hcur, hd⟩
              · cases h
          · cases h
      · cases h
    · cases h
  · cases h
theorem dS_of {o : Oper} (h : cur n S.1 S.2 = some (o, k2)) : dS n S = o.dst := by unfold dS; rw [h]
theorem RunS.du (hD : DoesU P n S.1 S.2 w none W' (kS n S)) (r : RunS P R f n (af n S undef) W' D) : RunS P R f n S w D := by
  have hd : dS n S = none := by obtain ⟨o, h1, h2, _⟩ := hD; rw [dS_of h1, h2]
  refine ⟨RunF.doesU hD ?_⟩
  have r' : RunF P R f (kS n S) n (upd S.2 (dS n S) undef) W' D := r.o
  rwa [hd] at r'
theorem cel_at (C : Cel W A m i p u) (hM : Mem w0 w (Gs H Fs)) (j : Nat) (hj : H[j]? = some ⟨.slice A m c, ty, 1, cs⟩) : ∃ g u0, A = some ⟨g, 0, none⟩ ∧ p = ⟨g, i.toNat, none⟩ ∧ w.cell? p = some u0 ∧ w.frozen? p = false ∧ i.toNat < cs.length := by
  obtain ⟨h0, h1, ⟨a, ha, rfl⟩, _⟩ := C
  have hl := hM.own_len j (gs_at hj)
  have hi : i.toNat < cs.length := by omega
  obtain ⟨g, hA, hc, hf, _⟩ := hM.row_at j (gs_at hj) (List.getElem?_eq_getElem hi)
  rw [ha] at hA; injection hA with hA; subst hA
  exact ⟨g, _, ha, add_zero_at _ _, by rw [add_zero_at]; exact hc, by rw [add_zero_at]; exact hf, hi⟩
theorem do_st {v : Value} (C : Cel W A m i p u) (hM : Mem w0 w (Gs H Fs)) (j : Nat) (hj : H[j]? = some ⟨.slice A m c, ty, 1, cs⟩) (h : stAt P n k L = some (p, v, k2)) :
    ∃ W', DoesU P n k L w none W' k2 ∧ Mem w0 W' (Gs (H.set j ⟨.slice A m c, ty, 1, cs.set i.toNat v⟩) Fs) ∧ ∀ G : List Value, .slice A m c ∈ G → Still w G W' := by
  obtain ⟨g, u0, hA, rfl, hc, hf, hi⟩ := cel_at C hM j hj
  refine ⟨_, st_u h hc hf, ?_, fun G hG => (Still.refl w G).set hG (by rw [hA]; rfl) v⟩
  rw [gs_set _ hj]
  exact Mem.set (e := ⟨.slice A m c, ty, 1, cs⟩) _ _ (gs_split hj ▸ hM) (g := g) (by rw [hA]; rfl) i.toNat hi v
theorem RunS.sn {kd : IntKind} {xs : List Int} (x : Int) (C : Cel W A m i p u) (hM : Mem w0 w (Gs H Fs)) (j : Nat) (hj : H[j]? = some ⟨.slice A m c, ty, 1, nums kd xs⟩)
    (r : ∀ W', Mem w0 W' (Gs (H.set j ⟨.slice A m c, ty, 1, nums kd (xs.set i.toNat x)⟩) Fs) → RunS P R f n (af n S undef) W' D) (h : stAt P n S.1 S.2 = some (p, .int kd x, kS n S) := by kernel_rfl) : RunS P R f n S w D := by
  obtain ⟨W', hD, hM', _⟩ := do_st C hM j hj h
  exact RunS.du hD (r W' (by rwa [nums_set] at hM'))
theorem do_sv {v : Value} {g q : Nat} (hM : Mem w0 w (Gs H Fs)) (j : Nat) (hj : H[j]? = some ⟨.pointer (some ⟨g, 0, none⟩), ty, 0, cs⟩) (hq : q < cs.length) (h : stAt P n k L = some (⟨g, q, none⟩, v, k2)) :
    ∃ W', DoesU P n k L w none W' k2 ∧ Mem w0 W' (Gs (H.set j ⟨.pointer (some ⟨g, 0, none⟩), ty, 0, cs.set q v⟩) Fs) ∧ ∀ G : List Value, .pointer (some ⟨g, 0, none⟩) ∈ G → Still w G W' := by
  obtain ⟨hc, hf⟩ := hM.var_at j (gs_at hj) (List.getElem?_eq_getElem hq)
  refine ⟨_, st_u h hc hf, ?_, fun G hG => (Still.refl w G).set hG rfl v⟩
  rw [gs_set _ hj]
  exact Mem.set (e := ⟨.pointer (some ⟨g, 0, none⟩), ty, 0, cs⟩) _ _ (gs_split hj ▸ hM) (g := g) rfl q hq v
theorem vp_of {g N : Nat} (C : Cel W (some ⟨g, 0, none⟩) N i p u) : p = ⟨g, i.toNat, none⟩ ∧ i.toNat < N := by
  obtain ⟨h0, h1, ⟨a, ha, rfl⟩, _⟩ := C
  injection ha with ha; subst ha
  exact ⟨add_zero_at _ _, by omega⟩
theorem RunS.vn {kd : IntKind} {xs : List Int} {g N : Nat} (x : Int) (C : Cel W (some ⟨g, 0, none⟩) N i p u) (hM : Mem w0 w (Gs H Fs)) (j : Nat) (hj : H[j]? = some ⟨.pointer (some ⟨g, 0, none⟩), ty, 0, nums kd xs⟩) (hN : xs.length = N)
    (r : ∀ W', Mem w0 W' (Gs (H.set j ⟨.pointer (some ⟨g, 0, none⟩), ty, 0, nums kd (xs.set i.toNat x)⟩) Fs) → RunS P R f n (af n S undef) W' D) (h : stAt P n S.1 S.2 = some (p, .int kd x, kS n S) := by kernel_rfl) : RunS P R f n S w D := by
  obtain ⟨rfl, hi⟩ := vp_of C
  obtain ⟨W', hD, hM', _⟩ := do_sv hM j hj (by rw [nums_length]; omega) h
  exact RunS.du hD (r W' (by rwa [nums_set] at hM'))
theorem RunS.vb {xs : List Bool} {g N : Nat} (x : Bool) (C : Cel W (some ⟨g, 0, none⟩) N i p u) (hM : Mem w0 w (Gs H Fs)) (j : Nat) (hj : H[j]? = some ⟨.pointer (some ⟨g, 0, none⟩), ty, 0, bools xs⟩) (hN : xs.length = N)
    (r : ∀ W', Mem w0 W' (Gs (H.set j ⟨.pointer (some ⟨g, 0, none⟩), ty, 0, bools (xs.set i.toNat x)⟩) Fs) → RunS P R f n (af n S undef) W' D) (h : stAt P n S.1 S.2 = some (p, .bool x, kS n S) := by kernel_rfl) : RunS P R f n S w D := by
  obtain ⟨rfl, hi⟩ := vp_of C
  obtain ⟨W', hD, hM', _⟩ := do_sv hM j hj (by rw [bools_length]; omega) h
  exact RunS.du hD (r W' (by rwa [bools_set] at hM'))
theorem RunS.vf {g : Nat} (q : Nat) (v : Value) (hM : Mem w0 w (Gs H Fs)) (j : Nat) (hj : H[j]? = some ⟨.pointer (some ⟨g, 0, none⟩), ty, 0, cs⟩) (r : ∀ W', Mem w0 W' (Gs (H.set j ⟨.pointer (some ⟨g, 0, none⟩), ty, 0, cs.set q v⟩) Fs) → RunS P R f n (af n S undef) W' D)
    (h : (stAt P n S.1 S.2, Nat.blt q cs.length) = (some (⟨g, q, none⟩, v, kS n S), true) := by kernel_rfl) : RunS P R f n S w D := by
  injection h with h h2
  obtain ⟨W', hD, hM', _⟩ := do_sv hM j hj (Nat.le_of_ble_eq_true h2) h
  exact RunS.du hD (r W' hM')
theorem do_sw {g N : Nat} {new : List Value} (hM : Mem w0 w (Gs H Fs)) (j : Nat) (hj : H[j]? = some ⟨.pointer (some ⟨g, 0, none⟩), ty, 0, cs⟩) (hl : cs.length = N) (hn : new.length = N) (h1 : new.toArray.all (·.oneCell') = true) (h : stvAt P n k L N = some (g, new.toArray, k2)) :
    ∃ W', DoesU P n k L w none W' k2 ∧ Mem w0 W' (Gs (H.set j ⟨.pointer (some ⟨g, 0, none⟩), ty, 0, new⟩) Fs) ∧ ∀ G : List Value, .pointer (some ⟨g, 0, none⟩) ∈ G → Still w G W' := by
  refine ⟨_, stv_u h (by rw [List.size_toArray]; exact hn) (hM.block j (gs_at hj)) (by rw [List.size_toArray]; exact hl) h1, ?_, fun G hG => (Still.refl w G).setRow hG rfl _⟩
  rw [gs_set _ hj]
  exact Mem.setAll _ _ (gs_split hj ▸ hM)
theorem RunS.sw {g N : Nat} {new : List Value} (hM : Mem w0 w (Gs H Fs)) (j : Nat) (hj : H[j]? = some ⟨.pointer (some ⟨g, 0, none⟩), ty, 0, cs⟩) (hl : cs.length = N) (hn : new.length = N) (h1 : new.toArray.all (·.oneCell') = true)
    (r : ∀ W', Mem w0 W' (Gs (H.set j ⟨.pointer (some ⟨g, 0, none⟩), ty, 0, new⟩) Fs) → RunS P R f n (af n S undef) W' D) (h : stvAt P n S.1 S.2 N = some (g, new.toArray, kS n S) := by kernel_rfl) : RunS P R f n S w D := by
  obtain ⟨W', hD, hM', _⟩ := do_sw hM j hj hl hn h1 h
  exact RunS.du hD (r W' hM')
theorem all_nums' {kd : IntKind} {xs : List Int} {N : Nat} (h : xs.length = N) : (nums kd xs).length = N := by rw [nums_length]; exact h
theorem all_strs' {xs : List ByteArray} {N : Nat} (h : xs.length = N) : (strs xs).length = N := by rw [strs_length]; exact h
theorem all_bools' {xs : List Bool} {N : Nat} (h : xs.length = N) : (bools xs).length = N := by rw [bools_length]; exact h
theorem do_sp {g N off : Nat} {vs new : List Value} (hM : Mem w0 w (Gs H Fs)) (j : Nat) (hj : H[j]? = some ⟨.pointer (some ⟨g, 0, none⟩), ty, 0, cs⟩) (hN : vs.length = N) (ho : off + N ≤ cs.length) (h1 : vs.toArray.all (·.oneCell') = true) (hn : cs.take off ++ vs ++ cs.drop (off + N) = new) (h : stpAt P n k L N = some (g, off, vs.toArray, k2)) :
    ∃ W', DoesU P n k L w none W' k2 ∧ Mem w0 W' (Gs (H.set j ⟨.pointer (some ⟨g, 0, none⟩), ty, 0, new⟩) Fs) ∧ ∀ G : List Value, .pointer (some ⟨g, 0, none⟩) ∈ G → Still w G W' := by
  refine ⟨_, stp_u h (by rw [List.size_toArray]; exact hN) (hM.block j (gs_at hj)) ho h1 hn, ?_, fun G hG => (Still.refl w G).setRow hG rfl _⟩
  rw [gs_set _ hj]
  exact Mem.setAll _ _ (gs_split hj ▸ hM)
/- What is made. -/
theorem Mem.n1 (h : Mem w0 W (Gs H Fs)) (ty : Nat) : Mem w0 W (Gs (⟨.slice none 0 0, ty, 1, []⟩ :: H) Fs) := h.nil ty
theorem RunS.new (ty sz m : Nat) (cs : List Value) (hM : Mem w0 w (Gs H Fs)) (r : ∀ g W1, Mem w0 W1 (Gs (⟨.slice (some ⟨g, 0, none⟩) m m, ty, sz, cs⟩ :: H) Fs) → RunS P R f n (af n S (.slice (some ⟨g, 0, none⟩) m m)) W1 D)
    (hn : cs.length = m * sz := by simp [nums, bools, strs, ones]) (h : (doesAt P n S.1 S.2 w, Nat.ble m 1000000) = (some (dS n S, .slice (some ⟨w.heap.size, 0, none⟩) m m, { w with heap := w.heap.push (.cells cs.toArray ty) }, kS n S), true) := by kernel_rfl) : RunS P R f n S w D := by
  injection h with h h2
  exact ⟨RunF.new ty sz m cs hM hn h2 h fun g W1 h' => (r g W1 h').o⟩
theorem RunS.nw (ty : Nat) (cs : List Value) (hM : Mem w0 w (Gs H Fs)) (r : ∀ g W1, Mem w0 W1 (Gs (⟨.pointer (some ⟨g, 0, none⟩), ty, 0, cs⟩ :: H) Fs) → RunS P R f n (af n S (.pointer (some ⟨g, 0, none⟩))) W1 D)
    (h : doesAt P n S.1 S.2 w = some (dS n S, .pointer (some ⟨w.heap.size, 0, none⟩), { w with heap := w.heap.push (.cells cs.toArray ty) }, kS n S) := by kernel_rfl) : RunS P R f n S w D := ⟨RunF.newVar ty cs hM h fun g W1 h' => (r g W1 h').o⟩
theorem do_mk {e : TypeId} {z : Value} {l c : Int} (hM : Mem w0 w (Gs H Fs)) (h0 : 0 ≤ l) (h1 : l ≤ c) (h2 : c ≤ 1099511627776) (h : mkAt P n k L = some (d, e, z, l, c, k2)) :
    ∃ g W1, Does P n k L w d (.slice (some ⟨g, 0, none⟩) l.toNat c.toNat) W1 k2 ∧ Mem w0 W1 (Gs (⟨.slice (some ⟨g, 0, none⟩) l.toNat c.toNat, e, 1, List.replicate l.toNat z⟩ :: H) Fs) ∧ Below w.heap.size w W1 ∧ w.heap.size ≤ g := by
  obtain ⟨W1, a, b, c⟩ := mk_does h h0 h1 h2 hM
  exact ⟨_, W1, a, b, c, Nat.le_refl _⟩
theorem RunS.mn (e : TypeId) (kd : IntKind) (l c : Int) (hM : Mem w0 w (Gs H Fs)) (r : ∀ g W1, Mem w0 W1 (Gs (⟨.slice (some ⟨g, 0, none⟩) l.toNat c.toNat, e, 1, nums kd (List.replicate l.toNat 0)⟩ :: H) Fs) → RunS P R f n (af n S (.slice (some ⟨g, 0, none⟩) l.toNat c.toNat)) W1 D)
    (h0 : 0 ≤ l := by omega) (h1 : l ≤ c := by omega) (h2 : c ≤ 1099511627776 := by omega) (h : mkAt P n S.1 S.2 = some (dS n S, e, .int kd 0, l, c, kS n S) := by kernel_rfl) : RunS P R f n S w D := by
  obtain ⟨g, W1, hD, hM', _, _⟩ := do_mk hM h0 h1 h2 h
  exact ⟨RunF.does hD (r g W1 (by rwa [rep_nums] at hM')).o⟩
theorem RunS.m0 (e : TypeId) (z : Value) (c : Int) (hM : Mem w0 w (Gs H Fs)) (r : ∀ g W1, Mem w0 W1 (Gs (⟨.slice (some ⟨g, 0, none⟩) 0 c.toNat, e, 1, []⟩ :: H) Fs) → RunS P R f n (af n S (.slice (some ⟨g, 0, none⟩) 0 c.toNat)) W1 D)
    (h1 : 0 ≤ c := by omega) (h2 : c ≤ 1099511627776 := by omega) (h : mkAt P n S.1 S.2 = some (dS n S, e, z, 0, c, kS n S) := by kernel_rfl) : RunS P R f n S w D := by
  obtain ⟨g, W1, hD, hM', _, _⟩ := do_mk hM (Int.le_refl 0) h1 h2 h
  exact ⟨RunF.does hD (r g W1 hM').o⟩
/- What is lengthened. -/
theorem do_ap {e : TypeId} {A2 : Option Addr} {m2 c2 : Nat} {ys : List Value} (hM : Mem w0 w (Gs H Fs)) (j : Nat) (hj : H[j]? = some ⟨.slice A m c, e, 1, cs⟩) (hR : Rd w (.slice A2 m2 c2) ys) (h1 : ∀ u ∈ ys, oneC u = true) (hl : m + m2 ≤ 1099511627776) (h : appAt P n k L = some (d, e, .slice A m c, .slice A2 m2 c2, k2)) :
    ∃ A' c' W1, Does P n k L w d (.slice A' (cs ++ ys).length c') W1 k2 ∧ Mem w0 W1 (Gs (H.set j ⟨.slice A' (cs ++ ys).length c', e, 1, cs ++ ys⟩) Fs) ∧ Still w [.slice A m c] W1 ∧ (blk (.slice A' (cs ++ ys).length c') = blk (.slice A m c) ∨ ∀ b, blk (.slice A' (cs ++ ys).length c') = some b → w.heap.size ≤ b) := by
  obtain ⟨A', n', c', W1, hD, hM', hS, hb⟩ := app_does2 (H.take j) (Gs (H.drop (j + 1)) Fs) h (gs_split hj ▸ hM) hR h1 hl
  have hn : (cs ++ ys).length = n' := hM'.own_len (H.take j).length (by rw [List.getElem?_append_right (Nat.le_refl _), Nat.sub_self]; rfl)
  subst hn
  exact ⟨A', c', W1, hD, by rw [gs_set _ hj]; exact hM', hS, hb⟩
theorem RunS.an {e : TypeId} {kd : IntKind} {xs ys : List Int} {A2 : Option Addr} {m2 c2 : Nat} (hM : Mem w0 w (Gs H Fs)) (j : Nat) (hj : H[j]? = some ⟨.slice A m c, e, 1, nums kd xs⟩) (hR : Rd w (.slice A2 m2 c2) (nums kd ys)) (hl : xs.length + ys.length ≤ 1000000000)
    (r : ∀ A' c' W1, Mem w0 W1 (Gs (H.set j ⟨.slice A' (xs ++ ys).length c', e, 1, nums kd (xs ++ ys)⟩) Fs) → RunS P R f n (af n S (.slice A' (xs ++ ys).length c')) W1 D) (h : appAt P n S.1 S.2 = some (dS n S, e, .slice A m c, .slice A2 m2 c2, kS n S) := by kernel_rfl) : RunS P R f n S w D := by
  have l1 := hM.own_len j (gs_at hj); have l2 := hR.ln
  rw [nums_length] at l1
  obtain ⟨A', c', W1, hD, hM', _, _⟩ := do_ap hM j hj hR (one_nums _ _) (by omega) h
  rw [nums_append, nums_length] at hM'; rw [nums_append, nums_length] at hD
  exact ⟨RunF.does hD (r A' c' W1 hM').o⟩
theorem RunS.ao {e : TypeId} {xs ys : List SlV} {A2 : Option Addr} {m2 c2 : Nat} (hM : Mem w0 w (Gs H Fs)) (j : Nat) (hj : H[j]? = some ⟨.slice A m c, e, 1, ones xs⟩) (hR : Rd w (.slice A2 m2 c2) (ones ys)) (hl : xs.length + ys.length ≤ 1000000000)
    (r : ∀ A' c' W1, Mem w0 W1 (Gs (H.set j ⟨.slice A' (xs ++ ys).length c', e, 1, ones (xs ++ ys)⟩) Fs) → RunS P R f n (af n S (.slice A' (xs ++ ys).length c')) W1 D) (h : appAt P n S.1 S.2 = some (dS n S, e, .slice A m c, .slice A2 m2 c2, kS n S) := by kernel_rfl) : RunS P R f n S w D := by
  have l1 := hM.own_len j (gs_at hj); have l2 := hR.lo
  rw [ones_length] at l1
  obtain ⟨A', c', W1, hD, hM', _, _⟩ := do_ap hM j hj hR (one_ones _) (by omega) h
  rw [ones_append, ones_length] at hM'; rw [ones_append, ones_length] at hD
  exact ⟨RunF.does hD (r A' c' W1 hM').o⟩
end
end Go.Scr
