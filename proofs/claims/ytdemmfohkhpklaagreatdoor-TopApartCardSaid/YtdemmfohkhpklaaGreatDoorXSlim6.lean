/- Laws of single steps, short. -/
import Derived.Test.YtdemmfohkhpklaaGreatDoorXSlim5
/- The laws told shortly: frames; rows cut in place. -/
set_option linter.unnecessarySimpa false
set_option linter.unusedVariables false
set_option linter.unusedSimpArgs false
namespace Go.Scr
open Go.RowKit (Below)
variable {D : List Deferred}
section
variable {P : Program} {R : Ending → World → Prop} {f : FuncId} {k k2 : List Item} {n : Nat} {S : Sta} {L : Env} {ops : Array Oper} {w w' w0 W W' : World} {H H' E Lr : List Ent} {Fs Fs' G : List (List Ent)} {T : Value → World → Prop} {js js' : List Nat} {Z : List Nat × Env} {cf : Option (List Nat × Nat)} {d : Option Nat}
variable {A : Option Addr} {m c : Nat} {i : Int} {p : Addr} {u v : Value} {ty : TypeId} {cs : List Value}
theorem flat_one : ∀ (l : List Nat), (l.map fun i => [i]).flatten = l
  | [] => rfl
  | i :: r => by rw [List.map_cons, List.flatten_cons, flat_one r]; rfl
theorem pickJ_one {l : List (List Ent)} : ∀ {is : List Nat} {M : List (List Ent)}, pickG l is = some M → pickJ l (is.map fun i => [i]) = some M
  | [], M, h => by unfold pickG at h; injection h with h; subst h; rfl
  | i :: is, M, h => by
    unfold pickG at h
    split at h
    · rename_i e he
      split at h
      · rename_i M1 hM1
        injection h with h; subst h
        simp only [List.map_cons, pickJ, he, pickJ_one hM1]
      · cases h
    · cases h
def frm (G : List (List Ent)) (L : List Ent) : List Ent := G.flatten ++ L
theorem Mem.fm (h : Mem w0 W (Gs H Fs)) (is ri gi : List Nat) (hp : pickG H is = some E) (hr : pickG H ri = some Lr) (hg : pickG Fs gi = some G) (hd : (distinct (is ++ ri) && distinct gi) = true := by rfl) : Mem w0 W (Gs E [frm G Lr]) := by
  have h1 : Mem w0 W (Gs (E ++ Lr) G) := h.pm (is ++ ri) (gi.map fun i => [i]) (pickG_append hp hr) (pickJ_one hg) (by rw [flat_one]; exact hd)
  refine h1.perm ?_
  simp only [Gs, frm, List.flatten_cons, List.flatten_nil, List.append_nil, List.append_assoc]
  exact List.Perm.append_left E List.perm_append_comm
theorem Mem.u1 (h : Mem w0 W (Gs E [frm G Lr])) : Mem w0 W (Gs (E ++ Lr) G) := by
  refine h.perm ?_
  simp only [Gs, frm, List.flatten_cons, List.flatten_nil, List.append_nil, List.append_assoc]
  exact List.Perm.append_left E List.perm_append_comm
theorem Mem.uf {F' : List Ent} (h : Mem w0 W (Gs E [F', frm G Lr])) : Mem w0 W (Gs (E ++ Lr) (F' :: G)) := by
  refine h.perm ?_
  simp only [Gs, frm, List.flatten_cons, List.flatten_nil, List.append_nil, List.append_assoc]
  refine List.Perm.append_left E ?_
  have : ((F' ++ G.flatten) ++ Lr).Perm (Lr ++ (F' ++ G.flatten)) := List.perm_append_comm
  simpa only [List.append_assoc] using this
theorem Oks.fg {F : List Ent} (h : Oks (frm G Lr) W) (j : Nat) (hj : G[j]? = some F) : Oks F W := fun e he => h e (List.mem_append_left _ (List.mem_flatten.2 ⟨F, List.mem_of_getElem? hj, he⟩))
theorem Oks.fr (h : Oks (frm G Lr) W) (j : Nat) (hj : Lr[j]? = some ⟨.slice A m c, ty, 1, cs⟩) : Rd W (.slice A m c) cs := Ent.rd (h _ (List.mem_append_right _ (List.mem_of_getElem? hj)))
theorem RunS.ve {g N : Nat} (v : Value) (C : Cel W (some ⟨g, 0, none⟩) N i p u) (hM : Mem w0 w (Gs H Fs)) (j : Nat) (hj : H[j]? = some ⟨.pointer (some ⟨g, 0, none⟩), ty, 0, cs⟩) (hN : cs.length = N)
    (r : ∀ W', Mem w0 W' (Gs (H.set j ⟨.pointer (some ⟨g, 0, none⟩), ty, 0, cs.set i.toNat v⟩) Fs) → RunS P R f n (af n S undef) W' D) (h : stAt P n S.1 S.2 = some (p, v, kS n S) := by kernel_rfl) : RunS P R f n S w D := by
  obtain ⟨rfl, hi⟩ := vp_of C
  obtain ⟨W', hD, hM', _⟩ := do_sv hM j hj (by omega) h
  exact RunS.du hD (r W' hM')
theorem StpA.ve {q : Nat} {g N : Nat} (v : Value) (C : Cel W (some ⟨g, 0, none⟩) N i p u) (hM : Mem w0 w (Gs H Fs)) (j : Nat) (hj : H[j]? = some ⟨.pointer (some ⟨g, 0, none⟩), ty, 0, cs⟩) (hN : cs.length = N)
    (r : ∀ W', Mem w0 W' (Gs (H.set j ⟨.pointer (some ⟨g, 0, none⟩), ty, 0, cs.set i.toNat v⟩) Fs) → RunA P R f k n ops (H.set j ⟨.pointer (some ⟨g, 0, none⟩), ty, 0, cs.set i.toNat v⟩) js (afA ops q Z undef) W' D) (h : (stAt P n (one ops q) Z.2, js.contains j) = (some (p, v, [.inRegion ops []]), true) := by kernel_rfl) : StpA P R f k n ops H js Z w q D := by
  injection h with h hc
  obtain ⟨rfl, hi⟩ := vp_of C
  obtain ⟨W', hD, hM', hS⟩ := do_sv hM j hj (by omega) h
  exact StpA.du q (dA_st h) hD (Aft.of (hS _ (mem_vals.2 ⟨j, List.contains_iff_mem.1 hc, _, hj, rfl⟩)) (by exact vals_set hj rfl) (r W' hM'))
theorem do_rs {h : Int} (hM : Mem w0 w (Gs H Fs)) (j : Nat) (hj : H[j]? = some ⟨.slice A m c, ty, 1, cs⟩) (h1 : 0 ≤ h) (h2 : h ≤ (m : Int)) (hs : slAt P n k L = some (d, A, m, c, 0, h, k2)) :
    Yl P n k L (fun _ => True) d (.slice A h.toNat c) k2 ∧ Mem w0 w (Gs (H.set j ⟨.slice A h.toNat c, ty, 1, cs.take h.toNat⟩) Fs) := by
  refine ⟨reslice_y hs h1 h2 (own_le (hM.ok _ (List.mem_of_getElem? (gs_at (Fs := Fs) hj))).1).2.1, ?_⟩
  rw [gs_set _ hj]
  exact Mem.reslice _ _ (gs_split hj ▸ hM) h.toNat (by omega)
theorem RunS.rsn {kd : IntKind} {xs : List Int} (h : Int) (hM : Mem w0 w (Gs H Fs)) (j : Nat) (hj : H[j]? = some ⟨.slice A m c, ty, 1, nums kd xs⟩)
    (r : Mem w0 w (Gs (H.set j ⟨.slice A h.toNat c, ty, 1, nums kd (xs.take h.toNat)⟩) Fs) → RunS P R f n (af n S (.slice A h.toNat c)) w D) (h1 : 0 ≤ h := by omega) (h2 : h ≤ (m : Int) := by omega) (hs : slAt P n S.1 S.2 = some (dS n S, A, m, c, 0, h, kS n S) := by kernel_rfl) : RunS P R f n S w D := by
  obtain ⟨a, b⟩ := do_rs hM j hj h1 h2 hs
  rw [nums_take] at b
  exact ⟨RunF.y a trivial (r b).o⟩
theorem raw_act {e : TypeId} {q g g' : Nat} {v : Value} {cs' : List Value} (j : Nat) (hj : H[j]? = some ⟨.pointer (some ⟨g, 0, none⟩), e, 0, cs⟩) (hc : js.contains j = true) (hS : Still w [.pointer (some ⟨g, 0, none⟩)] W) (hG : g' = g ∨ w.heap.size ≤ g') (hD : Does P n (one ops q) Z.2 w (dA ops q) v W [.inRegion ops []])
    (r : RunA P R f k n ops (H.set j ⟨.pointer (some ⟨g', 0, none⟩), e, 0, cs'⟩) js (afA ops q Z v) W D) : StpA P R f k n ops H js Z w q D := by
  refine StpA.dv q hD (Aft.of ((Still.refl w _).app hS (mem_vals.2 ⟨j, List.contains_iff_mem.1 hc, _, hj, rfl⟩)) ?_ r)
  refine vals_app hj (by unfold okP; rw [List.all_eq_true]; intro x hx; rw [Bool.or_eq_true]; exact .inr (List.contains_iff_mem.2 hx)) (.inl hc) ?_
  rcases hG with rfl | hG
  · exact .inl rfl
  · refine .inr fun b hb => ?_
    injection hb with hb; subst hb; exact hG
theorem StpA.rn {q : Nat} {e : TypeId} {kd : IntKind} {A2 : Option Addr} {g m2 c2 : Nat} {fr sp : List Value} {a b : List Int} (hl : a.length + b.length ≤ 1099511627776) (hM : Mem w0 w (Gs H Fs)) (j : Nat) (hj : H[j]? = some ⟨.pointer (some ⟨g, 0, none⟩), e, 0, fr ++ nums kd a ++ sp⟩) (hR : Rd w (.slice A2 m2 c2) (nums kd b))
    (r : ∀ g' fr' sp' W1, Mem w0 W1 (Gs (H.set j ⟨.pointer (some ⟨g', 0, none⟩), e, 0, fr' ++ nums kd (a ++ b) ++ sp'⟩) Fs) → RunA P R f k n ops (H.set j ⟨.pointer (some ⟨g', 0, none⟩), e, 0, fr' ++ nums kd (a ++ b) ++ sp'⟩) js (afA ops q Z (.slice (some ⟨g', List.length fr', none⟩) (a ++ b).length ((a ++ b).length + List.length sp'))) W1 D)
    (h : (appAt P n (one ops q) Z.2, js.contains j) = (some (dA ops q, e, .slice (some ⟨g, fr.length, none⟩) a.length (a.length + sp.length), .slice A2 m2 c2, [.inRegion ops []]), true) := by kernel_rfl) : StpA P R f k n ops H js Z w q D := by
  injection h with h hc
  obtain ⟨g', fr', sp', W1, hD, hM', hS, hG⟩ := app_rawN (H.take j) (Gs (H.drop (j + 1)) Fs) h (gs_split hj ▸ hM) hR hl
  exact raw_act j hj hc hS hG hD (r g' fr' sp' W1 (by rw [gs_set _ hj]; exact hM'))
theorem StpA.rv {q : Nat} {e : TypeId} {kd : IntKind} {A2 : Option Addr} {g m2 c2 l : Nat} {sp : List Value} {a b : List Int} (hl : l ≤ a.length ∧ a.length + b.length ≤ 1099511627776) (hM : Mem w0 w (Gs H Fs)) (j : Nat) (hj : H[j]? = some ⟨.pointer (some ⟨g, 0, none⟩), e, 0, nums kd a ++ sp⟩) (hR : Rd w (.slice A2 m2 c2) (nums kd b))
    (r : ∀ g' fr' sp' W1, Mem w0 W1 (Gs (H.set j ⟨.pointer (some ⟨g', 0, none⟩), e, 0, fr' ++ nums kd (a.drop l ++ b) ++ sp'⟩) Fs) → RunA P R f k n ops (H.set j ⟨.pointer (some ⟨g', 0, none⟩), e, 0, fr' ++ nums kd (a.drop l ++ b) ++ sp'⟩) js (afA ops q Z (.slice (some ⟨g', List.length fr', none⟩) (a.drop l ++ b).length ((a.drop l ++ b).length + List.length sp'))) W1 D)
    (h : (appAt P n (one ops q) Z.2, js.contains j) = (some (dA ops q, e, .slice (some ⟨g, l, none⟩) (a.length - l) (a.length + sp.length - l), .slice A2 m2 c2, [.inRegion ops []]), true) := by kernel_rfl) : StpA P R f k n ops H js Z w q D := by
  injection h with h hc
  obtain ⟨g', fr', sp', W1, hD, hM', hS, hG⟩ := app_rawV (H.take j) (Gs (H.drop (j + 1)) Fs) h (gs_split hj ▸ hM) hl.1 hR hl.2
  exact raw_act j hj hc hS hG hD (r g' fr' sp' W1 (by rw [gs_set _ hj]; exact hM'))
theorem RunA.vu {g N : Nat} {u' : Value} (hC : Cert ops cf) (q : Nat) (C : Cel W (some ⟨g, 0, none⟩) N i p u) (hM : Mem w0 w (Gs H Fs)) (j : Nat) (hj : H[j]? = some ⟨.pointer (some ⟨g, 0, none⟩), ty, 0, cs⟩) (hu : cs[i.toNat]? = some u') (r : RunA P R f k n ops H js (afA ops q Z u') w D) (h : ((ldAt P n (one ops q) Z.2, js.contains j), okA ops cf Z q) = ((some (dA ops q, p, [.inRegion ops []]), false), true) := by kernel_rfl) : RunA P R f k n ops H js Z w D := by
  injection h with h1 h2; injection h1 with h1 h3
  obtain ⟨rfl, hi⟩ := vp_of C
  exact RunA.lz hC q (fun w' hs => hM.vs hs j hj _ hu h3) r (by rw [h1, h2])
theorem StpA.wu {q : Nat} {g N : Nat} {u' : Value} (C : Cel W (some ⟨g, 0, none⟩) N i p u) (hM : Mem w0 w (Gs H Fs)) (j : Nat) (hj : H[j]? = some ⟨.pointer (some ⟨g, 0, none⟩), ty, 0, cs⟩) (hu : cs[i.toNat]? = some u') (r : RunA P R f k n ops H js (afA ops q Z u') w D) (h : ldAt P n (one ops q) Z.2 = some (dA ops q, p, [.inRegion ops []]) := by kernel_rfl) : StpA P R f k n ops H js Z w q D := StpA.lc (C.vre hM j hj hu).cc r h
theorem RunA.vs {xs : List ByteArray} {g N : Nat} (hC : Cert ops cf) (q : Nat) (C : Cel W (some ⟨g, 0, none⟩) N i p u) (hM : Mem w0 w (Gs H Fs)) (j : Nat) (hj : H[j]? = some ⟨.pointer (some ⟨g, 0, none⟩), ty, 0, strs xs⟩) (hN : xs.length = N) (r : RunA P R f k n ops H js (afA ops q Z (.string (Scr.rds xs i))) w D) (h : ((ldAt P n (one ops q) Z.2, js.contains j), okA ops cf Z q) = ((some (dA ops q, p, [.inRegion ops []]), false), true) := by kernel_rfl) : RunA P R f k n ops H js Z w D :=
  RunA.vu hC q C hM j hj (strs_at C.1 (by have := C.2.1; omega)) r h
end
end Go.Scr
