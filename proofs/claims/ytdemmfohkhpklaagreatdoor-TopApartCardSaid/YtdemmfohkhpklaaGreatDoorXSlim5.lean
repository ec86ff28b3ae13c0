/- Laws of single steps, short. -/
import Derived.Test.YtdemmfohkhpklaaGreatDoorXSlim4
/- The laws told shortly: the remaining operations. -/
set_option linter.unnecessarySimpa false
set_option linter.unusedVariables false
set_option linter.unusedSimpArgs false
namespace Go.Scr
open Go.RowKit (Below)
variable {D : List Deferred}
theorem ifz {α : Type} {b : Bool} {x : Option α} {r : α} (h : (if b = true then none else x) = some r) : b = false ∧ x = some r := by
  cases b with
  | true => cases h
  | false => exact ⟨rfl, h⟩
theorem iftd {α : Type} {p : Prop} [Decidable p] {x y : Option α} {r : α} (h : (if decide p = true then x else y) = some r) : (p ∧ x = some r) ∨ (¬ p ∧ y = some r) := by
  by_cases hp : p
  · rw [if_pos (decide_eq_true hp)] at h; exact .inl ⟨hp, h⟩
  · rw [if_neg (by rw [decide_eq_true_eq]; exact hp)] at h; exact .inr ⟨hp, h⟩
section
variable {P : Program} {R : Ending → World → Prop} {f : FuncId} {k k2 : List Item} {n : Nat} {S : Sta} {L : Env} {ops : Array Oper} {w w' w0 W W' : World} {H H' E : List Ent} {Fs Fs' : List (List Ent)} {T : Value → World → Prop} {js js' : List Nat} {Z : List Nat × Env} {cf : Option (List Nat × Nat)} {d : Option Nat}
variable {A : Option Addr} {m c : Nat} {i : Int} {p : Addr} {u v : Value} {ty : TypeId} {cs : List Value}
theorem tr : Cert ops none := trivial

/- Single operations that look at nothing that the region writes. -/
theorem yl_shl {kd : IntKind} {y : Int} (x : Int) (h0 : 0 ≤ y) (h : shAt n k L = some (d, true, kd, x, y, k2) := by kernel_rfl) : Yl P n k L (fun _ => True) d (.int kd (shlv kd x y)) k2 := sh_y h (decide_eq_true h0)
theorem yl_shr {kd : IntKind} {y : Int} (x : Int) (h0 : 0 ≤ y) (h : shAt n k L = some (d, false, kd, x, y, k2) := by kernel_rfl) : Yl P n k L (fun _ => True) d (.int kd (shrv kd x y)) k2 := sh_y h (decide_eq_true h0)
theorem yl_rem {kd : IntKind} {y : Int} (x : Int) (h0 : ¬ y = 0) (h : divAt n k L = some (d, false, kd, x, y, k2) := by kernel_rfl) : Yl P n k L (fun _ => True) d (.int kd (x.tmod y)) k2 := div_y h (decide_eq_false h0)
theorem yl_eqa {xs ys : List Bool} {N : Nat} (hx : xs.length = N) (hy : ys.length = N) (h : eqArr P n k L = some (d, (bools xs).toArray, (bools ys).toArray, N, k2) := by kernel_rfl) : Yl P n k L (fun _ => True) d (.bool (xs == ys)) k2 := eqArr_y h hx hy
theorem yl_ixs (s : ByteArray) (h0 : 0 ≤ i) (h1 : i < (s.size : Int)) (h : idxStr P n k L = some (d, s, i, k2) := by kernel_rfl) : Yl P n k L (fun _ => True) d (.int .u8 (sb s i)) k2 := idxStr_y h h0 h1
theorem yl_ixv {kd : IntKind} {xs : List Int} {N : Nat} (hN : xs.length = N) (h0 : 0 ≤ i) (h1 : i < (N : Int)) (h : idxVal P n k L = some (d, (nums kd xs).toArray, N, i, k2) := by kernel_rfl) : Yl P n k L (fun _ => True) d (.int kd (Scr.rd xs i)) k2 := idxVal_y h h0 h1 (by rw [List.getElem?_toArray]; exact nums_at h0 (by omega))
theorem yl_ixt {xs : List ByteArray} {N : Nat} (hN : xs.length = N) (h0 : 0 ≤ i) (h1 : i < (N : Int)) (h : idxVal P n k L = some (d, (strs xs).toArray, N, i, k2) := by kernel_rfl) : Yl P n k L (fun _ => True) d (.string (Scr.rds xs i)) k2 := idxVal_y h h0 h1 (by rw [List.getElem?_toArray]; exact strs_at h0 (by omega))
theorem yl_ixg {cs : List Value} {N : Nat} (hu : cs[i.toNat]? = some u) (h0 : 0 ≤ i) (h1 : i < (N : Int)) (h : idxVal P n k L = some (d, cs.toArray, N, i, k2) := by kernel_rfl) : Yl P n k L (fun _ => True) d u k2 := idxVal_y h h0 h1 (by rw [List.getElem?_toArray]; exact hu)
theorem yl_ixm {kd : IntKind} {xs : List Int} {len : Nat} (m : Nat) (hl : xs.length = len * m) (h0 : 0 ≤ i) (h1 : i < (len : Int)) (h : idxValS P n k L m = some (d, (nums kd xs).toArray, len, i, k2) := by kernel_rfl) : Yl P n k L (fun _ => True) d (.agg (nums kd (sub xs i m)).toArray) k2 := idxValS_y h h0 h1 hl
theorem yl_ldv {g N : Nat} {ty : TypeId} {cs : List Value} (hN : cs.length = N) (h : ldvAt P n k L N = some (d, g, k2) := by kernel_rfl) : Yl P n k L (fun w => w.heap[g]? = some (.cells cs.toArray ty (0, 0))) d (.agg cs.toArray) k2 := ldv_y cs h hN
theorem yl_ldp {g off : Nat} (N : Nat) (cs : List Value) (hN : cs.length = N) (h : ldpAt P n k L N = some (d, g, off, k2) := by kernel_rfl) : Yl P n k L (fun w => ∀ i u, cs[i]? = some u → w.cell? ⟨g, off + i, none⟩ = some u) d (.agg cs.toArray) k2 := ldp_y cs h hN
theorem yl_str {xs : List Int} (h : strAt P n k L = some (d, A, m, c, k2) := by kernel_rfl) : Yl P n k L (fun w => Rd w (.slice A m c) (nums .u8 xs)) d (.string (strOf xs)) k2 := str_y xs h
theorem yl_res (h : Int) (h1 : 0 ≤ h) (h2 : h ≤ (m : Int)) (h3 : m ≤ c) (hs : slAt P n k L = some (d, A, m, c, 0, h, k2) := by kernel_rfl) : Yl P n k L (fun _ => True) d (.slice A h.toNat c) k2 := reslice_y hs h1 h2 h3
theorem yl_cr {g : Nat} {l : Int} (h0 : 0 ≤ l) (h1 : l < (m : Int)) (h3 : m ≤ c) (hs : slAt P n k L = some (d, some ⟨g, 0, none⟩, m, c, l, (m : Int), k2) := by kernel_rfl) : Yl P n k L (fun _ => True) d (.slice (some ⟨g, l.toNat, none⟩) (m - l.toNat) (c - l.toNat)) k2 := cut_raw hs h0 h1 h3
/- Cuts. -/
theorem do_ct {kd : IntKind} {xs : List Int} {l h : Int} (hR : Rd w (.slice A m c) (nums kd xs)) (h0 : 0 ≤ l) (h1 : l ≤ h) (h2 : h ≤ (m : Int)) (hs : slAt P n k L = some (d, A, m, c, l, h, k2)) :
    ∃ A' c', Yl P n k L (fun _ => True) d (.slice A' ((xs.take h.toNat).drop l.toNat).length c') k2 ∧ ∀ W, Rd W (.slice A m c) (nums kd xs) → Rd W (.slice A' ((xs.take h.toNat).drop l.toNat).length c') (nums kd ((xs.take h.toNat).drop l.toNat)) := by
  obtain ⟨A', n', c', a, rfl, b⟩ := cut kd xs hs h0 h1 h2 hR
  exact ⟨A', c', a, b⟩
theorem do_ct3 {kd : IntKind} {xs : List Int} {l h q : Int} (hR : Rd w (.slice A m c) (nums kd xs)) (h0 : 0 ≤ l) (h1 : l ≤ h) (h2 : h ≤ q) (h3 : q ≤ (m : Int)) (hs : sl3At P n k L = some (d, A, m, c, l, h, q, k2)) :
    ∃ A' c', Yl P n k L (fun _ => True) d (.slice A' ((xs.take h.toNat).drop l.toNat).length c') k2 ∧ ∀ W, Rd W (.slice A m c) (nums kd xs) → Rd W (.slice A' ((xs.take h.toNat).drop l.toNat).length c') (nums kd ((xs.take h.toNat).drop l.toNat)) := by
  obtain ⟨A', n', c', a, rfl, b⟩ := cut3 kd xs hs h0 h1 h2 h3 hR
  exact ⟨A', c', a, b⟩
theorem RunS.ct {kd : IntKind} {xs : List Int} (l h : Int) (hR : Rd w (.slice A m c) (nums kd xs))
    (r : ∀ A' c', (∀ W, Rd W (.slice A m c) (nums kd xs) → Rd W (.slice A' ((xs.take h.toNat).drop l.toNat).length c') (nums kd ((xs.take h.toNat).drop l.toNat))) → RunS P R f n (af n S (.slice A' ((xs.take h.toNat).drop l.toNat).length c')) w D)
    (h0 : 0 ≤ l := by omega) (h1 : l ≤ h := by omega) (h2 : h ≤ (m : Int) := by omega) (hs : slAt P n S.1 S.2 = some (dS n S, A, m, c, l, h, kS n S) := by kernel_rfl) : RunS P R f n S w D := by
  obtain ⟨A', c', a, b⟩ := do_ct hR h0 h1 h2 hs
  exact ⟨RunF.y a trivial (r A' c' b).o⟩
theorem RunS.ct3 {kd : IntKind} {xs : List Int} (l h q : Int) (hR : Rd w (.slice A m c) (nums kd xs))
    (r : ∀ A' c', (∀ W, Rd W (.slice A m c) (nums kd xs) → Rd W (.slice A' ((xs.take h.toNat).drop l.toNat).length c') (nums kd ((xs.take h.toNat).drop l.toNat))) → RunS P R f n (af n S (.slice A' ((xs.take h.toNat).drop l.toNat).length c')) w D)
    (h0 : 0 ≤ l := by omega) (h1 : l ≤ h := by omega) (h2 : h ≤ q := by omega) (h3 : q ≤ (m : Int) := by omega) (hs : sl3At P n S.1 S.2 = some (dS n S, A, m, c, l, h, q, kS n S) := by kernel_rfl) : RunS P R f n S w D := by
  obtain ⟨A', c', a, b⟩ := do_ct3 hR h0 h1 h2 h3 hs
  exact ⟨RunF.y a trivial (r A' c' b).o⟩
theorem RunA.ct {kd : IntKind} {xs : List Int} (hC : Cert ops cf) (q : Nat) (l h : Int) (hR : Rd w (.slice A m c) (nums kd xs))
    (r : ∀ A' c', (∀ W, Rd W (.slice A m c) (nums kd xs) → Rd W (.slice A' ((xs.take h.toNat).drop l.toNat).length c') (nums kd ((xs.take h.toNat).drop l.toNat))) → RunA P R f k n ops H js (afA ops q Z (.slice A' ((xs.take h.toNat).drop l.toNat).length c')) w D)
    (h0 : 0 ≤ l := by omega) (h1 : l ≤ h := by omega) (h2 : h ≤ (m : Int) := by omega) (hs : (slAt P n (one ops q) Z.2, okA ops cf Z q) = (some (dA ops q, A, m, c, l, h, [.inRegion ops []]), true) := by kernel_rfl) : RunA P R f k n ops H js Z w D := by
  injection hs with hs ho
  obtain ⟨A', c', a, b⟩ := do_ct hR h0 h1 h2 hs
  exact RunA.yt hC q a (r A' c' b) ho
theorem RunS.rc {fn : Func} (t : Nat) (ty : TypeId) (N : Nat) {tv : TypeId} {g : Nat} (hf : P.funcs[f]? = some fn) (hM : Mem w0 w (Gs H Fs)) (j : Nat) (hj : H[j]? = some ⟨.pointer (some ⟨g, 0, none⟩), tv, 0, cs⟩) (hN : cs.length = N) (hR : T (.agg cs.toArray) w)
    (h : (fn.results.toList, isRet S.1, lk S.2 t, rowT P ty N) = ([.cell t ty], true, some (.pointer (some ⟨g, 0, none⟩)), true) := by kernel_rfl) : RunS P (Ret T) f n S w := by
  injection h with h1 h; injection h with h2 h; injection h with h3 h4
  exact ⟨RunF.retc cs hf (show fn.results = [ResultVar.cell t ty].toArray by rw [← h1]) h2 h3 h4 hN (hM.block j (gs_at hj)) ⟨_, rfl, hR⟩⟩

/- More that is lengthened, copied. -/
theorem RunS.az (e : TypeId) (kd : IntKind) (h0 : 0 < i) (h1 : i ≤ 1000000000) (hM : Mem w0 w (Gs H Fs)) (r : ∀ g c W1, Mem w0 W1 (Gs (⟨.slice (some ⟨g, 0, none⟩) i.toNat c, e, 1, nums kd (List.replicate i.toNat 0)⟩ :: H) Fs) → RunS P R f n (af n S (.slice (some ⟨g, 0, none⟩) i.toNat c)) W1 D)
    (h : apzAt P n S.1 S.2 = some (dS n S, e, .int kd 0, i, kS n S) := by kernel_rfl) : RunS P R f n S w D := by
  obtain ⟨g, c, W1, hD, hM'⟩ := apz_does h h0 h1 hM
  rw [rep_nums] at hM'
  exact ⟨RunF.does hD (r g c W1 hM').o⟩
theorem do_cp {A2 : Option Addr} {m2 c2 : Nat} {ys : List Value} (hM : Mem w0 w (Gs H Fs)) (j : Nat) (hj : H[j]? = some ⟨.slice A m c, ty, 1, cs⟩) (hR : Rd w (.slice A2 m2 c2) ys) (h1 : ∀ u ∈ ys, oneC u = true) (h : cpAt P n k L = some (d, .slice A m c, .slice A2 m2 c2, k2)) :
    ∃ W1, Does P n k L w d (.int .i64 ((min m2 m : Nat) : Int)) W1 k2 ∧ Mem w0 W1 (Gs (H.set j ⟨.slice A m c, ty, 1, ys.take cs.length ++ cs.drop ys.length⟩) Fs) := by
  obtain ⟨W1, hD, hM', _⟩ := cp_does (H.take j) (Gs (H.drop (j + 1)) Fs) h (gs_split hj ▸ hM) hR h1
  exact ⟨W1, hD, by rw [gs_set _ hj]; exact hM'⟩
theorem RunS.cn {kd : IntKind} {xs ys : List Int} {A2 : Option Addr} {m2 c2 : Nat} (hM : Mem w0 w (Gs H Fs)) (j : Nat) (hj : H[j]? = some ⟨.slice A m c, ty, 1, nums kd xs⟩) (hR : Rd w (.slice A2 m2 c2) (nums kd ys))
    (r : ∀ W1, Mem w0 W1 (Gs (H.set j ⟨.slice A m c, ty, 1, nums kd (ys.take xs.length ++ xs.drop ys.length)⟩) Fs) → RunS P R f n (af n S (.int .i64 ((min m2 m : Nat) : Int))) W1 D) (h : cpAt P n S.1 S.2 = some (dS n S, .slice A m c, .slice A2 m2 c2, kS n S) := by kernel_rfl) : RunS P R f n S w D := by
  obtain ⟨W1, hD, hM'⟩ := do_cp hM j hj hR (one_nums _ _) h
  simp only [nums_length, nums_take, nums_drop, nums_append] at hM'
  exact ⟨RunF.does hD (r W1 hM').o⟩
theorem Mem.rw' (h : Mem w0 W (Gs H Fs)) (j : Nat) (hj : H[j]? = some ⟨.slice A m c, ty, 1, cs⟩) (hm : 0 < m) : ∃ g sp, A = some ⟨g, 0, none⟩ ∧ c = m + List.length sp ∧ Mem w0 W (Gs (H.set j ⟨.pointer (some ⟨g, 0, none⟩), ty, 0, cs ++ sp⟩) Fs) := by
  obtain ⟨g, sp, a, b, hM'⟩ := Mem.raw (H1 := H.take j) (H2 := Gs (H.drop (j + 1)) Fs) (gs_split hj ▸ h) hm
  exact ⟨g, sp, a, b, by rw [gs_set _ hj]; exact hM'⟩
theorem RunS.ar {e : TypeId} {ys : List Value} {A2 : Option Addr} {m2 c2 : Nat} (hM : Mem w0 w (Gs H Fs)) (j : Nat) (hj : H[j]? = some ⟨.slice A m c, e, 1, cs⟩) (hR : Rd w (.slice A2 m2 c2) ys) (h1 : ∀ u ∈ ys, oneC u = true) (hl : m + m2 ≤ 1099511627776)
    (r : ∀ A' c' W1, Mem w0 W1 (Gs (H.set j ⟨.slice A' (cs ++ ys).length c', e, 1, cs ++ ys⟩) Fs) → RunS P R f n (af n S (.slice A' (cs ++ ys).length c')) W1 D) (h : appAt P n S.1 S.2 = some (dS n S, e, .slice A m c, .slice A2 m2 c2, kS n S) := by kernel_rfl) : RunS P R f n S w D := by
  obtain ⟨A', c', W1, hD, hM', _, _⟩ := do_ap hM j hj hR h1 hl h
  exact ⟨RunF.does hD (r A' c' W1 hM').o⟩
theorem StpA.ar {q : Nat} {e : TypeId} {ys : List Value} {A2 : Option Addr} {m2 c2 : Nat} (hM : Mem w0 w (Gs H Fs)) (j : Nat) (hj : H[j]? = some ⟨.slice A m c, e, 1, cs⟩) (hR : Rd w (.slice A2 m2 c2) ys) (h1 : ∀ u ∈ ys, oneC u = true) (hl : m + m2 ≤ 1099511627776) (js' : List Nat)
    (r : ∀ A' c' W1, Mem w0 W1 (Gs (H.set j ⟨.slice A' (cs ++ ys).length c', e, 1, cs ++ ys⟩) Fs) → RunA P R f k n ops (H.set j ⟨.slice A' (cs ++ ys).length c', e, 1, cs ++ ys⟩) js' (afA ops q Z (.slice A' (cs ++ ys).length c')) W1 D)
    (h : (appAt P n (one ops q) Z.2, (js.contains j || isNil A), okP j js js') = (some (dA ops q, e, .slice A m c, .slice A2 m2 c2, [.inRegion ops []]), true, true) := by kernel_rfl) : StpA P R f k n ops H js Z w q D := by
  injection h with h hc; injection hc with hc h2
  obtain ⟨A', c', W1, hD, hM', hS, hb⟩ := do_ap hM j hj hR h1 hl h
  obtain ⟨hS', hc'⟩ := still_app hj hc hS
  exact StpA.dv q hD (Aft.of hS' (vals_app (e' := ⟨.slice A' _ c', e, 1, _⟩) hj h2 hc' hb) (r A' c' W1 hM'))
/- Loads, the element being found before. -/
theorem RunA.ln {kd : IntKind} {xs : List Int} (hC : Cert ops cf) (q : Nat) (C : Cel W A m i p u) (hr : ∀ w', Still w (vals H js) w' → Rd w' (.slice A m c) (nums kd xs)) (r : RunA P R f k n ops H js (afA ops q Z (.int kd (Scr.rd xs i))) w D) (h : (ldAt P n (one ops q) Z.2, okA ops cf Z q) = (some (dA ops q, p, [.inRegion ops []]), true) := by kernel_rfl) : RunA P R f k n ops H js Z w D := RunA.lz hC q (fun w' hs => (C.rn (hr w' hs)).cc) r h
theorem RunA.lu {u' : Value} (hC : Cert ops cf) (q : Nat) (C : Cel W A m i p u) (hu : cs[i.toNat]? = some u') (hr : ∀ w', Still w (vals H js) w' → Rd w' (.slice A m c) cs) (r : RunA P R f k n ops H js (afA ops q Z u') w D) (h : (ldAt P n (one ops q) Z.2, okA ops cf Z q) = (some (dA ops q, p, [.inRegion ops []]), true) := by kernel_rfl) : RunA P R f k n ops H js Z w D := RunA.lz hC q (fun w' hs => (C.re (hr w' hs) hu).cc) r h
theorem RunA.vn {kd : IntKind} {xs : List Int} {g N : Nat} (hC : Cert ops cf) (q : Nat) (C : Cel W (some ⟨g, 0, none⟩) N i p u) (hM : Mem w0 w (Gs H Fs)) (j : Nat) (hj : H[j]? = some ⟨.pointer (some ⟨g, 0, none⟩), ty, 0, nums kd xs⟩) (hN : xs.length = N) (r : RunA P R f k n ops H js (afA ops q Z (.int kd (Scr.rd xs i))) w D) (h : ((ldAt P n (one ops q) Z.2, js.contains j), okA ops cf Z q) = ((some (dA ops q, p, [.inRegion ops []]), false), true) := by kernel_rfl) : RunA P R f k n ops H js Z w D := by
  injection h with h1 h2; injection h1 with h1 h3
  obtain ⟨rfl, hi⟩ := vp_of C
  exact RunA.lz hC q (fun w' hs => hM.vs hs j hj _ (nums_at C.1 (by omega)) h3) r (by rw [h1, h2])
theorem RunA.lv {g : Nat} (hC : Cert ops cf) (q : Nat) (hM : Mem w0 w (Gs H Fs)) (j : Nat) (hj : H[j]? = some ⟨.pointer (some ⟨g, 0, none⟩), ty, 0, cs⟩) (o : Nat) (hu : cs[o]? = some u) (r : RunA P R f k n ops H js (afA ops q Z u) w D) (h : ((ldAt P n (one ops q) Z.2, js.contains j), okA ops cf Z q) = ((some (dA ops q, ⟨g, o, none⟩, [.inRegion ops []]), false), true) := by kernel_rfl) : RunA P R f k n ops H js Z w D := by
  injection h with h1 h2; injection h1 with h1 h3
  exact RunA.lz hC q (fun w' hs => hM.vs hs j hj o hu h3) r (by rw [h1, h2])
theorem StpA.ln {q : Nat} {kd : IntKind} {xs : List Int} (C : Cel W A m i p u) (hr : Rd w (.slice A m c) (nums kd xs)) (r : RunA P R f k n ops H js (afA ops q Z (.int kd (Scr.rd xs i))) w D) (h : ldAt P n (one ops q) Z.2 = some (dA ops q, p, [.inRegion ops []]) := by kernel_rfl) : StpA P R f k n ops H js Z w q D := StpA.lc (C.rn hr).cc r h
theorem StpA.lO {q : Nat} {xs : List SlV} (C : Cel W A m i p u) (hr : Rd w (.slice A m c) (ones xs)) (r : RunA P R f k n ops H js (afA ops q Z (sv (Scr.rdo xs i))) w D) (h : ldAt P n (one ops q) Z.2 = some (dA ops q, p, [.inRegion ops []]) := by kernel_rfl) : StpA P R f k n ops H js Z w q D := StpA.lc (C.ro hr).cc r h
theorem StpA.lu {q : Nat} {u' : Value} (C : Cel W A m i p u) (hu : cs[i.toNat]? = some u') (hr : Rd w (.slice A m c) cs) (r : RunA P R f k n ops H js (afA ops q Z u') w D) (h : ldAt P n (one ops q) Z.2 = some (dA ops q, p, [.inRegion ops []]) := by kernel_rfl) : StpA P R f k n ops H js Z w q D := StpA.lc (C.re hr hu).cc r h
theorem StpA.wn {q : Nat} {kd : IntKind} {xs : List Int} {g N : Nat} (C : Cel W (some ⟨g, 0, none⟩) N i p u) (hM : Mem w0 w (Gs H Fs)) (j : Nat) (hj : H[j]? = some ⟨.pointer (some ⟨g, 0, none⟩), ty, 0, nums kd xs⟩) (hN : xs.length = N) (r : RunA P R f k n ops H js (afA ops q Z (.int kd (Scr.rd xs i))) w D) (h : ldAt P n (one ops q) Z.2 = some (dA ops q, p, [.inRegion ops []]) := by kernel_rfl) : StpA P R f k n ops H js Z w q D := StpA.lc (C.vn hM j hj hN).cc r h
theorem StpA.lv {q : Nat} {g : Nat} (hM : Mem w0 w (Gs H Fs)) (j : Nat) (hj : H[j]? = some ⟨.pointer (some ⟨g, 0, none⟩), ty, 0, cs⟩) (o : Nat) (hu : cs[o]? = some u) (r : RunA P R f k n ops H js (afA ops q Z u) w D) (h : ldAt P n (one ops q) Z.2 = some (dA ops q, ⟨g, o, none⟩, [.inRegion ops []]) := by kernel_rfl) : StpA P R f k n ops H js Z w q D := StpA.lc (hM.var_at j (gs_at hj) hu).1 r h
/- What is owned, told anew within a region. -/
def okE (j : Nat) (js js' : List Nat) : Bool := js'.all fun x => js.contains (bif Nat.blt x j then x else x + 1)
theorem RunA.er (j : Nat) (js' : List Nat) (r : RunA P R f k n ops (H.eraseIdx j) js' Z w D) (h : okE j js js' = true := by rfl) : RunA P R f k n ops H js Z w D := by
  refine ⟨fun a hF => wpAnyH_weaken (fun w2 h' => ⟨h'.1, fun b hlt hg => h'.2 b hlt (fun v hv hb => ?_)⟩) _ _ _ _ (r.o a hF)⟩
  obtain ⟨x, hx, e, he, rfl⟩ := mem_vals.1 hv
  have := List.contains_iff_mem.1 (List.all_eq_true.1 h x hx)
  rw [List.getElem?_eraseIdx] at he
  refine hg e.v (mem_vals.2 ⟨_, this, e, ?_, rfl⟩) hb
  cases hb : Nat.blt x j with
  | true => rw [if_pos (show x < j from Nat.le_of_ble_eq_true hb)] at he; rw [cond_true]; exact he
  | false =>
    have : ¬ x < j := fun h => by rw [show Nat.blt x j = true from Nat.ble_eq_true_of_le h] at hb; cases hb
    rw [if_neg this] at he; rw [cond_false]; exact he
/- What may come up, by the region itself or by its certificate. -/
def rdyA (ops : Array Oper) (cf : Option (List Nat × Nat)) (dn : List Nat) : List Nat := match cf with | none => Region.ready .any ops (lst ops dn) | some (cert, _) => readyC cert dn
theorem rdyA_spec (hC : Cert ops cf) {dn is : List Nat} (h : rdyA ops cf dn = is) : Region.ready .any ops (lst ops dn) = is := by
  cases cf with
  | none => exact h
  | some x => exact ready_of_cert hC h
theorem RunA.dn (hC : Cert ops cf) (r : RunS P R f n (k, Z.2) w D) (h : rdyA ops cf Z.1 = [] := by kernel_rfl) : RunA P R f k n ops H js Z w D := ⟨RunAny.done (rdyA_spec hC h) r.o⟩
theorem each_o : ∀ {is : List Nat}, Each (fun i => StpA P R f k n ops H js Z w i D) is → Each (fun i => Stepped P R f k n ops (Still w (vals H js)) (ops.size - (Z.1.length + 1)) Z.1 Z.2 w i D) is
  | [], _ => trivial
  | _ :: _, h => ⟨h.1.o, each_o h.2⟩
theorem RunA.al (hC : Cert ops cf) (is : List Nat) (s : Each (fun i => StpA P R f k n ops H js Z w i D) is) (hne : is ≠ []) (h : (rdyA ops cf Z.1, Nat.blt Z.1.length ops.size) = (is, true)) : RunA P R f k n ops H js Z w D := by
  injection h with h1 h2
  refine ⟨?_⟩; rw [fuel_ok h2]
  exact RunAny.all is (rdyA_spec hC h1) hne (each_o s)
theorem RunA.a1 (hC : Cert ops cf) (i : Nat) (s : StpA P R f k n ops H js Z w i D) (h : (rdyA ops cf Z.1, Nat.blt Z.1.length ops.size) = ([i], true) := by kernel_rfl) : RunA P R f k n ops H js Z w D := RunA.al hC [i] ⟨s, trivial⟩ (by simp) h
theorem RunA.a2 (hC : Cert ops cf) (i0 i1 : Nat) (s0 : StpA P R f k n ops H js Z w i0 D) (s1 : StpA P R f k n ops H js Z w i1 D) (h : (rdyA ops cf Z.1, Nat.blt Z.1.length ops.size) = ([i0, i1], true) := by kernel_rfl) : RunA P R f k n ops H js Z w D := RunA.al hC [i0, i1] ⟨s0, s1, trivial⟩ (by simp) h
theorem RunA.a3 (hC : Cert ops cf) (i0 i1 i2 : Nat) (s0 : StpA P R f k n ops H js Z w i0 D) (s1 : StpA P R f k n ops H js Z w i1 D) (s2 : StpA P R f k n ops H js Z w i2 D) (h : (rdyA ops cf Z.1, Nat.blt Z.1.length ops.size) = ([i0, i1, i2], true) := by kernel_rfl) : RunA P R f k n ops H js Z w D := RunA.al hC [i0, i1, i2] ⟨s0, s1, s2, trivial⟩ (by simp) h
theorem RunA.a4 (hC : Cert ops cf) (i0 i1 i2 i3 : Nat) (s0 : StpA P R f k n ops H js Z w i0 D) (s1 : StpA P R f k n ops H js Z w i1 D) (s2 : StpA P R f k n ops H js Z w i2 D) (s3 : StpA P R f k n ops H js Z w i3 D) (h : (rdyA ops cf Z.1, Nat.blt Z.1.length ops.size) = ([i0, i1, i2, i3], true) := by kernel_rfl) : RunA P R f k n ops H js Z w D := RunA.al hC [i0, i1, i2, i3] ⟨s0, s1, s2, s3, trivial⟩ (by simp) h
theorem RunA.pz (hC : Cert ops cf) (is : List Nat) (r : RunA P R f k n ops H js (psZ P ops is Z) w D) (h : ∀ w, psO P n ops cf is Z w = psE P ops is Z w := by intro w; kernel_rfl) : RunA P R f k n ops H js Z w D := RunA.ps' hC is Z h r
/- Global rows. -/
theorem Rg.kept {b : Nat} (h : Rg w b cs) (hk : Kept w W) : Rg W b cs := fun i u hi => by
  have h1 := h i u hi
  rw [World.cell?_of_block (hk.2 _ (World.block_lt_of_cell? _ _ h1))]; exact h1
theorem Rg.cel {kd : IntKind} {xs : List Int} {b : Nat} (h : Rg w b (nums kd xs)) (h0 : 0 ≤ i) {N : Nat} (h1 : i < (N : Int)) (hN : xs.length = N := by rfl) : ∃ p, Cel w (some ⟨b, 0, none⟩) N i p (.int kd (Scr.rd xs i)) :=
  ⟨⟨b, i.toNat, none⟩, h0, h1, ⟨_, rfl, (add_zero_at _ _).symm⟩, h.num h0 (by omega)⟩
theorem Cel.rg {kd : IntKind} {xs : List Int} {b N : Nat} (C : Cel W (some ⟨b, 0, none⟩) N i p u) (h : Rg W' b (nums kd xs)) (hN : xs.length = N := by rfl) : Cel W' (some ⟨b, 0, none⟩) N i p (.int kd (Scr.rd xs i)) := by
  obtain ⟨rfl, hi⟩ := vp_of C
  have h1 := C.2.1
  exact ⟨C.1, C.2.1, ⟨_, rfl, (add_zero_at _ _).symm⟩, h.num C.1 (by omega)⟩
end
end Go.Scr
