/- Laws of single steps, short. -/
import Derived.Test.YtdemmfohkhpklaaGreatDoorXOnes
/- The laws told shortly: where a call stands and what is known of its temporaries is not printed, the kernel reckons it; rows are told by their numbers. -/
set_option linter.unnecessarySimpa false
set_option linter.unusedVariables false
set_option linter.unusedSimpArgs false
namespace Go.Scr
open Go.RowKit (Below)
variable {D : List Deferred}

theorem ifs {α : Type} {b : Bool} {x : Option α} {r : α} (h : (if b = true then x else none) = some r) : b = true ∧ x = some r := by
  cases b with
  | true => exact ⟨rfl, h⟩
  | false => cases h
theorem ifd {α : Type} {p : Prop} [Decidable p] {x : Option α} {r : α} (h : (if decide p = true then x else none) = some r) : p ∧ x = some r := by
  obtain ⟨h1, h2⟩ := ifs h
  exact ⟨of_decide_eq_true h1, h2⟩
theorem ifn {α : Type} {p : Prop} [Decidable p] {x : Option α} {r : α} (h : (if decide p = true then none else x) = some r) : ¬ p ∧ x = some r := by
  by_cases hp : p
  · rw [if_pos (decide_eq_true hp)] at h; cases h
  · rw [if_neg (by rw [decide_eq_true_eq]; exact hp)] at h; exact ⟨hp, h⟩
theorem ift {α : Type} {b : Bool} {x y : Option α} {r : α} (h : (if b = true then x else y) = some r) : (b = true ∧ x = some r) ∨ (b = false ∧ y = some r) := by
  cases b with
  | true => exact .inl ⟨rfl, h⟩
  | false => exact .inr ⟨rfl, h⟩
theorem bs {α β : Type} {x : Option α} {g : α → Option β} {r : β} (h : x.bind g = some r) : ∃ a, x = some a ∧ g a = some r := Option.bind_eq_some_iff.mp h
theorem sj {α : Type} {a b : α} (h : some a = some b) : a = b := Option.some.inj h

abbrev Sta := List Item × Env
structure RunS (P : Program) (R : Ending → World → Prop) (f : FuncId) (n : Nat) (S : Sta) (w : World) (D : List Deferred := []) : Prop where
  o : RunF P R f S.1 n S.2 w D
def pst (P : Program) (n m : Nat) (S : Sta) : Sta := match bulk P n m S.1 S.2 default with | some (k, L, _) => (k, L) | none => S
def dS (n : Nat) (S : Sta) : Option Nat := match cur n S.1 S.2 with | some (o, _) => o.dst | none => none
def kS (n : Nat) (S : Sta) : List Item := match cur n S.1 S.2 with | some (_, k) => k | none => []
def af (n : Nat) (S : Sta) (v : Value) : Sta := (kS n S, upd S.2 (dS n S) v)
def knS (S : Sta) (s : Nat) (b : Bool) : Sta := (S.1, known S.2 s b)
def retAt (P : Program) (f : FuncId) (S : Sta) : Option Value :=
  bif isRet S.1 then
    match P.funcs[f]? with
    | some fn => match fn.results.toList with
      | [] => some (.tuple #[])
      | [.tmp t] => lk S.2 t
      | [.tmp t, .tmp u] => match lk S.2 t, lk S.2 u with
        | some v, some x => some (.tuple #[v, x])
        | _, _ => none
      | [.tmp t, .tmp u, .tmp s] => match lk S.2 t, lk S.2 u, lk S.2 s with
        | some v, some x, some y => some (.tuple #[v, x, y])
        | _, _, _ => none
      | _ => none
    | none => none
  else none

section
variable {P : Program} {R : Ending → World → Prop} {f : FuncId} {k k2 : List Item} {n : Nat} {S : Sta} {L : Env} {w w' w0 W W' : World} {H H' E : List Ent} {Fs Fs' : List (List Ent)} {T : Value → World → Prop} {d : Option Nat}

theorem RunS.gq (m : Nat) (r : RunS P R f n (pst P n m S) w D) (h : bulk P n m S.1 S.2 w = some ((pst P n m S).1, (pst P n m S).2, w) := by kernel_rfl) : RunS P R f n S w D := ⟨bulk_sound h r.o⟩
theorem RunS.at {S' : Sta} (r : RunS P R f n S' w D) (h : (S.1, sel S.2 (S'.2.map Prod.fst)) = (S'.1, some S'.2) := by kernel_rfl) : RunS P R f n S w D := by
  injection h with h1 h2
  have r' : RunF P R f S.1 n S'.2 w D := h1 ▸ r.o
  exact ⟨r'.sub (sel_mem h2)⟩
theorem RunS.y {Z : World → Prop} {v : Value} (hy : Yl P n S.1 S.2 Z (dS n S) v (kS n S)) (hZ : Z w) (r : RunS P R f n (af n S v) w D) : RunS P R f n S w D := ⟨RunF.y hy hZ r.o⟩
theorem RunS.yt {v : Value} (hy : Yl P n S.1 S.2 (fun _ => True) (dS n S) v (kS n S)) (r : RunS P R f n (af n S v) w D) : RunS P R f n S w D := ⟨RunF.y hy trivial r.o⟩
theorem RunS.ca {g : FuncId} {args : Array Value} (hc : Calls P g args w (Ret T)) (r : ∀ v w', T v w' → RunS P R f n (af n S v) w' D) (h : callAt P n S.1 S.2 w = some (dS n S, g, args, kS n S, w) := by kernel_rfl) : RunS P R f n S w D := ⟨RunF.call h hc fun v w' hT => (r v w' hT).o⟩
theorem RunS.kn (s : Nat) {t b : Bool} (ht : t = b) (r : RunS P R f n (knS S s b) w D) (h : lk S.2 s = some (.bool t) := by kernel_rfl) : RunS P R f n S w D := ⟨RunF.know s h ht r.o⟩
theorem RunS.ret {fn : Func} {v : Value} (hf : P.funcs[f]? = some fn) (hR : T v w) (h : retAt P f S = some v := by kernel_rfl) : RunS P (Ret T) f n S w := by
  unfold retAt at h
  cases hk : isRet S.1 with
  | false => rw [hk] at h; cases h
  | true =>
    rw [hk, cond_true, hf] at h
    simp only at h
    have hR' : Ret T (.returned v) w := ⟨v, rfl, hR⟩
    have ar : ∀ {l : List ResultVar}, fn.results.toList = l → fn.results = l.toArray := fun e => by rw [← e]
    split at h
    · rename_i hr
      replace hr := ar hr
      injection h with h; subst h
      exact ⟨RunF.ret0 hf hr hk hR'⟩
    · rename_i t hr
      replace hr := ar hr
      exact ⟨RunF.ret1 t v hf hr hk h hR'⟩
    · rename_i t u hr
      replace hr := ar hr
      split at h
      · rename_i a b h1 h2
        injection h with h; subst h
        exact ⟨RunF.ret2 t u a b hf hr hk h1 h2 hR'⟩
      · cases h
    · rename_i t u s hr
      replace hr := ar hr
      split at h
      · rename_i a b c h1 h2 h3
        injection h with h; subst h
        exact ⟨RunF.ret3 t u s a b c hf hr hk h1 h2 h3 hR'⟩
      · cases h
    · cases h

/- Memory by number. -/
theorem Mem.cg (h : Mem w0 W (Gs H Fs)) (h' : Mem W W' (Gs H' Fs')) : Mem w0 W' (Gs (H' ++ H) (Fs' ++ Fs)) := h.callG h'
theorem split_at {α : Type} {l : List α} {j : Nat} {e : α} (h : l[j]? = some e) : l = l.take j ++ e :: l.drop (j + 1) := by
  obtain ⟨hj, rfl⟩ := List.getElem?_eq_some_iff.1 h
  rw [List.getElem_cons_drop, List.take_append_drop]
theorem set_at {α : Type} {l : List α} {j : Nat} {e : α} (x : α) (h : l[j]? = some e) : l.set j x = l.take j ++ x :: l.drop (j + 1) := by
  obtain ⟨hj, _⟩ := List.getElem?_eq_some_iff.1 h
  exact List.set_eq_take_append_cons_drop.trans (if_pos hj)
theorem erase_at {α : Type} (l : List α) (j : Nat) : l.eraseIdx j = l.take j ++ l.drop (j + 1) := List.eraseIdx_eq_take_drop_succ ..
theorem gs_split {j : Nat} {e : Ent} (h : H[j]? = some e) : Gs H Fs = H.take j ++ e :: Gs (H.drop (j + 1)) Fs := by
  unfold Gs
  conv => lhs; rw [split_at h]
  rw [List.append_assoc, List.cons_append]
theorem gs_set {j : Nat} {e : Ent} (x : Ent) (h : H[j]? = some e) : Gs (H.set j x) Fs = H.take j ++ x :: Gs (H.drop (j + 1)) Fs := by
  unfold Gs
  rw [set_at x h, List.append_assoc, List.cons_append]
theorem gs_at {j : Nat} {e : Ent} (h : H[j]? = some e) : (Gs H Fs)[j]? = some e := by
  unfold Gs
  rw [List.getElem?_append_left (List.getElem?_eq_some_iff.1 h).1]; exact h
theorem Mem.fz (h : Mem w0 W (Gs H Fs)) (j : Nat) {e : Ent} (hj : H[j]? = some e) : ∃ F, (∀ W, Oks F W → e.ok W) ∧ Mem w0 W (Gs (H.eraseIdx j) (F :: Fs)) := by
  obtain ⟨F, h1, h2⟩ := Mem.freeze (H1 := H.take j) (e := e) (H2 := H.drop (j + 1)) (Fs := Fs) (gs_split hj ▸ h)
  exact ⟨F, h1, by rw [erase_at]; exact h2⟩
theorem Mem.fs (h : Mem w0 W (Gs H Fs)) (j : Nat) {A : Option Addr} {m c : Nat} {ty : TypeId} {cs : List Value} (hj : H[j]? = some ⟨.slice A m c, ty, 1, cs⟩ := by exact rfl) : ∃ F, RdF (Oks F) (.slice A m c) cs ∧ Mem w0 W (Gs (H.eraseIdx j) (F :: Fs)) := by
  obtain ⟨F, h1, h2⟩ := h.fz j hj
  exact ⟨F, fun W hW => Ent.rd (h1 W hW), h2⟩
theorem Mem.fp (h : Mem w0 W (Gs H Fs)) (j : Nat) {g : Nat} {ty : TypeId} {cs : List Value} (hj : H[j]? = some ⟨.pointer (some ⟨g, 0, none⟩), ty, 0, cs⟩ := by exact rfl) : ∃ F, CellsF (Oks F) g cs ∧ Mem w0 W (Gs (H.eraseIdx j) (F :: Fs)) := by
  obtain ⟨F, h1, h2⟩ := h.fz j hj
  refine ⟨F, fun W hW i u hi => ?_, h2⟩
  have hb := (h1 W hW).2.2
  rw [cell_of_row W g i cs.toArray ty (0, 0) hb]; simpa using hi
theorem Mem.or (h : Mem w0 W (Gs H Fs)) (j : Nat) {A : Option Addr} {m c : Nat} {ty : TypeId} {cs : List Value} (hj : H[j]? = some ⟨.slice A m c, ty, 1, cs⟩ := by exact rfl) : Rd W (.slice A m c) cs := h.rd j (gs_at hj)
def pickJ (l : List (List Ent)) : List (List Nat) → Option (List (List Ent))
  | [] => some []
  | [i] :: r => match l[i]? with
    | some F => match pickJ l r with
      | some M => some (F :: M)
      | none => none
    | none => none
  | is :: r => match pickG l is with
    | some Q => match pickJ l r with
      | some M => some (Q.flatten :: M)
      | none => none
    | none => none
theorem pickJ_flat {l : List (List Ent)} : ∀ {js : List (List Nat)} {M : List (List Ent)}, pickJ l js = some M → ∃ Q, pickG l js.flatten = some Q ∧ Q.flatten = M.flatten
  | [], M, h => by unfold pickJ at h; injection h with h; subst h; exact ⟨[], rfl, rfl⟩
  | is :: r, M, h => by
    have app : ∀ (a b : List Nat) (A B : List (List Ent)), pickG l a = some A → pickG l b = some B → pickG l (a ++ b) = some (A ++ B) := by
      intro a b
      induction a with
      | nil => intro A B ha hb; unfold pickG at ha; injection ha with ha; subst ha; exact hb
      | cons i a ih =>
        intro A B ha hb
        unfold pickG at ha
        split at ha
        · rename_i e he
          split at ha
          · rename_i M1 hM1
            injection ha with ha; subst ha
            simp only [List.cons_append, pickG, he, ih M1 B hM1 hb]
          · cases ha
        · cases ha
    unfold pickJ at h
    split at h
    · rename_i he; cases he
    · rename_i i r' he
      injection he with he1 he2; subst he1; subst he2
      split at h
      · rename_i F hF
        split at h
        · rename_i M1 hM1
          injection h with h; subst h
          obtain ⟨Q, h1, h2⟩ := pickJ_flat hM1
          exact ⟨F :: Q, by simp [pickG, hF, h1], by simp [h2]⟩
        · cases h
      · cases h
    · rename_i is' r' hne he
      injection he with he1 he2; subst he1; subst he2
      split at h
      · rename_i Q0 hQ0
        split at h
        · rename_i M1 hM1
          injection h with h; subst h
          obtain ⟨Q, h1, h2⟩ := pickJ_flat hM1
          exact ⟨Q0 ++ Q, app _ _ _ _ hQ0 h1, by simp [h2]⟩
        · cases h
      · cases h
theorem pickG_append {α : Type} {l : List α} : ∀ {a b : List Nat} {A B : List α}, pickG l a = some A → pickG l b = some B → pickG l (a ++ b) = some (A ++ B)
  | [], b, A, B, ha, hb => by unfold pickG at ha; injection ha with ha; subst ha; exact hb
  | i :: a, b, A, B, ha, hb => by
    unfold pickG at ha
    split at ha
    · rename_i e he
      split at ha
      · rename_i M1 hM1
        injection ha with ha; subst ha
        simp only [List.cons_append, pickG, he, pickG_append hM1 hb]
      · cases ha
    · cases ha
theorem pickG_lt {α : Type} {l : List α} : ∀ {is : List Nat} {M : List α}, pickG l is = some M → ∀ i ∈ is, i < l.length
  | [], _, _, i, hi => by cases hi
  | j :: is, M, h, i, hi => by
    unfold pickG at h
    split at h
    · rename_i e he
      split at h
      · rename_i M1 hM1
        rcases List.mem_cons.1 hi with rfl | hi
        · exact (List.getElem?_eq_some_iff.1 he).1
        · exact pickG_lt hM1 i hi
      · cases h
    · cases h
theorem pickG_rows {H : List Ent} {Fs : List (List Ent)} : ∀ {is : List Nat} {M : List Ent}, pickG H is = some M → pickG (its H Fs) is = some (M.map fun e => [e])
  | [], M, h => by unfold pickG at h; injection h with h; subst h; rfl
  | i :: is, M, h => by
    unfold pickG at h
    split at h
    · rename_i e he
      split at h
      · rename_i M1 hM1
        injection h with h; subst h
        have hi : i < H.length := (List.getElem?_eq_some_iff.1 he).1
        have : (its H Fs)[i]? = some [e] := by
          unfold its
          rw [List.getElem?_append_left (by simpa using hi), List.getElem?_map, he]; rfl
        simp only [pickG, this, pickG_rows hM1, List.map_cons]
      · cases h
    · cases h
theorem pickG_grps {H : List Ent} {Fs : List (List Ent)} : ∀ {js : List Nat} {M : List (List Ent)}, pickG Fs js = some M → pickG (its H Fs) (js.map fun j => H.length + j) = some M
  | [], M, h => by unfold pickG at h; injection h with h; subst h; rfl
  | j :: js, M, h => by
    unfold pickG at h
    split at h
    · rename_i e he
      split at h
      · rename_i M1 hM1
        injection h with h; subst h
        have : (its H Fs)[H.length + j]? = some e := by
          unfold its
          rw [List.getElem?_append_right (by simp), List.length_map, Nat.add_sub_cancel_left]; exact he
        simp only [List.map_cons, pickG, this, pickG_grps hM1]
      · cases h
    · cases h
theorem distinct_iff : ∀ {l : List Nat}, distinct l = true ↔ l.Nodup
  | [] => by simp [distinct]
  | i :: r => by
    unfold distinct
    cases h : r.any (fun j => Nat.beq i j) with
    | true =>
      obtain ⟨j, hj, e⟩ := List.any_eq_true.1 h
      have : i = j := Nat.eq_of_beq_eq_true e
      subst this
      simp [hj]
    | false =>
      have : ¬ i ∈ r := fun hi => by
        have := List.any_eq_true.2 ⟨i, hi, Nat.beq_refl i⟩
        rw [this] at h; cases h
      rw [cond_false, distinct_iff, List.nodup_cons]
      exact ⟨fun h => ⟨this, h⟩, fun h => h.2⟩
theorem Mem.pm (h : Mem w0 W (Gs H Fs)) (is : List Nat) (js : List (List Nat)) (hp : pickG H is = some H' := by exact rfl) (hq : pickJ Fs js = some Fs' := by exact rfl) (hd : (distinct is && distinct js.flatten) = true := by exact rfl) : Mem w0 W (Gs H' Fs') := by
  rw [Bool.and_eq_true] at hd
  obtain ⟨Q, h1, h2⟩ := pickJ_flat hq
  refine Mem.pickF (M := (H'.map fun e => [e]) ++ Q) h (is ++ js.flatten.map fun j => H.length + j) (pickG_append (pickG_rows hp) (pickG_grps h1)) ?_ ?_
  · rw [distinct_iff, List.nodup_append]
    refine ⟨distinct_iff.1 hd.1, ?_, ?_⟩
    · refine List.Pairwise.map _ (fun a b hne hab => hne ?_) (distinct_iff.1 hd.2)
      omega
    · intro a ha b hb
      obtain ⟨j, _, rfl⟩ := List.mem_map.1 hb
      obtain ⟨i, hi, e⟩ := List.mem_iff_getElem.1 ha
      have : a < H.length := by
        have := pickG_lt hp a ha
        exact this
      omega
  · rw [List.flatten_append, h2]
    unfold Gs
    congr 1
    clear h hp
    induction H' with
    | nil => rfl
    | cons e r ih => simp [ih]
end
end Go.Scr
