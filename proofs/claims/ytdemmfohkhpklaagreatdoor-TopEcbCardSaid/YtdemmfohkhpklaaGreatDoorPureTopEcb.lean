/- The plain law of TopEcb. -/
import Derived.Test.YtdemmfohkhpklaaGreatDoorPh
set_option linter.unusedVariables false
set_option linter.unusedSimpArgs false
set_option maxRecDepth 10000
namespace Go.Scr.S
/-- Block by block. -/
def ecb (E : List Int → List Int) (n : Nat) : Nat → List Int → List Int
  | 0, _ => []
  | q + 1, m => E (m.take n) ++ ecb E n q (m.drop n)
theorem ecb_length {E : List Int → List Int} {n : Nat} (hE : ∀ b, b.length = n → (E b).length = n) : ∀ (q : Nat) (m : List Int), m.length = q * n → (ecb E n q m).length = q * n
  | 0, _, _ => by simp [ecb]
  | q + 1, m, h => by
    have h2 : m.length = q * n + n := by rw [h, Nat.add_mul, Nat.one_mul]
    have h1 := hE (m.take n) (by rw [List.length_take]; omega)
    have h3 := ecb_length hE q (m.drop n) (by rw [List.length_drop]; omega)
    unfold ecb
    rw [List.length_append, h1, h3, Nat.add_mul, Nat.one_mul]; omega
theorem ecb_add {E : List Int → List Int} {n : Nat} : ∀ (q : Nat) {r : Nat} (a b : List Int), a.length = q * n → ecb E n (q + r) (a ++ b) = ecb E n q a ++ ecb E n r b
  | 0, r, a, b, h => by
    have : a = [] := List.eq_nil_of_length_eq_zero (by omega)
    subst this; simp [ecb]
  | q + 1, r, a, b, h => by
    have h2 : a.length = q * n + n := by rw [h, Nat.add_mul, Nat.one_mul]
    rw [show q + 1 + r = (q + r) + 1 by omega]
    show E ((a ++ b).take n) ++ ecb E n (q + r) ((a ++ b).drop n) = (E (a.take n) ++ ecb E n q (a.drop n)) ++ ecb E n r b
    rw [List.take_append_of_le_length (by omega), List.drop_append_of_le_length (by omega), ecb_add q (a.drop n) b (by rw [List.length_drop]; omega), List.append_assoc]
abbrev MT := Option CT × Int × Bool × List Int × List Int × List Int
abbrev XT := Bool × Bool × Int × Int × Int × Bool × Option CT × List Int × MT × List Int × List Int
def md (c : CT) (back : Bool) : MT := (some c, 1, back, [], [], [])
/-- The cipher, the way about. -/
def way (c : CT) : Bool → Nat → List Int → Option (List Int × Int)
  | true, k, b => cipher_Cipher_Dec.f k c b
  | false, k, b => cipher_Cipher_Enc.f k c b
/-- What a cipher makes of blocks of n. -/
structure Bk (c : CT) (back : Bool) (n : Nat) (E : List Int → List Int) : Prop where
  two : 1 < n
  le : n ≤ 1000
  size : ∀ k, cipher_Cipher_Size.f k c = some (n : Int)
  ev : ∀ b, b.length = n → Ev (fun k => way c back k b) (E b, 0)
  len : ∀ b, b.length = n → (E b).length = n
variable {c : CT} {back : Bool} {n : Nat} {E : List Int → List Int}
theorem block_e (h : Bk c back n E) {b : List Int} (hb : b.length = n) : Ev (fun k => modes_Mode_block.f k (md c back) b) (E b, md c back) := by
  have := h.ev b hb
  cases back with
  | true => exact Ev.bind this (Ev.ret _)
  | false => exact Ev.bind this (Ev.ret _)
theorem step_l0 (h : Bk c back n E) : ∀ (q : Nat) (m o : List Int), m.length = q * n → o.length + q * n ≤ 100000000 → Ev (fun k => modes_Mode_Step.l0 k n (md c back) m o) (o ++ ecb E n q m, 0, md c back)
  | 0, m, o, hm, ho => by
    have : m = [] := List.eq_nil_of_length_eq_zero (by omega)
    subst this
    refine Ev.succ ?_
    simp only [modes_Mode_Step.l0]
    refine Ev.pos rfl ?_
    simp only [ecb, List.append_nil]
    exact Ev.ret _
  | q + 1, m, o, hm, ho => by
    have h2 : m.length = q * n + n := by rw [hm, Nat.add_mul, Nat.one_mul]
    have h3 : o.length + (q * n + n) ≤ 100000000 := by rw [Nat.add_mul, Nat.one_mul] at ho; exact ho
    have hp := h.two
    refine Ev.succ ?_
    simp only [modes_Mode_Step.l0]
    refine Ev.neg (by simp only [LB]; omega) (Ev.neg (by simp only [LB]; omega) (Ev.gd (by omega) (Ev.gd (by omega) ?_)))
    have e1 : ((m.take ((n : Int)).toNat).drop (0 : Int).toNat) = m.take n := by simp
    have e2 : ((m.take ((m.length : Int)).toNat).drop ((n : Int)).toNat) = m.drop n := by simp
    have hl : (m.take n).length = n := by rw [List.length_take]; omega
    rw [e1, e2]
    refine Ev.bind (block_e h hl) ?_
    have h4 := h.len _ hl
    refine Ev.gd (by show o.length + (E (m.take n)).length ≤ 1000000000; rw [h4]; omega) (Ev.gd (by omega) (Ev.gd (by omega) ?_))
    have := step_l0 h q (m.drop n) (o ++ E (m.take n)) (by rw [List.length_drop]; omega) (by rw [List.length_append, h4]; omega)
    rw [List.append_assoc] at this
    exact this
theorem grain_e (h : Bk c back n E) : Ev (fun k => modes_Mode_Grain.f k (md c back)) (n : Int) := by
  refine Ev.of 0 (fun m => ?_)
  show ((cipher_Cipher_Size.f m c).bind fun t7 => some t7) = some (n : Int)
  rw [h.size]; rfl
theorem step_e (h : Bk c back n E) {q : Nat} {m : List Int} (hm : m.length = q * n) (hl : m.length ≤ 100000000) : Ev (fun k => modes_Mode_Step.f k (md c back) m) (ecb E n q m, 0, md c back) := by
  simp only [modes_Mode_Step.f]
  refine Ev.bind (grain_e h) ?_
  have h2 := h.two
  have e : Int.tmod (m.length : Int) (n : Int) = 0 := by
    rw [hm, Int.tmod_eq_emod_of_nonneg (by omega)]
    push_cast
    exact Int.mul_emod_left _ _
  refine Ev.gn (by omega) (Ev.gn (by rw [e]; omega) (Ev.gd (by omega) (Ev.gd (by omega) ?_)))
  exact step_l0 h q m [] hm (by simp only [List.length_nil]; omega)
def st (b1 : Bool) (t : Int) (c : CT) (back : Bool) (held last : List Int) : XT := (true, b1, t, 1, 4, back, some c, [], md c back, held, last)
theorem turn_e (h : Bk c back n E) {q : Nat} {m : List Int} (hm : m.length = q * n) (hl : m.length ≤ 100000000) {b1 : Bool} {t : Int} {held last : List Int} :
    Ev (fun k => ctx_Ctx_turn.f k (st b1 t c back held last) m) (ecb E n q m, st b1 t c back held last) := by
  simp only [ctx_Ctx_turn.f]
  refine Ev.bind (step_e h hm hl) ?_
  refine Ev.bind (F := fun k => ctx_refuse.f k _) (r := ()) (Ev.of 0 fun _ => rfl) ?_
  refine Ev.bind (F := fun _ => (some c : Option CT)) (Ev.ret c) ?_
  refine Ev.bind (F := fun k => cipher_Cipher_Size.f k c) (r := (n : Int)) (Ev.of 0 fun m => h.size m) ?_
  refine Ev.bind (F := fun k => ctx_Ctx_stolen.f k _) (r := false) (Ev.of 0 fun _ => rfl) ?_
  exact Ev.of 0 fun _ => rfl
theorem most_e (h : Bk c back n E) {b1 : Bool} {t : Int} {held last : List Int} :
    Ev (fun k => ctx_Ctx_most.f k (true, b1, t, 1, 4, back, some c, [], some (md c back), held, last)) (I64 ((n : Int) - 1)) := by
  simp only [ctx_Ctx_most.f]
  have h2 := h.two
  refine Ev.bind (F := fun _ => (some c : Option CT)) (Ev.ret c) ?_
  refine Ev.bind (F := fun k => cipher_Cipher_Size.f k c) (r := (n : Int)) (Ev.of 0 fun m => h.size m) ?_
  refine Ev.bind (F := fun _ => some (md c back)) (Ev.ret (md c back)) ?_
  refine Ev.bind (grain_e h) ?_
  refine Ev.neg (by simp only [LB]; omega) ?_
  refine Ev.bind (F := fun k => ctx_Ctx_stolen.f k _) (r := false) (Ev.of 0 fun _ => rfl) ?_
  exact Ev.of 0 fun _ => rfl
theorem clone_e {a : List Int} (h : a.length ≤ 1000000000) : Ev (fun k => slices_Clone_byte_byte.f k a) a := by
  simp only [slices_Clone_byte_byte.f]
  exact Ev.gd (by simp only [LN]; omega) (Ev.ret _)
theorem update_l0 (h : Bk c back n E) {t : Int} {held last a w : List Int} (hw : held ++ a = w) (hl : w.length ≤ 100000000) {rem : Nat} (hr : rem < n) : ∀ (r : Nat) {x : Nat}, w.length = x + r * n + rem → (∃ j, x = j * n) →
    Ev (fun k => ctx_Ctx_Update.l0 k (st true t c back held last) a ((n : Int) - 1) n (x : Int)) (ecb E n ((w.length - rem) / n) (w.take (w.length - rem)), 0, st true t c back (w.drop (w.length - rem)) last)
  | 0, x, hx, hj => by
    obtain ⟨j, rfl⟩ := hj
    have h2 := h.two
    have hx' : w.length - rem = j * n := by omega
    have hq : (w.length - rem) / n = j := by rw [hx']; exact Nat.mul_div_cancel _ (by omega)
    refine Ev.succ ?_
    simp only [ctx_Ctx_Update.l0]
    refine Ev.sb (Ev.gn ?_ (Ev.gd (by omega) (Ev.gd ?_ ?_)))
    · show ¬ I64 (((held ++ a).length : Int) - ((j * n : Nat) : Int)) > (n : Int) - 1
      rw [hw, I64i (by omega)]; omega
    · show ((j * n : Nat) : Int) ≤ ((held ++ a).length : Int)
      rw [hw]; omega
    have e1 : (((held ++ a).take (((j * n : Nat) : Int)).toNat).drop (0 : Int).toNat) = w.take (j * n) := by rw [hw, Int.toNat_natCast]; rfl
    have ht := turn_e h (q := j) (m := w.take (j * n)) (by rw [List.length_take]; omega) (by rw [List.length_take]; omega) (b1 := true) (t := t) (held := w) (last := last)
    rw [hq, hx']
    refine Ev.bind (r := (ecb E n j (w.take (j * n)), st true t c back w last)) ?_ ?_
    · rw [← e1] at ht ⊢
      rw [← hw] at ht ⊢
      exact ht
    · refine Ev.gd (by omega) (Ev.gd ?_ (Ev.bind (r := w.drop (j * n)) ?_ (Ev.ret _)))
      · show ((j * n : Nat) : Int) ≤ (w.length : Int); omega
      · show Ev (fun k => slices_Clone_byte_byte.f k ((w.take ((w.length : Int)).toNat).drop (((j * n : Nat) : Int)).toNat)) _
        have e2 : ((w.take ((w.length : Int)).toNat).drop (((j * n : Nat) : Int)).toNat) = w.drop (j * n) := by rw [Int.toNat_natCast, Int.toNat_natCast, List.take_length]
        rw [e2]
        exact clone_e (by rw [List.length_drop]; omega)
  | r + 1, x, hx, hj => by
    have h2 := h.two
    have h3 : w.length = x + n + r * n + rem := by rw [hx, Nat.add_mul, Nat.one_mul]; omega
    refine Ev.succ ?_
    simp only [ctx_Ctx_Update.l0]
    refine Ev.sb (Ev.gd ?_ ?_)
    · show I64 (((held ++ a).length : Int) - (x : Int)) > (n : Int) - 1
      rw [hw, I64i (by omega)]; omega
    · rw [I64i (by have := h.le; omega), show (x : Int) + (n : Int) = ((x + n : Nat) : Int) by omega]
      exact update_l0 h hw hl hr r h3 (by obtain ⟨j, rfl⟩ := hj; exact ⟨j + 1, by rw [Nat.add_mul, Nat.one_mul]⟩)
theorem update_e (h : Bk c back n E) {t : Int} {held last a w : List Int} (hw : held ++ a = w) (hl : w.length ≤ 100000000) :
    Ev (fun k => ctx_Ctx_Update.f k (st true t c back held last) a) (ecb E n (w.length / n) (w.take (w.length / n * n)), 0, st true t c back (w.drop (w.length / n * n)) last) := by
  have h2 := h.two
  have hm : w.length % n < n := Nat.mod_lt _ (by omega)
  have hd : w.length / n * n + w.length % n = w.length := Nat.div_add_mod' _ _
  have e1 : w.length - w.length % n = w.length / n * n := by omega
  have e2 : (w.length - w.length % n) / n = w.length / n := by rw [e1]; exact Nat.mul_div_cancel _ (by omega)
  have := update_l0 h (t := t) (last := last) hw hl hm (w.length / n) (x := 0) (by omega) ⟨0, by omega⟩
  rw [e1, ← e1, e2, e1] at this
  simp only [ctx_Ctx_Update.f]
  refine Ev.bind (F := fun k => ctx_Ctx_need.f k _) (r := ()) (Ev.of 0 fun _ => rfl) ?_
  refine Ev.gd ?_ (Ev.bind (most_e h (b1 := true) (t := t) (held := held ++ a) (last := last)) (Ev.bind (grain_e h) ?_))
  · show held.length + a.length ≤ 1000000000
    have : held.length + a.length = w.length := by rw [← hw, List.length_append]
    omega
  · rw [I64i (by have := h.le; omega)]
    exact this
theorem end_e (h : Bk c back n E) {t : Int} {last : List Int} : Ev (fun k => ctx_Ctx_end.f k (st false t c back [] last) []) (([] : List Int), st false t c back [] last) := by
  simp only [ctx_Ctx_end.f]
  refine Ev.bind (F := fun _ => (some c : Option CT)) (Ev.ret c) ?_
  refine Ev.bind (F := fun k => cipher_Cipher_Size.f k c) (r := (n : Int)) (Ev.of 0 fun m => h.size m) ?_
  refine Ev.bind (F := fun k => ctx_Ctx_stolen.f k _) (r := false) (Ev.of 0 fun _ => rfl) ?_
  refine Ev.neg (by decide) (Ev.pos rfl ?_)
  exact Ev.bind (turn_e h (q := 0) (m := []) (by simp) (by simp) (b1 := false) (t := t) (held := []) (last := last)) (Ev.of 0 fun _ => rfl)
theorem final_e (h : Bk c back n E) {t : Int} {last : List Int} : Ev (fun k => ctx_Ctx_Final.f k (st true t c back [] last)) (([] : List Int), 0, st false t c back [] last) := by
  simp only [ctx_Ctx_Final.f]
  refine Ev.bind (F := fun k => ctx_Ctx_need.f k _) (r := ()) (Ev.of 0 fun _ => rfl) ?_
  exact Ev.bind (end_e h (t := t) (last := last)) (Ev.of 0 fun _ => rfl)
theorem split_ok {D p : List Int} {n q : Nat} (hn : 1 < n) (hq : q = D.length / n) :
    (D ++ p).length / n = q + (D.drop (q * n) ++ p).length / n ∧ (D ++ p).take ((q + (D.drop (q * n) ++ p).length / n) * n) = D.take (q * n) ++ (D.drop (q * n) ++ p).take ((D.drop (q * n) ++ p).length / n * n)
      ∧ (D ++ p).drop ((q + (D.drop (q * n) ++ p).length / n) * n) = (D.drop (q * n) ++ p).drop ((D.drop (q * n) ++ p).length / n * n) := by
  have h1 : q * n ≤ D.length := by rw [hq]; exact Nat.div_mul_le_self _ _
  have hA : (D.take (q * n)).length = q * n := by rw [List.length_take]; omega
  have e : D ++ p = D.take (q * n) ++ (D.drop (q * n) ++ p) := by rw [← List.append_assoc, List.take_append_drop]
  generalize hw : D.drop (q * n) ++ p = w at e ⊢
  have hl : (D ++ p).length = w.length + q * n := by rw [e, List.length_append, hA]; omega
  have h2 : (q + w.length / n) * n = q * n + w.length / n * n := Nat.add_mul _ _ _
  refine ⟨?_, ?_, ?_⟩
  · rw [hl, Nat.add_mul_div_right _ _ (by omega)]; omega
  · rw [e, h2, List.take_append, hA, List.take_of_length_le (by omega), show q * n + w.length / n * n - q * n = w.length / n * n by omega]
  · rw [e, h2, List.drop_append, hA, List.drop_of_length_le (by omega), List.nil_append, show q * n + w.length / n * n - q * n = w.length / n * n by omega]
theorem flat_take {l : List (List Int)} (i : Nat) : (l.take i).flatten.length ≤ l.flatten.length := by
  have : l.flatten = (l.take i).flatten ++ (l.drop i).flatten := by rw [← List.flatten_append, List.take_append_drop]
  rw [this, List.length_append]; omega
theorem seal_l0 (h : Bk c back n E) {t : Int} {last : List Int} {a3 : List (List Int)} {m : List Int} (hm : a3.flatten = m) (hl : m.length ≤ 100000000) (hL : a3.length ≤ 1000) {Q : Nat} (hQ : m.length = Q * n) :
    ∀ (r : Nat) {i : Nat}, a3.length = i + r → ∀ {D : List Int}, (a3.take i).flatten = D → Ev (fun k => run_Seal.l0 k a3 (st true t c back (D.drop (D.length / n * n)) last) (ecb E n (D.length / n) (D.take (D.length / n * n))) (i : Int)) (ecb E n Q m, 0)
  | 0, i, hi, D, hD => by
    have h2 := h.two
    have e : D = m := by rw [← hD, ← hm, List.take_of_length_le (by omega)]
    subst e
    have hq : D.length / n = Q := by rw [hQ]; exact Nat.mul_div_cancel _ (by omega)
    rw [hq, ← hQ, List.drop_length, List.take_length]
    refine Ev.succ ?_
    simp only [run_Seal.l0]
    refine Ev.gn (by omega) (Ev.bind (final_e h) (Ev.neg (fun e_ => by cases e_) ?_))
    refine Ev.bind (Concat_ev (x := ecb E n Q D) (y := []) (by rw [ecb_length h.len Q D hQ]; omega) (by simp)) ?_
    rw [List.append_nil]; exact Ev.ret _
  | r + 1, i, hi, D, hD => by
    have h2 := h.two
    have hDl : D.length ≤ m.length := by rw [← hD, ← hm]; exact flat_take i
    have hp : Scr.rdr ([] : List Int) a3 (i : Int) = a3[i] := by
      unfold Scr.rdr; rw [Int.toNat_natCast, List.getD_eq_getElem?_getD, List.getElem?_eq_getElem (by omega)]; rfl
    have hD' : (a3.take (i + 1)).flatten = D ++ a3[i] := by
      rw [List.take_add_one, List.getElem?_eq_getElem (by omega), List.flatten_append, hD]; simp
    have hl' : (D ++ a3[i]).length ≤ m.length := by rw [← hD', ← hm]; exact flat_take (i + 1)
    obtain ⟨s1, s2, s3⟩ := split_ok (D := D) (p := a3[i]) h2 rfl
    have hrec := seal_l0 h (t := t) (last := last) hm hl hL hQ r (i := i + 1) (by omega) hD'
    rw [s1, s2, s3, ecb_add _ _ _ (by rw [List.length_take]; have := Nat.div_mul_le_self D.length n; omega)] at hrec
    have hw : (D.drop (D.length / n * n) ++ a3[i]).length ≤ 100000000 := by
      rw [List.length_append] at hl' ⊢; rw [List.length_drop]; omega
    refine Ev.succ ?_
    simp only [run_Seal.l0]
    refine Ev.gd (by omega) (Ev.gd (by omega) (Ev.gd (by omega) ?_))
    rw [hp]
    refine Ev.bind (update_e h (t := t) (last := last) (a := a3[i]) rfl hw) (Ev.neg (fun e_ => by cases e_) (Ev.gd ?_ ?_))
    · show (ecb E n (D.length / n) (D.take (D.length / n * n))).length + (ecb E n ((D.drop (D.length / n * n) ++ a3[i]).length / n) ((D.drop (D.length / n * n) ++ a3[i]).take ((D.drop (D.length / n * n) ++ a3[i]).length / n * n))).length ≤ 1000000000
      rw [ecb_length h.len _ _ (by rw [List.length_take]; have := Nat.div_mul_le_self D.length n; omega), ecb_length h.len _ _ (by rw [List.length_take]; have := Nat.div_mul_le_self (D.drop (D.length / n * n) ++ a3[i]).length n; omega)]
      have := Nat.div_mul_le_self D.length n
      have := Nat.div_mul_le_self (D.drop (D.length / n * n) ++ a3[i]).length n
      omega
    · rw [I64i (by omega), show (i : Int) + 1 = ((i + 1 : Nat) : Int) by omega]
      exact hrec
theorem check_e {t : Int} {key : List Int} (hN : Ev (fun k => cipher_New.f k t key) (some c, 0)) (hS : ∀ k, cipher_Cipher_Size.f k c = some (n : Int)) : Ev (fun k => shot_Check.f k (t, 1, 4, back) key []) 0 := by
  simp only [shot_Check.f, shot_open.f]
  refine Ev.bind (r := (some c, 0)) (Ev.bind hN ?_) (Ev.ret _)
  refine Ev.neg (fun e_ => by cases e_) (Ev.bind (r := 1) (Ev.of 0 fun _ => rfl) (Ev.bind (F := fun _ => (some c : Option CT)) (Ev.ret c) (Ev.bind (F := fun k => cipher_Cipher_Size.f k c) (r := (n : Int)) (Ev.of 0 fun m => hS m) ?_)))
  exact Ev.of 0 fun _ => rfl
theorem init_e {t : Int} {key : List Int} (hN : Ev (fun k => cipher_New.f k t key) (some c, 0)) (hS : ∀ k, cipher_Cipher_Size.f k c = some (n : Int)) :
    ∃ last, Ev (fun k => ctx_Ctx_Init.f k (false, false, 0, 0, 0, false, none, [], none, [], []) (t, 1, 4, back) key []) (0, st true t c back [] last) := by
  refine ⟨[], ?_⟩
  simp only [ctx_Ctx_Init.f]
  refine Ev.bind (check_e hN hS) (Ev.neg (fun e_ => by cases e_) (Ev.bind hN (Ev.bind (F := fun _ => (some c : Option CT)) (Ev.ret c) ?_)))
  refine Ev.bind (F := fun k => slices_Clone_byte_byte.f k []) (r := []) (clone_e (by simp)) ?_
  refine Ev.bind (F := fun k => ctx_Ctx_begin.f k _) (r := st true t c back [] []) ?_ (Ev.of 0 fun _ => rfl)
  simp only [ctx_Ctx_begin.f]
  refine Ev.bind (F := fun k => ctx_Ctx_stolen.f k _) (r := false) (Ev.of 0 fun _ => rfl) ?_
  refine Ev.neg (by decide) (Ev.bind (F := fun _ => (some c : Option CT)) (Ev.ret c) ?_)
  refine Ev.bind (F := fun k => modes_New.f k c 1 back []) (r := (md c back, 0)) ?_ (Ev.bind (F := fun k => slices_Clone_byte_byte.f k []) (r := []) (clone_e (by simp)) (Ev.of 0 fun _ => rfl))
  simp only [modes_New.f]
  refine Ev.bind (F := fun k => cipher_Cipher_Size.f k c) (r := (n : Int)) (Ev.of 0 fun m => hS m) ?_
  refine Ev.pos rfl (Ev.neg (fun e_ => by cases e_) ?_)
  exact Ev.bind (F := fun k => slices_Clone_byte_byte.f k []) (r := []) (clone_e (by simp)) (Ev.of 0 fun _ => rfl)
theorem seal_e (h : Bk c back n E) {t : Int} {key : List Int} (hN : Ev (fun k => cipher_New.f k t key) (some c, 0)) {a3 : List (List Int)} {m : List Int} (hm : a3.flatten = m) (hl : m.length ≤ 100000000) (hL : a3.length ≤ 1000) {Q : Nat} (hQ : m.length = Q * n) :
    Ev (fun k => run_Seal.f k (t, 1, 4, back) key [] a3) (ecb E n Q m, 0) := by
  obtain ⟨last, hi⟩ := init_e (c := c) (n := n) (back := back) hN h.size
  simp only [run_Seal.f]
  refine Ev.bind (F := fun k => ctx_New.f k) (r := (false, false, 0, 0, 0, false, none, [], none, [], [])) (Ev.of 0 fun _ => rfl) (Ev.bind hi (Ev.neg (fun e_ => by cases e_) ?_))
  have := seal_l0 h (t := t) (last := last) hm hl hL hQ a3.length (i := 0) (by omega) (D := []) (by simp)
  simp only [List.length_nil, Nat.zero_div, Nat.zero_mul, List.drop_nil, List.take_nil, ecb] at this
  exact this
end Go.Scr.S

namespace Go.Scr.S
variable {c : CT} {back : Bool} {n : Nat} {E : List Int → List Int}
theorem size_e {t : Int} (h : 1 ≤ t) (h' : t ≤ 8) (hc : c.1 = t) (k : Nat) : cipher_Cipher_Size.f k c = some (szT t : Int) := by
  obtain ⟨u, c⟩ := c
  have hc' : u = t := hc
  subst hc'
  have c : u = 1 ∨ u = 2 ∨ u = 3 ∨ u = 4 ∨ u = 5 ∨ u = 6 ∨ u = 7 ∨ u = 8 := by omega
  rcases c with rfl | rfl | rfl | rfl | rfl | rfl | rfl | rfl <;> rfl
theorem bk_of {t : Int} (h : 1 ≤ t) (h' : t ≤ 8) (hc : c.1 = t) (hw : Cw (szT t) c) : ∃ E, Bk c back (szT t) E := by
  have hz : szT t = 8 ∨ szT t = 16 := by unfold szT; split <;> simp
  have g : ∀ b : List Int, b.length = szT t → ∃ o : List Int, Ev (fun k => way c back k b) (o, 0) ∧ o.length = szT t := fun b hb => by
    have : Tt (fun k => way c back k b) (fun r => r.1.length = szT t ∧ r.2 = 0) := by
      cases back with
      | true => exact cipher_Cipher_Dec.t hw hb
      | false => exact cipher_Cipher_Enc.t hw hb
    obtain ⟨⟨o, e⟩, h1, h2, h3⟩ := this
    have h3' : e = 0 := h3
    subst h3'
    exact ⟨o, h1, h2⟩
  refine ⟨fun b => if hb : b.length = szT t then (g b hb).choose else [], by omega, by omega, fun k => size_e h h' hc k, fun b hb => ?_, fun b hb => ?_⟩
  · simp only [dif_pos hb]; exact (g b hb).choose_spec.1
  · simp only [dif_pos hb]; exact (g b hb).choose_spec.2
theorem ecb_block (hE : ∀ b, b.length = n → (E b).length = n) : ∀ (Q : Nat) {m : List Int}, m.length = Q * n → ∀ {j : Nat}, j < Q → ((ecb E n Q m).take ((j + 1) * n)).drop (j * n) = E ((m.take ((j + 1) * n)).drop (j * n))
  | 0, _, _, _, hj => absurd hj (Nat.not_lt_zero _)
  | Q + 1, m, hm, 0, _ => by
    have h2 : m.length = Q * n + n := by rw [hm, Nat.add_mul, Nat.one_mul]
    have h1 := hE (m.take n) (by rw [List.length_take]; omega)
    simp only [Nat.zero_add, Nat.one_mul, Nat.zero_mul, List.drop_zero, ecb]
    rw [List.take_append_of_le_length (by omega), List.take_of_length_le (by omega)]
  | Q + 1, m, hm, j + 1, hj => by
    have h2 : m.length = Q * n + n := by rw [hm, Nat.add_mul, Nat.one_mul]
    have h1 := hE (m.take n) (by rw [List.length_take]; omega)
    have r := ecb_block hE Q (m := m.drop n) (by rw [List.length_drop]; omega) (j := j) (by omega)
    have e1 : (j + 1 + 1) * n = n + (j + 1) * n := by rw [Nat.add_mul (j + 1), Nat.one_mul]; omega
    have e2 : (j + 1) * n = n + j * n := by rw [Nat.add_mul, Nat.one_mul]; omega
    show ((E (m.take n) ++ ecb E n Q (m.drop n)).take ((j + 1 + 1) * n)).drop ((j + 1) * n) = _
    rw [e1, List.take_append, h1, List.take_of_length_le (by omega), show n + (j + 1) * n - n = (j + 1) * n by omega]
    conv => lhs; rw [show (j + 1) * n = n + j * n from e2]
    rw [List.drop_append, h1, List.drop_of_length_le (by omega), List.nil_append, show n + j * n - n = j * n by omega, ← e2, r]
    congr 1
    rw [List.take_drop, List.drop_drop]
    rw [show n + (j + 1) * n = (j + 1) * n + n by omega, e2]
theorem top_l0 (h : Bk c back n E) (hEnc : ∀ b, b.length = n → Tt (fun k => cipher_Cipher_Enc.f k c b) (fun _ => True)) {a3 m : List Int} {Q : Nat} {y : Int} (hm : (a3.take (y : Int).toNat).drop (0 : Int).toNat = m) (hQ : m.length = Q * n) (hl : m.length ≤ 1000) :
    ∀ (r : Nat) {j : Nat}, Q = j + r → Tt (fun k => scrimtop_TopEcb.l0 k a3 back c n (ecb E n Q m, 0) y ((j * n : Nat) : Int)) (fun b => b = true)
  | 0, j, hj => by
    refine Tt.succ ?_
    simp only [scrimtop_TopEcb.l0, hm]
    have : Q = j := by omega
    subst this
    exact Tt.sb (Tt.gn (by omega) (Tt.ret rfl))
  | r + 1, j, hj => by
    have h2 := h.two
    have e1 : (j + 1) * n = j * n + n := by rw [Nat.add_mul, Nat.one_mul]
    have hlt : (j + 1) * n ≤ Q * n := Nat.mul_le_mul_right n (by omega)
    have hx := ecb_length h.len Q m hQ
    have eI : I64 (((j * n : Nat) : Int) + (n : Int)) = (((j + 1) * n : Nat) : Int) := by rw [I64i (by omega)]; omega
    have hb : ((m.take ((j + 1) * n)).drop (j * n)).length = n := by rw [List.length_drop, List.length_take]; omega
    have hblk := ecb_block h.len Q hQ (j := j) (by omega)
    have hrec := top_l0 h hEnc hm hQ hl r (j := j + 1) (by omega)
    have hev := h.ev _ hb
    refine Tt.succ ?_
    simp only [scrimtop_TopEcb.l0, hm, eI, Int.toNat_natCast, hblk]
    refine Tt.sb (Tt.gd (by omega) (Tt.gd (by omega) (Tt.gd (by omega) (Tt.gd (by omega) ?_))))
    cases back with
    | true =>
      refine Tt.bind (hEnc _ hb) (fun _ _ => Tt.pos rfl (Tt.gd (by omega) (Tt.gd (by omega) (Tt.gd (by omega) (Tt.ebind hev ?_)))))
      refine Tt.gd (by omega) (Tt.gd (by omega) (Tt.gd (by omega) (Tt.sb (Tt.neg (by simp) hrec))))
    | false =>
      refine Tt.ebind hev (Tt.neg (by decide) ?_)
      refine Tt.gd (by omega) (Tt.gd (by omega) (Tt.gd (by omega) (Tt.sb (Tt.neg (by simp) hrec))))
theorem known_e : Ev (fun k => scrimtop_known.f k) true := Ev.of 400 fun m => by kernel_rfl
theorem TopEcb_t {a0 a1 : Int} {a2 a3 a4 : List Int} {a5 : Bool} (hb : Bw 0 255 a2) : Tt (fun k => scrimtop_TopEcb.f k a0 a1 a2 a3 a4 a5) (fun b => b = true) := by
  simp only [scrimtop_TopEcb.f]
  refine Tt.ebind known_e (Tt.neg (by decide) (Tt.di (fun _ => Tt.ret rfl) (fun hl => ?_)))
  refine Tt.bind Tag_t (fun t ht => Tt.bind (Key_t ht.1 ht.2 hb) (fun key hk => ?_))
  obtain ⟨r, hN, c, rfl, hw, hc⟩ := cipher_New.t hk.1 hk.2
  obtain ⟨E, h⟩ := bk_of (back := a5) ht.1 ht.2 hc hw
  refine Tt.ebind hN (Tt.pos rfl (Tt.ebind (F := fun _ => (some c : Option CT)) (Ev.ret c) (Tt.ebind (Size_e ht.1 ht.2) ?_)))
  have h2 := h.two
  have h3 := h.le
  generalize szT t = n at *
  refine Tt.gn (by omega) (Tt.sb ?_)
  have hq : a3.length / n * n ≤ a3.length := Nat.div_mul_le_self _ _
  have ey : I64 (I64 (Int.tdiv (a3.length : Int) (n : Int)) * (n : Int)) = ((a3.length / n * n : Nat) : Int) := by
    have e : Int.tdiv (a3.length : Int) (n : Int) = ((a3.length / n : Nat) : Int) := by rw [Int.tdiv_eq_ediv_of_nonneg (by omega)]; rfl
    have h5 : a3.length / n ≤ a3.length := Nat.div_le_self _ _
    have e7 : ∀ q : Nat, q ≤ a3.length → I64 (q : Int) = (q : Int) := fun q _ => I64i (by omega)
    have e6 := e7 _ h5
    rw [e, e6, show ((a3.length / n : Nat) : Int) * (n : Int) = ((a3.length / n * n : Nat) : Int) from (Int.natCast_mul _ _).symm, e7 _ hq]
  rw [ey]
  have hm : (a3.take (((a3.length / n * n : Nat) : Int)).toNat).drop (0 : Int).toNat = a3.take (a3.length / n * n) := by rw [Int.toNat_natCast]; rfl
  have hQ : (a3.take (a3.length / n * n)).length = a3.length / n * n := by rw [List.length_take]; omega
  refine Tt.gd (by omega) (Tt.gd (by omega) ?_)
  simp only [hm]
  refine Tt.bind Cut_t (fun ps hp => ?_)
  refine Tt.ebind (seal_e h hN hp.1 (by omega) (by omega) hQ) (Tt.neg (fun e_ => by cases e_) (Tt.sb (Tt.neg ?_ ?_)))
  · simp only [LB]
    have := ecb_length h.len _ _ hQ
    omega
  · have := top_l0 h (fun b hb' => (cipher_Cipher_Enc.t hw hb').mono fun _ _ => trivial) hm hQ (by omega) (a3.length / n) (j := 0) (by omega)
    rw [Nat.zero_mul] at this
    exact this
end Go.Scr.S

namespace Go.Scr.S
theorem TopEcb (a0 a1 : Int) (a2 a3 a4 : List Int) (a5 : Bool) (h0 : In .i64 a0) (h1 : In .i64 a1) (h2 : a2.length ≤ maxLen) (h3 : ∀ x ∈ a2, In .u8 x) (h4 : a3.length ≤ maxLen) (h5 : ∀ x ∈ a3, In .u8 x) (h6 : a4.length ≤ maxLen) (h7 : ∀ x ∈ a4, In .i64 x) : ∃ k, scrimtop_TopEcb.f k a0 a1 a2 a3 a4 a5 = some true := by
  have hb : Bw 0 255 a2 := fun x hx => by
    have h : 0 ≤ x ∧ x < 256 := h3 x hx
    omega
  obtain ⟨b, he, rfl⟩ := TopEcb_t (a0 := a0) (a1 := a1) (a3 := a3) (a4 := a4) (a5 := a5) hb
  exact he.get
end Go.Scr.S
