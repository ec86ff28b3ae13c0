/- Regions whose order is open. -/
import Derived.Test.YtdemmfohkhpklaaGreatDoorXOps
/- A region whose order is open. -/
set_option linter.unnecessarySimpa false
set_option linter.unusedVariables false
set_option linter.unusedSimpArgs false
namespace Go.Scr
open Go.RowKit (Below)
variable {D : List Deferred}

def lst (ops : Array Oper) (dn : List Nat) : Array Bool := dn.foldl (fun l i => l.setIfInBounds i true) (Array.replicate ops.size false)

theorem lst_snoc (ops : Array Oper) (dn : List Nat) (i : Nat) : lst ops (dn ++ [i]) = (lst ops dn).setIfInBounds i true := by simp [lst, List.foldl_append]

def RunAny (P : Program) (R : Ending → World → Prop) (f : FuncId) (k : List Item) (n : Nat) (ops : Array Oper) (S : World → Prop) (fuel : Nat) (dn : List Nat) (L : Env) (w : World) (D : List Deferred := []) : Prop :=
  ∀ a, Fr n a L D → wpAnyH P .any ops (fun e a' w' => e = .normal ∧ Run P R f k a' w') S fuel (lst ops dn) a w

def opsOf : List Item → Array Oper
  | .code (.region _ ops true) :: _ => ops
  | _ => #[]
def isDraw : List Item → Bool
  | .code (.region _ _ true) :: _ => true
  | _ => false
def rest1 : List Item → List Item
  | _ :: k => k
  | [] => []

section
variable {P : Program} {R : Ending → World → Prop} {f : FuncId} {k k2 : List Item} {n : Nat} {ops : Array Oper} {S S' : World → Prop} {L L' : Env} {w w' : World} {fuel : Nat} {dn : List Nat}

theorem RunF.draw (S : World → Prop) (hd : isDraw k = true) (hm : P.follows .mixedOrders = true)
    (r : RunAny P R f (rest1 k) n (opsOf k) S (opsOf k).size [] L { w with drawn := w.drawn + 1 } D) : RunF P R f k n L w D := by
  unfold isDraw at hd
  split at hd
  · rename_i id ops k'
    intro a hF
    exact Run.of_wp (wp_region_held hm (r a hF))
  · cases hd

def side (ops : Array Oper) (dn : List Nat) (i : Nat) : Bool :=
  bif Region.noSelect ops then bif Region.free .any ops (lst ops dn) i then (Region.ready .any ops (lst ops dn)).contains i else false else false

theorem side_spec {i : Nat} (h : side ops dn i = true) : Region.noSelect ops = true ∧ Region.free .any ops (lst ops dn) i = true ∧ (Region.ready .any ops (lst ops dn)).contains i = true := by
  unfold side at h
  cases h1 : Region.noSelect ops with
  | false => rw [h1] at h; cases h
  | true =>
    rw [h1, cond_true] at h
    cases h2 : Region.free .any ops (lst ops dn) i with
    | false => rw [h2] at h; cases h
    | true =>
      rw [h2, cond_true] at h
      exact ⟨rfl, rfl, h⟩

def one (ops : Array Oper) (i : Nat) : List Item := [.inRegion ops [i]]

theorem cur_one {i : Nat} {o : Oper} (h : cur n (one ops i) L = some (o, k2)) : ops[i]? = some o ∧ (∀ t, o.dst = some t → t < n) ∧ wants ops L o = some true ∧ okOp L o = true := by
  obtain ⟨ops', i', rest, k', he, h2, h3, h4, h5, h6⟩ := cur_spec h
  unfold one at he
  injection he with he1 he2
  injection he1 with he1 he3
  injection he3 with he3 he4
  subst he1; subst he3
  exact ⟨h3, h4, h5, h6⟩

theorem RunAny.y (i : Nat) {d : Option Nat} {v : Value} (hs : side ops dn i = true) (hy : Yl P n (one ops i) L S' d v k2) (himp : ∀ w, S w → S' w) (hS : S w)
    (r : RunAny P R f k n ops S fuel (dn ++ [i]) (upd L d v) w D) : RunAny P R f k n ops S (fuel + 1) dn L w D := by
  obtain ⟨o, hc, rfl, hr⟩ := hy
  obtain ⟨ho, hd, hw, hk⟩ := cur_one hc
  obtain ⟨s1, s2, s3⟩ := side_spec hs
  intro a hF
  refine wpAnyH_take ho s1 s2 s3 (by rintro c a w ⟨h, _⟩; cases h) (.inl ⟨hF.wants_eq hw, fun w hw' => by rw [hF.exec hk]; exact hr w (himp w hw')⟩) hS ?_
  rw [← lst_snoc]
  exact r _ (hF.put o.dst v hd)

theorem RunAny.off (i : Nat) {d : Option Nat} (hs : side ops dn i = true) (hw : (match ops[i]? with | some o => bif dstOk n o.dst then (match wants ops L o with | some false => some o.dst | _ => none) else none | none => none) = some d) (hS : S w)
    (r : RunAny P R f k n ops S fuel (dn ++ [i]) (upd L d undef) w D) : RunAny P R f k n ops S (fuel + 1) dn L w D := by
  obtain ⟨s1, s2, s3⟩ := side_spec hs
  split at hw
  · rename_i o ho
    cases hd : dstOk n o.dst with
    | false => rw [hd] at hw; cases hw
    | true =>
      rw [hd, cond_true] at hw
      split at hw
      · rename_i hwa
        injection hw with hw; subst hw
        intro a hF
        refine wpAnyH_take ho s1 s2 s3 (by rintro c a w ⟨h, _⟩; cases h) (.inr ⟨hF.wants_eq hwa, rfl⟩) hS ?_
        rw [← lst_snoc]
        exact r _ (hF.put o.dst undef (dstOk_spec hd))
      · cases hw
  · cases hw

theorem RunAny.sub (h : ∀ p ∈ L', p ∈ L) (r : RunAny P R f k n ops S fuel dn L' w D) : RunAny P R f k n ops S fuel dn L w D := fun a hF => r a (hF.sub h)

theorem RunAny.know (s : Nat) {t b : Bool} (hl : lk L s = some (.bool t)) (ht : t = b) (r : RunAny P R f k n ops S fuel dn (known L s b) w D) : RunAny P R f k n ops S fuel dn L w D := by
  subst ht
  refine r.sub fun p hp => ?_
  rcases List.mem_cons.1 hp with rfl | hp
  · exact lk_mem hl
  · exact (mem_del hp).1

theorem RunAny.done (hr : Region.ready .any ops (lst ops dn) = []) (r : RunF P R f k n L w D) : RunAny P R f k n ops S fuel dn L w D :=
  fun a hF => wpAnyH_done hr ⟨rfl, r a hF⟩ _

def Stepped (P : Program) (R : Ending → World → Prop) (f : FuncId) (k : List Item) (n : Nat) (ops : Array Oper) (S : World → Prop) (fuel : Nat) (dn : List Nat) (L : Env) (w : World) (i : Nat) (D : List Deferred := []) : Prop :=
  ∀ a, Fr n a L D → wpOp P ops (fun e a' w' => e = .normal ∧ Run P R f k a' w') i (fun a' w' => S w' ∧ wpAnyH P .any ops (fun e a' w' => e = .normal ∧ Run P R f k a' w') S fuel (lst ops (dn ++ [i])) a' w') a w
def Each (p : Nat → Prop) : List Nat → Prop
  | [] => True
  | i :: r => p i ∧ Each p r
theorem Each.mem {p : Nat → Prop} : ∀ {l : List Nat}, Each p l → ∀ i ∈ l, p i
  | [], _, i, hi => by cases hi
  | j :: r, h, i, hi => by
    rcases List.mem_cons.1 hi with rfl | hi
    · exact h.1
    · exact Each.mem h.2 i hi
theorem RunAny.all (is : List Nat) (hr : Region.ready .any ops (lst ops dn) = is) (hne : is ≠ []) (h : Each (fun i_ => Stepped P R f k n ops S fuel dn L w i_ D) is) : RunAny P R f k n ops S (fuel + 1) dn L w D := by
  intro a hF
  subst hr
  refine wpAnyH_all rfl hne fun j hj => ?_
  have := (Each.mem h j hj) a hF
  rw [lst_snoc] at this
  exact this
theorem Stepped.does (i : Nat) {d : Option Nat} {v : Value} (hy : Does P n (one ops i) L w d v w' k2) (hS : S w')
    (r : RunAny P R f k n ops S fuel (dn ++ [i]) (upd L d v) w' D) : Stepped P R f k n ops S fuel dn L w i D := by
  obtain ⟨o, hc, rfl, hx⟩ := hy
  obtain ⟨ho, hd, hw, hk⟩ := cur_one hc
  intro a hF
  unfold wpOp
  simp only [ho, hF.wants_eq hw, if_true]
  refine .inl ?_
  unfold Oper.wp
  rw [hF.exec hk, hx]
  exact ⟨hS, r _ (hF.put o.dst v hd)⟩
theorem Stepped.doesU (i : Nat) {d : Option Nat} (hy : DoesU P n (one ops i) L w d w' k2) (hS : S w')
    (r : RunAny P R f k n ops S fuel (dn ++ [i]) (upd L d undef) w' D) : Stepped P R f k n ops S fuel dn L w i D := by
  obtain ⟨o, hc, rfl, hx⟩ := hy
  obtain ⟨ho, hd, hw, hk⟩ := cur_one hc
  intro a hF
  unfold wpOp
  simp only [ho, hF.wants_eq hw, if_true]
  refine .inl ?_
  unfold Oper.wp
  rw [hF.exec hk, hx]
  exact ⟨hS, r _ (hF.put o.dst undef hd)⟩
theorem Stepped.call (i : Nat) {d : Option Nat} {g : FuncId} {args : Array Value} {T : Value → World → Prop} (h : callAt P n (one ops i) L w = some (d, g, args, [.inRegion ops []], w))
    (hc : Calls P g args w (Ret T)) (hS : ∀ v w', T v w' → S w') (r : ∀ v w', T v w' → RunAny P R f k n ops S fuel (dn ++ [i]) (upd L d v) w' D) : Stepped P R f k n ops S fuel dn L w i D := by
  unfold callAt at h
  split at h
  · rename_i o k3 hcur
    split at h
    · rename_i g' args' w1 hx
      injection h with h; injection h with h1 h2; injection h2 with h2 h3; injection h3 with h3 h4; injection h4 with h4 h5
      subst h1; subst h2; subst h3; subst h5
      obtain ⟨ho, hd, hw, hk⟩ := cur_one hcur
      intro a hF
      unfold wpOp
      simp only [ho, hF.wants_eq hw, if_true]
      refine .inl ?_
      unfold Oper.wp
      rw [hF.exec hk, hx]
      refine Calls.mono hc ?_
      rintro e w2 ⟨v, rfl, hT⟩
      exact ⟨hS v w2 hT, r v w2 hT _ (hF.put o.dst v hd)⟩
    · cases h
  · cases h
end

def Still (W : World) (G : List Value) (w : World) : Prop := W.heap.size ≤ w.heap.size ∧ ∀ b, b < W.heap.size → (∀ v ∈ G, blk v ≠ some b) → w.heap[b]? = W.heap[b]?

theorem Still.refl (W : World) (G : List Value) : Still W G W := ⟨Nat.le_refl _, fun _ _ _ => rfl⟩
theorem Still.below {W w w' : World} {G : List Value} (h : Still W G w) (hb : Below w.heap.size w w') : Still W G w' :=
  ⟨Nat.le_trans h.1 hb.size, fun b hlt hg => (hb.block b (Nat.lt_of_lt_of_le hlt h.1)).trans (h.2 b hlt hg)⟩
theorem Still.set {W w : World} {G : List Value} (h : Still W G w) {g i : Nat} {v : Value} (hv : v ∈ G) (hb : blk v = some g) (u : Value) : Still W G (w.setCell ⟨g, i, none⟩ u) := by
  refine ⟨by simpa [World.setCell] using h.1, fun b hlt hg => ?_⟩
  rw [Below.heap_setCell w ⟨g, i, none⟩ u b (fun e => hg v hv (by rw [hb, e]))]
  exact h.2 b hlt hg
theorem Still.cell {W w : World} {G : List Value} (h : Still W G w) {p : Addr} {u : Value} (hc : W.cell? p = some u) (hg : ∀ v ∈ G, blk v ≠ some p.block) : w.cell? p = some u := by
  have hlt := World.block_lt_of_cell? W _ hc
  rw [World.cell?_of_block (h.2 p.block hlt hg)]; exact hc

theorem Still.block {W w : World} {G : List Value} (h : Still W G w) {g : Nat} {o : Obj} (hb : W.heap[g]? = some o) (hg : ∀ v ∈ G, blk v ≠ some g) : w.heap[g]? = some o :=
  (h.2 g (Array.getElem?_eq_some_iff.1 hb).1 hg).trans hb

theorem Still.trans {W W1 w : World} {G : List Value} (h : Still W G W1) (h' : Still W1 G w) : Still W G w :=
  ⟨Nat.le_trans h.1 h'.1, fun b hlt hg => (h'.2 b (Nat.lt_of_lt_of_le hlt h.1) hg).trans (h.2 b hlt hg)⟩
theorem Still.app {W W1 w : World} {G : List Value} {v : Value} (h : Still W G W1) (h' : Still W1 [v] w) (hv : v ∈ G) : Still W G w :=
  ⟨Nat.le_trans h.1 h'.1, fun b hlt hg => (h'.2 b (Nat.lt_of_lt_of_le hlt h.1) (fun x hx => by rw [List.mem_singleton.1 hx]; exact hg v hv)).trans (h.2 b hlt hg)⟩
theorem Still.app0 {W W1 : World} {G : List Value} {A : Option Addr} {m c : Nat} (h : Still W G W1) {w : World} (h' : Still W1 [.slice A m c] w) (hA : A = none) : Still W G w := by
  subst hA
  exact ⟨Nat.le_trans h.1 h'.1, fun b hlt hg => (h'.2 b (Nat.lt_of_lt_of_le hlt h.1) (fun x hx => by rw [List.mem_singleton.1 hx]; simp [blk])).trans (h.2 b hlt hg)⟩

theorem wpAnyH_weaken {P : Program} {md : Region.Mode} {ops : Array Oper} {Q : Exit → Act → World → Prop} {S S2 : World → Prop} (h : ∀ w, S2 w → S w) :
    ∀ (fuel : Nat) (l : Array Bool) (a : Act) (w : World), wpAnyH P md ops Q S2 fuel l a w → wpAnyH P md ops Q S fuel l a w
  | 0, _, _, _, r => r
  | fuel + 1, _, _, _, r => ⟨r.1, fun i hi => wpOp_mono (fun a' w' hh => ⟨h w' hh.1, wpAnyH_weaken h fuel _ a' w' hh.2⟩) (r.2 i hi)⟩

theorem Yl.does {P : Program} {n : Nat} {k k2 : List Item} {L : Env} {S : World → Prop} {d : Option Nat} {v : Value} {w : World} (h : Yl P n k L S d v k2) (hS : S w) : Does P n k L w d v w k2 := by
  obtain ⟨o, h1, h2, h3⟩ := h
  exact ⟨o, h1, h2, h3 w hS⟩

/- Readiness by certificate: what each operation waits for, and which may be taken at any time, told once for a region. -/
def bitAt (m i : Nat) : Bool := Nat.beq (Nat.land (Nat.shiftRight m i) 1) 1
theorem bitAt_eq (m i : Nat) : bitAt m i = m.testBit i := by
  show Nat.beq ((m >>> i) &&& 1) 1 = _
  rw [Nat.testBit_eq_decide_div_mod_eq, Nat.and_one_is_mod, Nat.shiftRight_eq_div_pow]
  by_cases h : m / 2 ^ i % 2 = 1
  · rw [h]; rfl
  · rw [decide_eq_false h]
    exact Bool.eq_false_iff.2 fun e => h (Nat.eq_of_beq_eq_true e)
def maskOf : List Nat → Nat
  | [] => 0
  | i :: r => Nat.lor (Nat.shiftLeft 1 i) (maskOf r)
theorem maskOf_bit (j : Nat) : ∀ dn : List Nat, (maskOf dn).testBit j = decide (j ∈ dn)
  | [] => by simp [maskOf]
  | i :: r => by
    show ((1 <<< i) ||| maskOf r).testBit j = _
    rw [Nat.testBit_or, maskOf_bit j r, Nat.one_shiftLeft, Nat.testBit_two_pow]
    by_cases h : i = j
    · subst h; simp
    · have : ¬ j = i := fun e => h e.symm
      simp [h, this]
def needGo : List Edge → Nat
  | [] => 0
  | e :: r => bif Region.binds .any e then Nat.lor (Nat.shiftLeft 1 e.on) (needGo r) else needGo r
theorem needGo_bit (m : Nat) : ∀ l : List Edge, Nat.beq (Nat.land (needGo l) m) (needGo l) = l.all fun e => !Region.binds .any e || m.testBit e.on
  | [] => by simp [needGo]
  | e :: r => by
    have ih := needGo_bit m r
    rw [List.all_cons, ← ih, needGo]
    cases hb : Region.binds .any e with
    | false => simp
    | true =>
      simp only [cond_true, Bool.not_true, Bool.false_or]
      have key : (((1 <<< e.on) ||| needGo r) &&& m = ((1 <<< e.on) ||| needGo r)) ↔ (m.testBit e.on = true ∧ needGo r &&& m = needGo r) := by
        constructor
        · intro h
          have hb : ∀ j, ((((1 <<< e.on) ||| needGo r) &&& m).testBit j) = (((1 <<< e.on) ||| needGo r).testBit j) := fun j => by rw [h]
          refine ⟨?_, Nat.eq_of_testBit_eq fun j => ?_⟩
          · have := hb e.on
            rw [Nat.testBit_and, Nat.testBit_or, Nat.one_shiftLeft, Nat.testBit_two_pow_self, Bool.true_or, Bool.true_and] at this
            exact this
          · have := hb j
            rw [Nat.testBit_and, Nat.testBit_or] at this
            rw [Nat.testBit_and]
            cases h1 : (needGo r).testBit j with
            | false => rfl
            | true => rw [h1, Bool.or_true, Bool.true_and] at this; rw [this]; rfl
        · rintro ⟨h1, h2⟩
          refine Nat.eq_of_testBit_eq fun j => ?_
          have hb : (needGo r &&& m).testBit j = (needGo r).testBit j := by rw [h2]
          rw [Nat.testBit_and] at hb
          rw [Nat.testBit_and, Nat.testBit_or, Nat.one_shiftLeft, Nat.testBit_two_pow]
          by_cases hj : e.on = j
          · subst hj; simp [h1]
          · simp only [hj, decide_false, Bool.false_or]; exact hb
      have bq : ∀ a b : Nat, Nat.beq a b = decide (a = b) := fun a b => by
        by_cases h : a = b
        · subst h; simp
        · rw [decide_eq_false h]; exact Bool.eq_false_iff.2 fun e => h (Nat.eq_of_beq_eq_true e)
      show Nat.beq (((1 <<< e.on) ||| needGo r) &&& m) ((1 <<< e.on) ||| needGo r) = (m.testBit e.on && Nat.beq (needGo r &&& m) (needGo r))
      rw [bq, bq]
      cases hm : m.testBit e.on with
      | false => rw [decide_eq_false (fun h => by have := (key.1 h).1; rw [hm] at this; cases this)]; rfl
      | true =>
        rw [Bool.true_and, decide_eq_decide, key]
        exact ⟨fun h => h.2, fun h => ⟨hm, h⟩⟩
def readyGo (m : Nat) : Nat → List Nat → List Nat
  | _, [] => []
  | i, q :: r => bif bitAt m i then readyGo m (i + 1) r else bif Nat.beq (Nat.land q m) q then i :: readyGo m (i + 1) r else readyGo m (i + 1) r
def readyC (cert : List Nat) (dn : List Nat) : List Nat := readyGo (maskOf dn) 0 cert
def apartGo (ops : Array Oper) (oi : Oper) (m i : Nat) : Nat → List Oper → Bool
  | _, [] => true
  | j, oj :: r => (Nat.beq j i || (bitAt m j || ((oj.after.any fun e => Region.binds .any e && e.on == i) || oi.apart ops oj))) && apartGo ops oi m i (j + 1) r
def freeGo (ops : Array Oper) (fr : Nat) : Nat → List Oper → Bool
  | _, [] => true
  | i, oi :: r => (bif bitAt fr i then apartGo ops oi (needGo oi.after.toList) i 0 ops.toList else true) && freeGo ops fr (i + 1) r
def inEdges (n : Nat) : List Edge → Bool
  | [] => true
  | e :: r => (bif Region.binds .any e then Nat.blt e.on n else true) && inEdges n r
def certB (ops : Array Oper) (cert : List Nat) (fr : Nat) : Bool :=
  Region.noSelect ops && (Nat.beq ops.size cert.length && ((ops.toList.map fun o => needGo o.after.toList) == cert && (ops.toList.all (fun o => inEdges ops.size o.after.toList) && freeGo ops fr 0 ops.toList)))
theorem lst_getD (ops : Array Oper) (dn : List Nat) (j : Nat) (b : Bool) : (lst ops dn).getD j b = if j < ops.size then decide (j ∈ dn) else b := by
  have H : ∀ (dn : List Nat) (l : Array Bool), (dn.foldl (fun l i => l.setIfInBounds i true) l).size = l.size ∧ ∀ j b, (dn.foldl (fun l i => l.setIfInBounds i true) l).getD j b = if j < l.size then (l.getD j false || decide (j ∈ dn)) else b := by
    intro dn
    induction dn with
    | nil =>
      intro l
      refine ⟨rfl, fun j b => ?_⟩
      by_cases h : j < l.size
      · rw [if_pos h]; simp [Array.getD, h]
      · rw [if_neg h]; simp [Array.getD, h]
    | cons i r ih =>
      intro l
      obtain ⟨h1, h2⟩ := ih (l.setIfInBounds i true)
      refine ⟨by rw [List.foldl_cons, h1, Array.size_setIfInBounds], fun j b => ?_⟩
      rw [List.foldl_cons, h2, Array.size_setIfInBounds]
      by_cases h : j < l.size
      · rw [if_pos h, if_pos h]
        by_cases e : i = j
        · subst e; simp [Array.getD, h]
        · have e' : ¬ j = i := fun x => e x.symm
          have : (l.setIfInBounds i true).getD j false = l.getD j false := by
            simp [Array.getD, h, Array.getElem_setIfInBounds, e]
          rw [this]; simp [e']
      · rw [if_neg h, if_neg h]
  have := (H dn (Array.replicate ops.size false)).2 j b
  unfold lst
  rw [this, Array.size_replicate]
  by_cases h : j < ops.size
  · rw [if_pos h, if_pos h]; simp [Array.getD, h]
  · rw [if_neg h, if_neg h]
theorem lst_of_mask {ops : Array Oper} {dn dn2 : List Nat} (h : maskOf dn = maskOf dn2) : lst ops dn = lst ops dn2 := by
  have sz : ∀ dn : List Nat, (lst ops dn).size = ops.size := by
    intro dn
    have H : ∀ (dn : List Nat) (l : Array Bool), (dn.foldl (fun l i => l.setIfInBounds i true) l).size = l.size := by
      intro dn
      induction dn with
      | nil => intro l; rfl
      | cons i r ih => intro l; rw [List.foldl_cons, ih, Array.size_setIfInBounds]
    unfold lst; rw [H, Array.size_replicate]
  refine Array.ext (by rw [sz, sz]) fun j h1 h2 => ?_
  have a1 := lst_getD ops dn j false
  have a2 := lst_getD ops dn2 j false
  have hj : j < ops.size := by rw [sz] at h1; exact h1
  rw [if_pos hj, ← maskOf_bit, h, maskOf_bit] at a1
  rw [if_pos hj, ← a1] at a2
  simpa [Array.getD, h1, h2] using a2.symm
section
variable {ops : Array Oper} {cert : List Nat} {fr : Nat} {dn : List Nat}
theorem inEdges_spec {n : Nat} : ∀ {l : List Edge}, inEdges n l = true → ∀ e ∈ l, Region.binds .any e = true → e.on < n
  | [], _, _, he, _ => by cases he
  | e :: r, h, x, hx, hb => by
    rw [inEdges, Bool.and_eq_true] at h
    rcases List.mem_cons.1 hx with rfl | hx
    · rw [hb, cond_true] at h; exact Nat.le_of_ble_eq_true h.1
    · exact inEdges_spec h.2 x hx hb
theorem certB_spec (h : certB ops cert fr = true) : Region.noSelect ops = true ∧ ops.size = cert.length ∧ (ops.toList.map fun o => needGo o.after.toList) = cert ∧ (∀ o ∈ ops.toList, inEdges ops.size o.after.toList = true) ∧ freeGo ops fr 0 ops.toList = true := by
  unfold certB at h
  simp only [Bool.and_eq_true, beq_iff_eq, List.all_eq_true] at h
  exact ⟨h.1, Nat.eq_of_beq_eq_true h.2.1, h.2.2.1, h.2.2.2.1, h.2.2.2.2⟩
theorem ready_at (h : certB ops cert fr = true) {i : Nat} (hi : i < ops.size) :
    (!(lst ops dn).getD i true && ((ops[i]?).map (·.after.all fun e => !Region.binds .any e || (lst ops dn).getD e.on false)).getD false) = (!(bitAt (maskOf dn) i) && Nat.beq (Nat.land (cert.getD i 0) (maskOf dn)) (cert.getD i 0)) := by
  obtain ⟨_, _, h3, h4, _⟩ := certB_spec h
  have e1 : cert.getD i 0 = needGo (ops[i]).after.toList := by
    rw [← h3, List.getD_eq_getElem?_getD, List.getElem?_map, Array.getElem?_toList, Array.getElem?_eq_getElem hi]; rfl
  rw [e1, needGo_bit, bitAt_eq, maskOf_bit, lst_getD, if_pos hi, Array.getElem?_eq_getElem hi, Option.map_some, Option.getD_some]
  congr 1
  rw [← Array.all_toList, Bool.eq_iff_iff, List.all_eq_true, List.all_eq_true]
  have hin : ∀ e ∈ (ops[i]).after.toList, Region.binds .any e = true → e.on < ops.size := inEdges_spec (h4 _ (Array.getElem_mem_toList hi))
  constructor
  · intro hh e he
    have := hh e he
    cases hb : Region.binds .any e with
    | false => rfl
    | true =>
      rw [hb, lst_getD, if_pos (hin e he hb)] at this
      rw [maskOf_bit]; exact this
  · intro hh e he
    have := hh e he
    cases hb : Region.binds .any e with
    | false => rfl
    | true =>
      rw [hb, maskOf_bit] at this
      rw [lst_getD, if_pos (hin e he hb)]; exact this
theorem readyGo_eq (m : Nat) : ∀ (l : List Nat) (i : Nat), readyGo m i l = (List.range' i l.length).filter fun j => !(bitAt m j) && Nat.beq (Nat.land (l.getD (j - i) 0) m) (l.getD (j - i) 0)
  | [], i => rfl
  | q :: r, i => by
    have ih := readyGo_eq m r (i + 1)
    have e : (List.range' (i + 1) r.length).filter (fun j => !(bitAt m j) && Nat.beq (Nat.land ((q :: r).getD (j - i) 0) m) ((q :: r).getD (j - i) 0)) = readyGo m (i + 1) r := by
      rw [ih]
      refine List.filter_congr fun j hj => ?_
      have := (List.mem_range'_1.1 hj).1
      rw [show j - i = (j - (i + 1)) + 1 by omega, List.getD_cons_succ]
    rw [List.length_cons, List.range'_succ, List.filter_cons, e, readyGo, Nat.sub_self, List.getD_cons_zero]
    cases bitAt m i <;> cases Nat.beq (Nat.land q m) q <;> rfl
theorem ready_of_cert (h : certB ops cert fr = true) {is : List Nat} (hr : readyC cert dn = is) : Region.ready .any ops (lst ops dn) = is := by
  rw [← hr]
  unfold readyC Region.ready
  rw [readyGo_eq, List.range_eq_range', ← (certB_spec h).2.1]
  refine List.filter_congr fun j hj => ?_
  have hj' : j < ops.size := by have := (List.mem_range'_1.1 hj).2; omega
  rw [ready_at h hj', Nat.sub_zero]
theorem apartGo_spec {oi : Oper} {m i : Nat} : ∀ {l : List Oper} {j0 : Nat}, apartGo ops oi m i j0 l = true → ∀ j oj, l[j]? = some oj → (j0 + j == i || (bitAt m (j0 + j) || ((oj.after.any fun e => Region.binds .any e && e.on == i) || oi.apart ops oj))) = true
  | [], _, _, j, _, hj => by simp at hj
  | o :: r, j0, h, j, oj, hj => by
    rw [apartGo, Bool.and_eq_true] at h
    cases j with
    | zero =>
      rw [List.getElem?_cons_zero] at hj
      injection hj with hj; subst hj
      have := h.1
      rw [Bool.or_eq_true] at this ⊢
      rcases this with h1 | h1
      · left; rw [Nat.add_zero]; exact beq_iff_eq.2 (Nat.eq_of_beq_eq_true h1)
      · right; rw [Nat.add_zero]; exact h1
    | succ j =>
      rw [List.getElem?_cons_succ] at hj
      have := apartGo_spec h.2 j oj hj
      rw [show j0 + (j + 1) = j0 + 1 + j by omega]; exact this
theorem freeGo_spec (fr : Nat) : ∀ (l : List Oper) (i0 : Nat), freeGo ops fr i0 l = true → ∀ i oi, l[i]? = some oi → bitAt fr (i0 + i) = true → apartGo ops oi (needGo oi.after.toList) (i0 + i) 0 ops.toList = true
  | [], _, _, i, _, hi, _ => by simp at hi
  | o :: r, i0, h, i, oi, hi, hb => by
    rw [freeGo, Bool.and_eq_true] at h
    cases i with
    | zero =>
      rw [List.getElem?_cons_zero] at hi
      injection hi with hi; subst hi
      rw [Nat.add_zero] at hb ⊢
      have := h.1; rw [hb, cond_true] at this; exact this
    | succ i =>
      rw [List.getElem?_cons_succ] at hi
      rw [show i0 + (i + 1) = i0 + 1 + i by omega] at hb ⊢
      exact freeGo_spec fr r (i0 + 1) h.2 i oi hi hb
def stepC (cert : List Nat) (fr : Nat) (dn : List Nat) (i : Nat) : Bool :=
  bif bitAt fr i then bif Nat.blt i cert.length then bif bitAt (maskOf dn) i then false else Nat.beq (Nat.land (cert.getD i 0) (maskOf dn)) (cert.getD i 0) else false else false
theorem side_of_cert (h : certB ops cert fr = true) {i : Nat} (hs : stepC cert fr dn i = true) : side ops dn i = true := by
  obtain ⟨h1, h2, _, _, h5⟩ := certB_spec h
  unfold stepC at hs
  cases b1 : bitAt fr i with
  | false => rw [b1] at hs; cases hs
  | true =>
    cases b2 : Nat.blt i cert.length with
    | false => rw [b1, b2] at hs; cases hs
    | true =>
      cases b3 : bitAt (maskOf dn) i with
      | true => rw [b1, b2, b3] at hs; cases hs
      | false =>
        rw [b1, b2, b3] at hs
        simp only [cond_true, cond_false] at hs
        have hi : i < ops.size := by rw [h2]; exact Nat.le_of_ble_eq_true b2
        have hop : ops.toList[i]? = some ops[i] := by rw [Array.getElem?_toList, Array.getElem?_eq_getElem hi]
        have hap := freeGo_spec fr _ 0 h5 i ops[i] hop (by rw [Nat.zero_add]; exact b1)
        rw [Nat.zero_add] at hap
        have e1 : cert.getD i 0 = needGo (ops[i]).after.toList := by
          rw [← (certB_spec h).2.2.1, List.getD_eq_getElem?_getD, List.getElem?_map, Array.getElem?_toList, Array.getElem?_eq_getElem hi]; rfl
        have hf : Region.free .any ops (lst ops dn) i = true := by
          unfold Region.free
          rw [Array.getElem?_eq_getElem hi]
          show (List.all _ _) = true
          rw [List.all_eq_true]
          intro j hj
          have hj' := List.mem_range.1 hj
          have hopj : ops.toList[j]? = some ops[j] := by rw [Array.getElem?_toList, Array.getElem?_eq_getElem hj']
          have q := apartGo_spec hap j ops[j] hopj
          rw [Nat.zero_add] at q
          rw [Array.getElem?_eq_getElem hj', lst_getD, if_pos hj']
          simp only [Bool.or_eq_true] at q ⊢
          rcases q with q | q | q
          · exact .inl (.inl q)
          · refine .inl (.inr ?_)
            rw [← maskOf_bit]
            rw [e1] at hs
            have hm := Nat.eq_of_beq_eq_true hs
            have hbit : (needGo (ops[i]).after.toList &&& maskOf dn).testBit j = (needGo (ops[i]).after.toList).testBit j := by
              show (Nat.land _ _).testBit j = _
              rw [hm]
            rw [Nat.testBit_and] at hbit
            rw [bitAt_eq] at q
            rw [q, Bool.true_and] at hbit
            exact hbit
          · exact .inr q
        have hr : (Region.ready .any ops (lst ops dn)).contains i = true := by
          rw [List.contains_iff_mem]
          unfold Region.ready
          rw [List.mem_filter]
          refine ⟨List.mem_range.2 hi, ?_⟩
          rw [ready_at h hi, b3, hs]; rfl
        unfold side
        rw [h1, hf, hr]; rfl
end
end Go.Scr
