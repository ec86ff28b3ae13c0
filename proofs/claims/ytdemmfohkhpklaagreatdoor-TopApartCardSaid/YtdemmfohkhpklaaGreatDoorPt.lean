/- What a plain function answers from some fuel on. -/
import Derived.Test.YtdemmfohkhpklaaGreatDoorFb
set_option linter.unusedVariables false
set_option linter.unusedSimpArgs false
set_option maxRecDepth 10000
/- What a plain function answers from some fuel on. -/
namespace Go.Scr.S
/-- From some fuel on it answers r. -/
def Ev {α : Type} (F : Nat → Option α) (r : α) : Prop := ∃ n, ∀ k, n ≤ k → F k = some r
/-- From some fuel on it answers one thing, of which Q is so. -/
def Tt {α : Type} (F : Nat → Option α) (Q : α → Prop) : Prop := ∃ r, Ev F r ∧ Q r
section
variable {α β : Type} {F : Nat → Option α} {G : Nat → α → Option β} {H : Nat → Option α} {r : α} {Q Q' : α → Prop} {c : Prop} {s : β}
theorem Ev.ret (r : α) : Ev (fun _ => some r) r := ⟨0, fun _ _ => rfl⟩
theorem Ev.inj {r' : α} (h : Ev F r) (h' : Ev F r') : r = r' := by
  obtain ⟨n, h⟩ := h; obtain ⟨m, h'⟩ := h'
  exact Option.some.inj ((h (n + m) (by omega)).symm.trans (h' (n + m) (by omega)))
theorem Ev.succ (h : Ev (fun k => F (k + 1)) r) : Ev F r := by
  obtain ⟨n, h⟩ := h
  refine ⟨n + 1, fun k hk => ?_⟩
  have := h (k - 1) (by omega)
  simp only at this
  rwa [show k - 1 + 1 = k by omega] at this
theorem Ev.bind (h : Ev F r) (h' : Ev (fun k => G k r) s) : Ev (fun k => (F k).bind (G k)) s := by
  obtain ⟨n, h⟩ := h; obtain ⟨m, h'⟩ := h'
  exact ⟨n + m, fun k hk => by simp only [h k (by omega), Option.bind_some]; exact h' k (by omega)⟩
theorem Ev.sb (h : Ev (fun k => G k r) s) : Ev (fun k => (some r).bind (G k)) s := h
theorem Ev.pos [Decidable c] (hc : c) (h : Ev F r) : Ev (fun k => if c then F k else H k) r := by
  obtain ⟨n, h⟩ := h
  exact ⟨n, fun k hk => (if_pos hc).trans (h k hk)⟩
theorem Ev.neg [Decidable c] (hc : ¬ c) (h : Ev H r) : Ev (fun k => if c then F k else H k) r := by
  obtain ⟨n, h⟩ := h
  exact ⟨n, fun k hk => (if_neg hc).trans (h k hk)⟩
theorem Ev.gd [Decidable c] (hc : c) (h : Ev F r) : Ev (fun k => if decide c = true then F k else H k) r := Ev.pos (decide_eq_true hc) h
theorem Ev.gn [Decidable c] (hc : ¬ c) (h : Ev H r) : Ev (fun k => if decide c = true then F k else H k) r := Ev.neg (by simpa using hc) h
theorem Tt.ret (h : Q r) : Tt (fun _ => some r) Q := ⟨r, Ev.ret r, h⟩
theorem Tt.succ (h : Tt (fun k => F (k + 1)) Q) : Tt F Q := let ⟨r, h, q⟩ := h; ⟨r, Ev.succ h, q⟩
theorem Tt.mono (h : Tt F Q') (hq : ∀ r, Q' r → Q r) : Tt F Q := let ⟨r, h, q⟩ := h; ⟨r, h, hq r q⟩
theorem Tt.bind {R : β → Prop} (h : Tt F Q) (h' : ∀ r, Q r → Tt (fun k => G k r) R) : Tt (fun k => (F k).bind (G k)) R :=
  let ⟨r, h, q⟩ := h; let ⟨s, h2, q2⟩ := h' r q; ⟨s, Ev.bind h h2, q2⟩
theorem Tt.sb {R : β → Prop} (h : Tt (fun k => G k r) R) : Tt (fun k => (some r).bind (G k)) R := h
theorem Tt.pos [Decidable c] (hc : c) (h : Tt F Q) : Tt (fun k => if c then F k else H k) Q := let ⟨r, h, q⟩ := h; ⟨r, Ev.pos hc h, q⟩
theorem Tt.neg [Decidable c] (hc : ¬ c) (h : Tt H Q) : Tt (fun k => if c then F k else H k) Q := let ⟨r, h, q⟩ := h; ⟨r, Ev.neg hc h, q⟩
theorem Tt.gd [Decidable c] (hc : c) (h : Tt F Q) : Tt (fun k => if decide c = true then F k else H k) Q := Tt.pos (decide_eq_true hc) h
theorem Tt.gn [Decidable c] (hc : ¬ c) (h : Tt H Q) : Tt (fun k => if decide c = true then F k else H k) Q := Tt.neg (by simpa using hc) h
theorem Tt.di [Decidable c] (h1 : c → Tt F Q) (h2 : ¬ c → Tt H Q) : Tt (fun k => if decide c = true then F k else H k) Q := if hc : c then Tt.gd hc (h1 hc) else Tt.gn hc (h2 hc)
theorem Tt.ite [Decidable c] (h1 : c → Tt F Q) (h2 : ¬ c → Tt H Q) : Tt (fun k => if c then F k else H k) Q := if hc : c then Tt.pos hc (h1 hc) else Tt.neg hc (h2 hc)
end
theorem I64e (x : Int) : I64 x = (x + 9223372036854775808) % 18446744073709551616 - 9223372036854775808 := by
  simp [I64, IntKind.wrap, IntKind.bits, IntKind.signed]; omega
theorem U8e (x : Int) : U8 x = x % 256 := by simp [U8, IntKind.wrap, IntKind.bits, IntKind.signed]
theorem U32e (x : Int) : U32 x = x % 4294967296 := by simp [U32, IntKind.wrap, IntKind.bits, IntKind.signed]
theorem U64e (x : Int) : U64 x = x % 18446744073709551616 := by simp [U64, IntKind.wrap, IntKind.bits, IntKind.signed]
theorem tdv (a b : Int) : Int.tdiv a b = if 0 ≤ a then a / b else -(-a / b) := by
  split
  · exact Int.tdiv_eq_ediv_of_nonneg (by assumption)
  · have := Int.tdiv_eq_ediv_of_nonneg (a := -a) (b := b) (by omega)
    rw [Int.neg_tdiv] at this; omega
theorem tmd (a b : Int) : Int.tmod a b = if 0 ≤ a then a % b else -(-a % b) := by
  split
  · exact Int.tmod_eq_emod_of_nonneg (by assumption)
  · have := Int.tmod_eq_emod_of_nonneg (a := -a) (b := b) (by omega)
    rw [Int.neg_tmod] at this; omega
/-- Numbers and lengths, told so that omega sees them. -/
theorem LL : (∀ x, I64 x = (x + 9223372036854775808) % 18446744073709551616 - 9223372036854775808) ∧ (∀ x, U8 x = x % 256) ∧ (∀ x, U32 x = x % 4294967296) ∧ (∀ x, U64 x = x % 18446744073709551616)
    ∧ (∀ a b : Int, Int.tdiv a b = if 0 ≤ a then a / b else -(-a / b)) ∧ (∀ a b : Int, Int.tmod a b = if 0 ≤ a then a % b else -(-a % b)) := ⟨I64e, U8e, U32e, U64e, tdv, tmd⟩
theorem LN {α : Type} : (∀ a b : List α, (a ++ b).length = a.length + b.length) ∧ (∀ (x : α) (a : List α), (x :: a).length = a.length + 1) ∧ ([] : List α).length = 0 ∧ (∀ n (a : List α), (a.take n).length = min n a.length) ∧ (∀ n (a : List α), (a.drop n).length = a.length - n)
    ∧ (∀ (a : List α) n x, (a.set n x).length = a.length) ∧ (∀ n (x : α), (List.replicate n x).length = n) :=
  ⟨fun _ _ => List.length_append, fun _ _ => List.length_cons, rfl, fun _ _ => List.length_take, fun _ _ => List.length_drop, fun _ _ _ => List.length_set, fun _ _ => List.length_replicate⟩
theorem LB : (∀ (a b : Int), ((a == b) = true) = (a = b)) ∧ (∀ (a b : Int), ((a != b) = true) = ¬ (a = b)) ∧ (∀ b : Bool, ((!b) = true) = (b = false)) ∧ (∀ b : Bool, (¬ (b = true)) = (b = false)) ∧ (∀ b : Bool, (¬ (b = false)) = (b = true)) :=
  ⟨by simp, by simp, by simp, by simp, by simp⟩
/-- Its numbers lie between l and h. -/
def Bw (l h : Int) (x : List Int) : Prop := ∀ v ∈ x, l ≤ v ∧ v ≤ h
theorem Bw.nil {l h : Int} : Bw l h [] := fun _ hv => absurd hv (by simp)
theorem Bw.app {l h : Int} {x y : List Int} (a : Bw l h x) (b : Bw l h y) : Bw l h (x ++ y) := fun v hv => (List.mem_append.1 hv).elim (a v) (b v)
theorem Bw.tk {l h : Int} {n : Nat} {x : List Int} (a : Bw l h x) : Bw l h (x.take n) := fun v hv => a v (List.mem_of_mem_take hv)
theorem Bw.dr {l h : Int} {n : Nat} {x : List Int} (a : Bw l h x) : Bw l h (x.drop n) := fun v hv => a v (List.mem_of_mem_drop hv)
theorem Bw.cons {l h v : Int} {x : List Int} (a : l ≤ v ∧ v ≤ h) (b : Bw l h x) : Bw l h (v :: x) := fun u hu => (List.mem_cons.1 hu).elim (fun e => e ▸ a) (b u)
theorem Bw.set {l h v : Int} {n : Nat} {x : List Int} (b : Bw l h x) (a : l ≤ v ∧ v ≤ h) : Bw l h (x.set n v) := fun u hu => (List.mem_or_eq_of_mem_set hu).elim (b u) (fun e => e ▸ a)
theorem Bw.rep {l h v : Int} {n : Nat} (a : l ≤ v ∧ v ≤ h) : Bw l h (List.replicate n v) := fun u hu => by rw [(List.mem_replicate.1 hu).2]; exact a
theorem Bw.rd {l h : Int} {x : List Int} (a : Bw l h x) {i : Int} (h0 : 0 ≤ i) (h1 : i < x.length) : l ≤ Scr.rd x i ∧ Scr.rd x i ≤ h := by
  have : i.toNat < x.length := by omega
  refine a _ ?_
  unfold Scr.rd
  rw [List.getD_eq_getElem?_getD, List.getElem?_eq_getElem this]; exact List.getElem_mem _
theorem Bw.rd0 {l h : Int} {x : List Int} (a : Bw l h x) (i : Int) (h0 : l ≤ 0 ∧ 0 ≤ h) : l ≤ Scr.rd x i ∧ Scr.rd x i ≤ h := by
  by_cases e : i.toNat < x.length
  · refine a _ ?_
    unfold Scr.rd
    rw [List.getD_eq_getElem?_getD, List.getElem?_eq_getElem e]; exact List.getElem_mem _
  · unfold Scr.rd
    rw [List.getD_eq_getElem?_getD, List.getElem?_eq_none (by omega)]; exact h0
def bwB (l h : Int) (x : List Int) : Bool := x.all fun v => decide (l ≤ v) && decide (v ≤ h)
theorem Bw.dec {l h : Int} {x : List Int} (a : bwB l h x = true) : Bw l h x := fun v hv => by
  have := List.all_eq_true.1 a v hv
  simpa using this
theorem Ev.of {α : Type} {F : Nat → Option α} {r : α} (n : Nat) (h : ∀ m, F (m + n) = some r) : Ev F r := ⟨n, fun k hk => by
  have := h (k - n)
  rwa [Nat.sub_add_cancel hk] at this⟩
theorem Tt.ev {α : Type} {F : Nat → Option α} {r : α} (h : Tt F (fun x => x = r)) : Ev F r := let ⟨_, h, q⟩ := h; q ▸ h
theorem Tt.and {α : Type} {F : Nat → Option α} {Q R : α → Prop} (h : Tt F Q) (h' : Tt F R) : Tt F (fun r => Q r ∧ R r) := let ⟨r, h, q⟩ := h; let ⟨s, h2, q2⟩ := h'; ⟨r, h, q, h.inj h2 ▸ q2⟩
/-- Rows of n numbers each. -/
def Al (n : Nat) (x : List (List Int)) : Prop := ∀ v ∈ x, v.length = n
theorem Al.nil {n : Nat} : Al n [] := fun _ hv => absurd hv (by simp)
theorem Al.add {n : Nat} {x : List (List Int)} {v : List Int} (a : Al n x) (b : v.length = n) : Al n (x ++ [v]) := fun u hu => by
  rcases List.mem_append.1 hu with h | h
  · exact a u h
  · rw [List.mem_singleton] at h; subst h; exact b
theorem Al.rd {n : Nat} {x : List (List Int)} (a : Al n x) {i : Int} (h0 : 0 ≤ i) (h1 : i < x.length) : (Scr.rdr [] x i).length = n := by
  have : i.toNat < x.length := by omega
  refine a _ ?_
  unfold Scr.rdr
  rw [List.getD_eq_getElem?_getD, List.getElem?_eq_getElem this]; exact List.getElem_mem _
theorem Tt.ebind {α β : Type} {F : Nat → Option α} {G : Nat → α → Option β} {r : α} {R : β → Prop} (h : Ev F r) (h' : Tt (fun k => G k r) R) : Tt (fun k => (F k).bind (G k)) R := let ⟨s, h2, q2⟩ := h'; ⟨s, Ev.bind h h2, q2⟩
theorem Tt.sw {β : Type} {b : Bool} {a c : Int} {G : Nat → Int → Option β} {R : β → Prop} (h : ∀ y, y = a ∨ y = c → Tt (fun k => G k y) R) : Tt (fun k => (some (if b = true then a else c)).bind (G k)) R := h _ (by cases b <;> simp)
theorem Al.rev {n : Nat} {x : List (List Int)} (a : Al n x) : Al n x.reverse := fun v hv => a v (List.mem_reverse.1 hv)
/-- Rows of key rows. -/
def Kd (x : List (List (List Int))) : Prop := ∀ v ∈ x, v.length = 16 ∧ Al 6 v
theorem Kd.nil : Kd [] := fun _ hv => absurd hv (by simp)
theorem Kd.add {x : List (List (List Int))} {v : List (List Int)} (a : Kd x) (b : v.length = 16 ∧ Al 6 v) : Kd (x ++ [v]) := fun u hu => by
  rcases List.mem_append.1 hu with h | h
  · exact a u h
  · rw [List.mem_singleton] at h; subst h; exact b
theorem Kd.rd {x : List (List (List Int))} (a : Kd x) {i : Int} (h0 : 0 ≤ i) (h1 : i < x.length) : (Scr.rdr [] x i).length = 16 ∧ Al 6 (Scr.rdr [] x i) := by
  have : i.toNat < x.length := by omega
  refine a _ ?_
  unfold Scr.rdr
  rw [List.getD_eq_getElem?_getD, List.getElem?_eq_getElem this]; exact List.getElem_mem _
theorem rds_size {l : List ByteArray} {i : Int} {n : Nat} (a : l.all (fun x => Nat.beq x.size n) = true) (h0 : 0 ≤ i) (h1 : i < l.length) : (Scr.rds l i).size = n := by
  have h2 : i.toNat < l.length := by omega
  have : Scr.rds l i = l[i.toNat] := by unfold Scr.rds; rw [List.getD_eq_getElem?_getD, List.getElem?_eq_getElem h2]; rfl
  rw [this]
  exact Nat.eq_of_beq_eq_true (List.all_eq_true.1 a _ (List.getElem_mem h2))
theorem band1 (x : Int) : 0 ≤ band .i64 x 1 ∧ band .i64 x 1 ≤ 1 := by
  have h : (BitVec.ofInt 64 x &&& BitVec.ofInt 64 1).toNat ≤ 1 := by
    rw [BitVec.toNat_and, show (BitVec.ofInt 64 1).toNat = 1 from rfl, Nat.and_one_is_mod]; omega
  have e : band .i64 x 1 = I64 (((BitVec.ofInt 64 x &&& BitVec.ofInt 64 1).toNat : Nat) : Int) := rfl
  rw [e, I64e]; omega
theorem I64i {x : Int} (h : -9223372036854775808 ≤ x ∧ x < 9223372036854775808) : I64 x = x := by rw [I64e]; omega
/-- Rows of at most n numbers. -/
def Ml (n : Nat) (x : List (List Int)) : Prop := ∀ v ∈ x, v.length ≤ n
theorem Ml.nil {n : Nat} : Ml n [] := fun _ hv => absurd hv (by simp)
theorem Ml.cons {n : Nat} {x : List (List Int)} {v : List Int} (b : v.length ≤ n) (a : Ml n x) : Ml n (v :: x) := fun u hu => (List.mem_cons.1 hu).elim (fun e => e ▸ b) (a u)
theorem Ml.rd {n : Nat} {x : List (List Int)} (a : Ml n x) (i : Int) : (Scr.rdr [] x i).length ≤ n := by
  unfold Scr.rdr
  rw [List.getD_eq_getElem?_getD]
  by_cases e : i.toNat < x.length
  · rw [List.getElem?_eq_getElem e]; exact a _ (List.getElem_mem _)
  · rw [List.getElem?_eq_none (by omega)]; exact Nat.zero_le _
theorem Tt.cl {α : Type} {F : Nat → Option α} (n : Nat) (c : α → Bool) (h0 : (F n).map c = some true) (h : ∀ m, F (m + n) = F n) : Tt F (fun r => c r = true) := by
  cases e : F n with
  | none => rw [e] at h0; cases h0
  | some r => rw [e] at h0; exact ⟨r, Ev.of n (fun m => (h m).trans e), Option.some.inj h0⟩
theorem Al.cons {n : Nat} {x : List (List Int)} {v : List Int} (b : v.length = n) (a : Al n x) : Al n (v :: x) := fun u hu => (List.mem_cons.1 hu).elim (fun e => e ▸ b) (a u)
/-- Four tables of bytes. -/
def Tb (r : List (List Int)) : Prop := r.length = 4 ∧ ∀ v ∈ r, v.length = 256 ∧ Bw 0 255 v
theorem Tb.rd {x : List (List Int)} (a : Tb x) {i : Int} (h0 : 0 ≤ i) (h1 : i < 4) : (Scr.rdr [] x i).length = 256 ∧ Bw 0 255 (Scr.rdr [] x i) := by
  have : i.toNat < x.length := by have := a.1; omega
  refine a.2 _ ?_
  unfold Scr.rdr
  rw [List.getD_eq_getElem?_getD, List.getElem?_eq_getElem this]; exact List.getElem_mem _
theorem Tt.dn {α : Type} {c : Prop} [Decidable c] {F : Nat → Option α} {Q : α → Prop} (h1 : c → Tt F Q) (h2 : c) : Tt (fun k => if decide c = true then F k else none) Q := Tt.gd h2 (h1 h2)
/-- What is left of a law of totality: numbers, lengths, bounds. -/
theorem fin_ {P : Prop} (h : P := by
    first
    | omega
    | (simp only [LL, LN, LB] at *; omega)
    | ((try simp (disch := first | omega | (simp only [LL, LN]; omega)) only [I64i] at *) <;> (try simp only [LL, LN, LB] at *) <;> (repeat' first | omega | (with_reducible first | assumption | exact True.intro | apply Bw.app | apply Bw.tk | apply Bw.dr | apply Bw.cons | exact Bw.nil | apply Bw.set | apply Bw.rep | apply Bw.rd | apply Al.add | exact Al.nil | apply Al.rd | apply Al.rev | apply Al.cons | apply Ml.cons | exact Ml.nil | apply And.intro) | (simp only [LL, LN, LB] at *; omega) | exact And.right (by with_reducible assumption) | exact And.left (by with_reducible assumption) | with_reducible exact Or.inl True.intro | with_reducible exact Or.inr True.intro))) : P := h
end Go.Scr.S
