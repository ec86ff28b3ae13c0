/- The plain law of WordsInc. -/
import Derived.Test.YtjhoigcoijinfaaFnWordsInc
import Derived.Test.YtjhoigcoijinfaaXLaw
import Derived.Test.YtjhoigcoijinfaaLibNum
import Derived.Test.YtjhoigcoijinfaaLibWordsBase
import Derived.Test.YtjhoigcoijinfaaLibWordsInc0
import Derived.Test.YtjhoigcoijinfaaLibWordsLoad
set_option linter.unusedVariables false
set_option linter.unusedSimpArgs false
set_option linter.unnecessarySimpa false
namespace Go.Scr.S
/-- One more, of digits from the least on. -/
def incN : List Nat → List Nat
  | [] => []
  | b :: l => if (b + 1) % 256 = 0 then 0 :: incN l else ((b + 1) % 256) :: l
theorem incN_lt {l : List Nat} (h : ∀ x ∈ l, x < 256) : ∀ x ∈ incN l, x < 256 := by
  induction l with
  | nil => intro x hx; cases hx
  | cons b l ih =>
    intro x hx; simp only [incN] at hx
    split at hx
    · rcases List.mem_cons.1 hx with rfl | hx
      · decide
      · exact ih (fun y hy => h y (by simp [hy])) x hx
    · rcases List.mem_cons.1 hx with rfl | hx
      · omega
      · exact h x (by simp [hx])
theorem incN_length (l : List Nat) : (incN l).length = l.length := by
  induction l with
  | nil => rfl
  | cons b l ih => simp only [incN]; split <;> simp [ih]
theorem incR_il (l : List Nat) : incR (il l) = il (incN l) := by
  induction l with
  | nil => rfl
  | cons b l ih =>
    have e : U8 ((b : Int) + 1) = (((b + 1) % 256 : Nat) : Int) := U8_nat (b + 1)
    show (if _ then _ else _) = _
    rw [e]; simp only [incN]
    by_cases h : (b + 1) % 256 = 0
    · rw [if_pos (by rw [h]; rfl), if_pos h]
      show 0 :: incR (il l) = _
      rw [ih]; rfl
    · rw [if_neg (by simp; omega), if_neg h]; rfl
def incB (l : List Nat) : List Nat := (incN l.reverse).reverse
theorem incW_il (l : List Nat) : incW (il l) = il (incB l) := by
  unfold incW incB
  rw [show (il l).reverse = il l.reverse by simp [il], incR_il]; simp [il]
theorem incB_lt {l : List Nat} (h : ∀ x ∈ l, x < 256) : ∀ x ∈ incB l, x < 256 := by
  intro x hx; exact incN_lt (l := l.reverse) (fun y hy => h y (by simpa using hy)) x (by simpa [incB] using hx)
theorem incB_length (l : List Nat) : (incB l).length = l.length := by simp [incB, incN_length]
/-- The number of digits from the least on. -/
def litN : List Nat → Nat
  | [] => 0
  | b :: l => b + 256 * litN l
theorem litN_inc (l : List Nat) (h : ∀ x ∈ l, x < 256) (n : Nat) (hn : n ≤ l.length) : litN ((incN l).take n) = (litN (l.take n) + 1) % 256 ^ n := by
  induction l generalizing n with
  | nil => have : n = 0 := by simpa using hn
           subst this; rfl
  | cons b l ih =>
    cases n with
    | zero => simp [litN]
    | succ n =>
      have hb := h b (by simp)
      have ih' := ih (fun y hy => h y (by simp [hy])) n (by simpa using hn)
      have e : ∀ c, (256 * c) % 256 ^ (n + 1) = 256 * (c % 256 ^ n) := by intro c; rw [Nat.pow_succ, Nat.mul_comm (256 ^ n) 256, Nat.mul_mod_mul_left]
      simp only [incN]
      split
      · next h0 =>
        have : b = 255 := by omega
        subst this
        simp only [List.take_succ_cons, litN, ih', Nat.zero_add]
        rw [← e]; congr 1; omega
      · next h0 =>
        simp only [List.take_succ_cons, litN]
        rw [Nat.mod_eq_of_lt (by omega : b + 1 < 256)]
        have hlt : litN (l.take n) < 256 ^ n := by
          clear ih ih' e h0
          have hh : ∀ m : List Nat, (∀ x ∈ m, x < 256) → litN m < 256 ^ m.length := by
            intro m hm
            induction m with
            | nil => decide
            | cons c m ihm =>
              have h1 := ihm (fun y hy => hm y (by simp [hy])); have h2 := hm c (by simp)
              simp only [litN, List.length_cons, Nat.pow_succ]
              generalize 256 ^ m.length = p at *
              omega
          have h1 := hh (l.take n) (fun y hy => h y (by simp [List.mem_of_mem_take hy]))
          rw [List.length_take, Nat.min_eq_left (by simpa using hn)] at h1
          exact h1
        rw [Nat.mod_eq_of_lt]
        · omega
        · rw [Nat.pow_succ]; omega
theorem bigN_lit (l : List Nat) : bigN l = litN l.reverse := by
  suffices H : ∀ m : List Nat, bigN m.reverse = litN m by have := H l.reverse; simpa using this
  intro m
  induction m with
  | nil => rfl
  | cons b m ih => rw [List.reverse_cons, bigN_snoc, ih]; simp only [litN]; omega
/-- The word at the end. -/
def tailN (l : List Nat) : Nat := bigN (l.drop (l.length - 4))
theorem tailN_inc (l : List Nat) (h : ∀ x ∈ l, x < 256) (h4 : 4 ≤ l.length) : tailN (incB l) = (tailN l + 1) % 4294967296 := by
  have e : ∀ m : List Nat, 4 ≤ m.length → tailN m = litN (m.reverse.take 4) := by
    intro m hm; unfold tailN; rw [bigN_lit, List.take_reverse]
  rw [e _ (by rw [incB_length]; exact h4), e _ h4]
  unfold incB
  rw [List.reverse_reverse]
  exact litN_inc l.reverse (fun x hx => h x (by simpa using hx)) 4 (by simpa using h4)
theorem winc_l0 {l : List Nat} (hl : ∀ x ∈ l, x < 256) (h60 : l.length ≤ 60) {n : Nat} (hn : n < 600) (d : Nat) {k i : Nat} {x : List Nat} (hi : i + d = n) (hk : d + 100 < k) (hx : ∀ y ∈ x, y < 256) (hxl : x.length = l.length) (ht : 4 ≤ l.length → tailN x = (tailN l + i) % 4294967296) :
    scrimlaw1_WordsInc.l0 k (il l) (n : Int) (il x) (i : Int) = some true := by
  induction d generalizing k i x with
  | zero =>
    obtain ⟨k, rfl⟩ : ∃ j, k = j + 1 := ⟨k - 1, by omega⟩
    have : i = n := by omega
    subst this
    simp only [scrimlaw1_WordsInc.l0, il_length]
    rw [if_neg (by simp)]
    by_cases h4 : l.length < 4
    · rw [if_pos (by first | (simp; omega) | simp)]
    · have h4' : 4 ≤ l.length := by omega
      have e1 : I64 ((l.length : Int) - 4) = ((l.length - 4 : Nat) : Int) := by rw [I64_id (by omega) (by omega)]; omega
      have e2 : ∀ m : List Nat, (List.take ((m.length : Int)).toNat (il m)).drop (((m.length - 4 : Nat) : Int)).toNat = il (m.drop (m.length - 4)) := by
        intro m; rw [Int.toNat_natCast, Int.toNat_natCast, List.take_of_length_le (by rw [il_length]; exact Nat.le_refl _)]; simp [il]
      have b1 := be32_eq (l := l.drop (l.length - 4)) (k := k) (fun y hy => hl y (List.mem_of_mem_drop hy)) (by first | (simp; omega) | simp) (by omega)
      have b2 := be32_eq (l := x.drop (x.length - 4)) (k := k) (fun y hy => hx y (List.mem_of_mem_drop hy)) (by first | (simp; omega) | simp) (by omega)
      have e3 := e2 l
      have e4 := e2 x
      have ht' := ht h4'
      unfold tailN at ht'
      rw [hxl] at e4 b2
      rw [if_neg (by first | (simp; omega) | simp), hxl, e1, if_pos (by simp), if_pos (by first | (simp; omega) | simp), if_pos (by simp), if_pos (by first | (simp; omega) | simp), e3, e4, b1, b2]
      rw [hxl] at ht'
      have e5 : U32 ((bigN (l.drop (l.length - 4)) : Int) + U32 (i : Int)) = (((bigN (l.drop (l.length - 4)) + i) % 4294967296 : Nat) : Int) := by
        rw [U32_id (x := (i : Int)) (by omega) (by omega)]; exact U32_nat _
      show some _ = _
      simp only [e5, ht', beq_self_eq_true]
  | succ d ih =>
    obtain ⟨k, rfl⟩ : ∃ j, k = j + 1 := ⟨k - 1, by omega⟩
    have i1 := inc_eq (a0 := il x) (k := k) (by rw [il_length]; omega) (by rw [il_length]; omega)
    have i2 := rinc_eq (a0 := il x) (k := k) (by rw [il_length]; omega) (by rw [il_length]; omega)
    rw [incW_il] at i1 i2
    have c1 : decide ((i : Int) < (n : Int)) = true := by simp; omega
    have c2 : (((incB x).length : Int) != (l.length : Int)) = false := by rw [incB_length, hxl]; simp
    have e5 : I64 ((i : Int) + 1) = ((i + 1 : Nat) : Int) := by rw [I64_id (by omega) (by omega)]; simp
    simp only [scrimlaw1_WordsInc.l0, c1, if_true, i1, i2, Option.bind_some, beq_self_eq_true, Bool.not_true, Bool.false_eq_true, if_false, il_length, c2, e5]
    refine ih (by omega) (by omega) (incB_lt hx) (by rw [incB_length, hxl]) (fun h4 => ?_)
    rw [tailN_inc x hx (by omega), ht h4]; omega
theorem WordsInc (a0 : List Int) (a1 : Int) (h0 : a0.length ≤ maxLen) (h1 : ∀ x ∈ a0, In .u8 x) (h2 : In .i64 a1) : ∃ k, scrimlaw1_WordsInc.f k a0 a1 = some true := by
  obtain ⟨l, rfl, hl⟩ := il_of h1
  obtain ⟨n, hn, en⟩ : ∃ i : Nat, i < 600 ∧ a1 % 600 = i := ⟨(a1 % 600).toNat, by omega, by omega⟩
  refine ⟨1000, ?_⟩
  have hw := within1_eq (k := 1000) a1 600 (by decide) (by decide)
  rw [en] at hw
  unfold scrimlaw1_WordsInc.f
  simp only [known1_eq (k := 1000) (by decide), hw, Option.bind_some, Bool.not_true, Bool.false_eq_true, if_false, il_length]
  by_cases hlen : l.length ≤ 60
  · rw [if_neg (by first | (simp; omega) | simp), if_pos (by first | (simp; omega) | simp)]
    exact winc_l0 (x := l) (i := 0) hl hlen hn n (by omega) (by omega) hl rfl (fun h4 => by
      have := bigN_lt (l.drop (l.length - 4)) (fun y hy => hl y (List.mem_of_mem_drop hy))
      rw [show (l.drop (l.length - 4)).length = 4 by simp; omega] at this
      unfold tailN; omega)
  · rw [if_pos (by first | (simp; omega) | simp)]
end Go.Scr.S
