/- The plain law of TwofishHFull. -/
import Derived.Test.YtngagagokcnnaaaFnTwofishH
import Derived.Test.YtngagagokcnnaaaLibNum
import Derived.Test.YtngagagokcnnaaaLibGf
import Derived.Test.YtngagagokcnnaaaLibFieldMu0
import Derived.Test.YtngagagokcnnaaaLibFieldRMu0
import Derived.Test.YtngagagokcnnaaaLibIl
import Derived.Test.YtngagagokcnnaaaLibGLoad
import Derived.Test.YtngagagokcnnaaaLibFill
import Derived.Test.YtngagagokcnnaaaLibGIl
import Derived.Test.YtngagagokcnnaaaLibGStore
import Derived.Test.YtngagagokcnnaaaLibGXor
import Derived.Test.YtngagagokcnnaaaLibTwQ
import Derived.Test.YtngagagokcnnaaaLibTwRQ
import Derived.Test.YtngagagokcnnaaaLibTwH
import Derived.Test.YtngagagokcnnaaaLibTwM
import Derived.Test.YtngagagokcnnaaaLibTwI
import Derived.Test.YtngagagokcnnaaaLibTwR
import Derived.Test.YtngagagokcnnaaaLibTwRH
import Derived.Test.YtngagagokcnnaaaLibTwK
set_option linter.unusedVariables false
set_option linter.unusedSimpArgs false
set_option linter.unnecessarySimpa false
namespace Go.Scr.S
theorem il32 {l : List Int} (h : ∀ x ∈ l, In .u32 x) : ∃ m : List Nat, l = il m ∧ ∀ x ∈ m, x < 4294967296 := by
  induction l with
  | nil => exact ⟨[], rfl, by simp⟩
  | cons b l ih =>
    obtain ⟨m, e, hm⟩ := ih (fun x hx => h x (by simp [hx]))
    obtain ⟨n, hn, en⟩ := u32_of (h b (by simp))
    exact ⟨n :: m, by rw [en, e]; rfl, by intro x hx; rcases List.mem_cons.1 hx with rfl | hx; exact hn; exact hm x hx⟩
theorem TwofishH (a0 : Int) (a1 : Int) (a2 : List Int) (a3 : Int) (a4 : Int) (h0 : In .u32 a0) (h1 : In .u32 a1) (h2 : a2.length ≤ 35184372087808) (h3 : ∀ x ∈ a2, In .u32 x) (h4 : In .u32 a3) (h5 : In .u32 a4) : ∃ k, scrimlaw9_TwofishH.f k a0 a1 a2 a3 a4 = some true := by
  obtain ⟨x, hx, rfl⟩ := u32_of h0
  obtain ⟨y, hy, rfl⟩ := u32_of h1
  obtain ⟨p, hp, rfl⟩ := u32_of h4
  obtain ⟨q, hq, rfl⟩ := u32_of h5
  obtain ⟨l, rfl, hl⟩ := il32 h3
  obtain ⟨k, hk⟩ : ∃ k : Nat, 900 ≤ k := ⟨900, Nat.le_refl _⟩
  refine ⟨k, ?_⟩
  have e : (([(p : Int), (q : Int)] : List Int) ++ il l) = il (p :: q :: l) := rfl
  have hm : ∀ v ∈ p :: q :: l, v < 4294967296 := by
    intro v hv
    rcases List.mem_cons.1 hv with rfl | hv
    · exact hp
    rcases List.mem_cons.1 hv with rfl | hv
    · exact hq
    · exact hl v hv
  have hlen : 2 ≤ (p :: q :: l).length := by simp
  have hmax : (p :: q :: l).length = l.length + 2 := rfl
  generalize p :: q :: l = L at e hm hlen hmax
  have m : mn (((il L).length : Nat) : Int) 4 = ((min L.length 4 : Nat) : Int) := by
    unfold mn; rw [il_length]; split <;> omega
  obtain ⟨n, en⟩ : ∃ n, n = min L.length 4 := ⟨_, rfl⟩
  have tk : ((il L).take ((n : Int)).toNat).drop (0 : Int).toNat = il (L.take n) := by
    rw [Int.toNat_natCast]; simp [il, List.map_take]
  have tl : (L.take n).length = n := by rw [List.length_take]; omega
  have ht : ∀ v ∈ L.take n, v < 4294967296 := fun v hv => hm v (List.mem_of_mem_take hv)
  have e1 := h_eq ht hx (k := k) (by omega)
  have e2 := h_eq ht hy (k := k) (by omega)
  have e3 := rh_eq (W := L.take n) (x := x) (by omega) (by omega) (k := k) (by omega)
  have e4 := rh_eq (W := L.take n) (x := y) (by omega) (by omega) (k := k) (by omega)
  have bn : ∀ a b : Nat, (((a : Int) == (b : Int)) : Bool) = decide (a = b) := fun a b => by
    by_cases h : a = b
    · subst h; simp
    · rw [decide_eq_false h, beq_eq_false_iff_ne]; omega
  have fin : decide (hN (L.take n) x = hN (L.take n) y) = decide (x = y) := by rw [decide_eq_decide]; exact hN_inj _ hx hy
  unfold scrimlaw9_TwofishH.f
  rw [known9_eq (by omega), Option.bind_some, if_neg (by decide), e]
  have cl : decide (([(p : Int), (q : Int)] : List Int).length + (il l).length ≤ 35184372088832) = true := by
    rw [decide_eq_true_eq, il_length]; rw [il_length] at h2
    simp only [List.length_cons, List.length_nil]; omega
  rw [if_pos cl, m, ← en, Option.bind_some, if_pos (by rw [decide_eq_true_eq]; omega), if_pos (by rw [decide_eq_true_eq, il_length]; omega), tk, e1, Option.bind_some, e2, Option.bind_some, e3, Option.bind_some, if_pos (beq_self_eq_true _), e4, Option.bind_some, if_pos (beq_self_eq_true _), bn, bn, fin, beq_self_eq_true]
end Go.Scr.S
