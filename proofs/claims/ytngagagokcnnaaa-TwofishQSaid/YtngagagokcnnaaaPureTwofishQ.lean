/- The plain law of TwofishQ. -/
import Derived.Test.YtngagagokcnnaaaFnTwofishQ
import Derived.Test.YtngagagokcnnaaaLibNum
import Derived.Test.YtngagagokcnnaaaLibIl
import Derived.Test.YtngagagokcnnaaaLibMarks
import Derived.Test.YtngagagokcnnaaaLibTwQ
import Derived.Test.YtngagagokcnnaaaLibTwK
import Derived.Test.YtngagagokcnnaaaLibTwW
set_option linter.unusedVariables false
set_option linter.unusedSimpArgs false
set_option linter.unnecessarySimpa false
namespace Go.Scr.S
theorem tq_l0 {a t : Nat} (ha : a < 256) (ht : t < 2) (d : Nat) {k i : Nat} (hk : d + 20 < k) (hi : i + d = 256) :
    scrimlaw9_TwofishQ.l0 k (a : Int) (t : Int) (marks fun u => decide (u ∈ (qq t).take i)) (i : Int) = some true := by
  obtain ⟨hl, hb, hn⟩ := q_ok t ht
  induction d generalizing k i with
  | zero =>
    obtain ⟨k, rfl⟩ : ∃ j, k = j + 1 := ⟨k - 1, by omega⟩
    have e1 := q_eq (t := 0) (k := k) (by omega) ha (by omega)
    have e2 := rq_eq (t := 0) (k := k) (by omega) ha (by omega)
    have e3 := q_eq (t := 1) (k := k) (by omega) ha (by omega)
    have e4 := rq_eq (t := 1) (k := k) (by omega) ha (by omega)
    simp only [Int.cast_ofNat_Int] at e1 e2 e3 e4
    rw [scrimlaw9_TwofishQ.l0, if_neg (by rw [decide_eq_true_eq]; omega), e1, Option.bind_some, e2, Option.bind_some, if_pos (beq_self_eq_true _), e3, Option.bind_some, e4, Option.bind_some, beq_self_eq_true]
  | succ d ih =>
    obtain ⟨k, rfl⟩ : ∃ j, k = j + 1 := ⟨k - 1, by omega⟩
    have hil : i < (qq t).length := by omega
    have a2 : I64 ((i : Int) + 1) = ((i + 1 : Nat) : Int) := I64_nat (n := i + 1) (by omega)
    have u : U8 (i : Int) = (i : Int) := by rw [U8_nat, Nat.mod_eq_of_lt (by omega)]
    have e1 := q_eq (k := k) ht (by omega : i < 256) (by omega)
    have e2 := rq_eq (k := k) ht (by omega : i < 256) (by omega)
    have ev : (qq t).getD i 0 = (qq t)[i] := by rw [List.getD_eq_getElem?_getD, List.getElem?_eq_getElem hil]; rfl
    have hv : (qq t).getD i 0 < 256 := by rw [ev]; exact hb _ (List.getElem_mem hil)
    have c0 : decide (0 ≤ (((qq t).getD i 0 : Nat) : Int)) = true := by rw [decide_eq_true_eq]; omega
    have c1 : decide ((((qq t).getD i 0 : Nat) : Int) < 256) = true := by rw [decide_eq_true_eq]; omega
    have tk : (qq t).take (i + 1) = (qq t).take i ++ [(qq t).getD i 0] := by rw [ev]; exact List.take_succ_eq_append_getElem hil
    have nin : ¬ (qq t).getD i 0 ∈ (qq t).take i := fun hin => by
      have h2 : ((qq t).take (i + 1)).Nodup := hn.sublist (List.take_sublist _ _)
      rw [tk] at h2
      exact (List.nodup_append.1 h2).2.2 _ hin _ (by simp) rfl
    have next := ih (k := k) (i := i + 1) (by omega) (by omega)
    rw [marks_congr (mem_take_succ (qq t) hil)] at next
    rw [scrimlaw9_TwofishQ.l0, if_pos (by rw [decide_eq_true_eq]; omega), u, e1, Option.bind_some, if_pos c0, if_pos c1, rdb_marks _ hv, if_neg (by rw [decide_eq_true_eq]; exact nin), e2, Option.bind_some, if_neg (by simp), if_pos c0, if_pos c1, Int.toNat_natCast, marks_set, a2]
    exact next
theorem TwofishQ (a0 : Int) (a1 : Int) (h0 : In .u8 a0) (h1 : In .i64 a1) : ∃ k, scrimlaw9_TwofishQ.f k a0 a1 = some true := by
  obtain ⟨a, ha, rfl⟩ := u8_of h0
  obtain ⟨t, ht, et⟩ : ∃ i : Nat, i < 2 ∧ a1 % 2 = i := ⟨(a1 % 2).toNat, by omega, by omega⟩
  obtain ⟨k, hk⟩ : ∃ k : Nat, 900 ≤ k := ⟨900, Nat.le_refl _⟩
  refine ⟨k, ?_⟩
  have w := within9_eq (k := k) a1 2 (by decide) (by decide)
  rw [et] at w
  have main := tq_l0 ha ht 256 (k := k) (i := 0) (by omega) (by omega)
  rw [marks_congr (Q := fun _ => false) (by intro u; simp), ← marks_none] at main
  unfold scrimlaw9_TwofishQ.f
  rw [known9_eq (by omega), Option.bind_some, if_neg (by decide), w, Option.bind_some]
  exact main
end Go.Scr.S
