/- What a law is told of its arguments. -/
import Derived.Test.YtdemmfohkhpklaaGreatDoorXPure
import Derived.OpenShut
import Derived.ChangeArms
/- What a law's row is told of its arguments. -/
set_option linter.unnecessarySimpa false
set_option linter.unusedVariables false
set_option linter.unusedSimpArgs false
namespace Go.Scr
open Go.RowKit (Below)

def In : IntKind → Int → Prop
  | .u8, x => 0 ≤ x ∧ x < 256
  | .u16, x => 0 ≤ x ∧ x < 65536
  | .u32, x => 0 ≤ x ∧ x < 4294967296
  | .u64, x => 0 ≤ x ∧ x < 18446744073709551616
  | .i8, x => -128 ≤ x ∧ x < 128
  | .i16, x => -32768 ≤ x ∧ x < 32768
  | .i32, x => -2147483648 ≤ x ∧ x < 2147483648
  | .i64, x => -9223372036854775808 ≤ x ∧ x < 9223372036854775808

theorem In_of_wf {k : IntKind} {x : Int} (h : (Lit.int k x).wf = true) : In k x := by
  cases k <;> simp only [Lit.wf, Bool.and_eq_true, decide_eq_true_eq] at h <;> simp only [In] <;> (have h1 := h.1; have h2 := h.2; simp [IntKind.min, IntKind.max, IntKind.signed, IntKind.bits] at h1 h2; omega)

def IsRow (k : IntKind) (w : World) (a : Option Addr) (len cap : Nat) (zs : List Int) : Prop :=
  (a = none ∧ len = 0 ∧ cap = 0 ∧ zs = []) ∨
  ∃ x, a = some x ∧ len ≤ cap ∧ cap ≤ maxLen ∧ zs.length = cap ∧ (∀ i, i < zs.length → w.cell? (x.add i) = some (.int k (zs.getD i 0))) ∧ ∀ n ∈ zs, (Lit.int k n).wf = true

theorem IsRow.rd {k : IntKind} {w : World} {a : Option Addr} {len cap : Nat} {zs : List Int} (h : IsRow k w a len cap zs) :
    Rd w (.slice a len cap) (nums k (zs.take len)) ∧ (∀ x ∈ zs.take len, In k x) ∧ (zs.take len).length ≤ maxLen := by
  rcases h with ⟨rfl, rfl, rfl, rfl⟩ | ⟨x, rfl, h1, h2, h3, h4, h5⟩
  · exact ⟨Rd.nil w k, by simp, by simp [maxLen]⟩
  · refine ⟨⟨by simp [nums]; omega, h1, fun i u hi => ⟨x, rfl, ?_⟩⟩, fun n hn => In_of_wf (h5 n (List.mem_of_mem_take hn)), by simp; omega⟩
    unfold nums at hi
    rw [List.getElem?_map] at hi
    obtain ⟨n, hn, rfl⟩ := Option.map_eq_some_iff.1 hi
    have hz : zs[i]? = some n := by
      rw [List.getElem?_take] at hn
      split at hn
      · exact hn
      · cases hn
    obtain ⟨hlt, _⟩ := List.getElem?_eq_some_iff.1 hz
    rw [h4 i hlt]
    simp [hz]
theorem rg_of_trod {P : Program} {w : World} {H : Type} {enc : TypeId × Value → H} {base : Nat} {spare : Nat → Bool} {held : Bool} {fuel n : Nat} {t e : TypeId} {k : IntKind} {cs : List Value} {ns : List Int} {ps : List MemPlace}
    (ht : P.underlying t = some (.array n e)) (he : P.underlying e = some (.int k)) (hc : P.cellsOf e = 1) (h : DataW.trod enc P w base spare held fuel t cs = some (.agg (ns.map fun z => .lit (.int k z)), ps)) {i : Nat} {u : Value} (hu : (nums k ns)[i]? = some u) : cs[i]? = some u := by
  obtain ⟨xs, m, rfl, hx, hl, hn, hel⟩ := DataW.trod_array ht h
  injection hx with hx1 hx2
  injection hx1 with hx1
  unfold nums at hu
  rw [List.getElem?_map] at hu
  obtain ⟨z, hz, rfl⟩ := Option.map_eq_some_iff.1 hu
  have hlen : ns.length = xs.length := by simpa using congrArg List.length hx1
  obtain ⟨hi, hz'⟩ := List.getElem?_eq_some_iff.1 hz
  have hi' : i < xs.length := by omega
  have h1 := hel i (by omega)
  rw [List.getElem?_eq_getElem hi'] at h1
  obtain ⟨y, e1, e2, _⟩ := DataW.trod_int he h1
  have e3 : (DataW.lit (.int k z) : DataW H) = .lit (.int k y) := by
    have := congrArg (fun l => l[i]?) hx1
    simp only [List.getElem?_map, hz, List.getElem?_eq_getElem hi', e2, Option.map_some] at this
    exact Option.some.inj this
  injection e3 with e3
  injection e3 with _ e3
  subst e3
  rw [hc, Nat.mul_one] at e1
  have e4 : ((cs.drop i).take 1)[0]? = some (.int k z) := by rw [e1]; rfl
  rw [List.getElem?_take, if_pos (by decide), List.getElem?_drop] at e4
  simpa using e4
end Go.Scr
