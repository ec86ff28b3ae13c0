/- The plain law of BoxAffine. -/
import Derived.Test.YtfffmmpibebpcaaDoorFnBoxAffine
import Derived.Test.YtfffmmpibebpcaaDoorXLaw
import Derived.Test.YtfffmmpibebpcaaDoorLibNum
import Derived.Test.YtfffmmpibebpcaaDoorLibIl
import Derived.Test.YtfffmmpibebpcaaDoorLibBoxKnown0
import Derived.Test.YtfffmmpibebpcaaDoorLibBoxRows
import Derived.Test.YtfffmmpibebpcaaDoorLibBoxAff
import Derived.Test.YtfffmmpibebpcaaDoorLibBoxRefAff
set_option linter.unusedVariables false
set_option linter.unusedSimpArgs false
set_option linter.unnecessarySimpa false
namespace Go.Scr.S
theorem BoxAffine (a0 : Int) (a1 : Int) (a2 : List Int) (a3 : Int) (h0 : In .u8 a0) (h1 : In .u8 a1) (h2 : a2.length ≤ maxLen) (h3 : ∀ x ∈ a2, In .u8 x) (h4 : In .u8 a3) : ∃ k, scrimlaw4_BoxAffine.f k a0 a1 a2 a3 = some true := by
  obtain ⟨x, hx, rfl⟩ := u8_of h0
  obtain ⟨y, hy, rfl⟩ := u8_of h1
  obtain ⟨b, rfl, hb⟩ := il_of h3
  obtain ⟨c, hc, rfl⟩ := u8_of h4
  obtain ⟨k, hk⟩ : ∃ k : Nat, 700 ≤ k := ⟨700, Nat.le_refl _⟩
  refine ⟨k, ?_⟩
  obtain ⟨l, e1, hn, hl⟩ := rows_eq hb (k := k) (by omega)
  have hxy : x ^^^ y < 256 := Nat.xor_lt_two_pow (n := 8) hx hy
  have b1 := bx8 hx hy
  have f1 := baff_eq hl hx hc (k := k) (by omega)
  have f2 := raff_eq hl hx hc (k := k) (by omega)
  have f3 := baff_eq hl hxy hc (k := k) (by omega)
  have f4 := baff_eq hl hy (c := 0) (by decide) (k := k) (by omega)
  have f5 := baff_eq hl (x := 0) (by decide) hc (k := k) (by omega)
  have f6 := baff_eq hl hx (c := 0) (by decide) (k := k) (by omega)
  rw [Nat.zero_xor] at f4 f6
  rw [aff_zero, Nat.xor_zero] at f5
  rw [aff_xor] at f3
  simp only [Int.natCast_zero, Int.cast_ofNat_Int] at f4 f5 f6
  have la := aff_lt l x 8 (by decide)
  have lb := aff_lt l y 8 (by decide)
  have b2 := bx8 (a := c ^^^ aff l x 8) (b := aff l y 8) (Nat.xor_lt_two_pow (n := 8) hc la) lb
  have b3 := bx8 la hc
  rw [Nat.xor_assoc] at b2
  rw [Nat.xor_comm] at b3
  unfold scrimlaw4_BoxAffine.f
  simp only [known4_eq (k := k) (by omega), Option.bind_some, Bool.not_true, Bool.false_eq_true, if_false, e1, b1, f1, f2, f3, f4, f5, f6, b2, b3, beq_self_eq_true, if_true]
end Go.Scr.S
