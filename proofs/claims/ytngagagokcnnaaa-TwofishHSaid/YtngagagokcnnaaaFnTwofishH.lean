/- The functions that the law TwofishH reaches, as plain functions, and that each call answers so. -/
import Derived.Test.YtngagagokcnnaaaProg
import Derived.Test.YtngagagokcnnaaaFnTwofishH2
set_option linter.unusedVariables false
set_option linter.unusedSimpArgs false
set_option linter.unnecessarySimpa false
namespace Go.Scr.S
open Go.RowKit (Below)
/-! ### scrim/scrimref9.rows: function 32 -/
def scrimref9_rows.f (k : Nat) (a0 : Int) : Option (List ByteArray) := if (a0 == 0) = true then (some ([(⟨#[56, 49, 55, 68, 54, 70, 51, 50, 48, 66, 53, 57, 69, 67, 65, 52]⟩ : ByteArray), (⟨#[69, 67, 66, 56, 49, 50, 51, 53, 70, 52, 65, 54, 55, 48, 57, 68]⟩ : ByteArray), (⟨#[66, 65, 53, 69, 54, 68, 57, 48, 67, 56, 70, 51, 50, 52, 55, 49]⟩ : ByteArray), (⟨#[68, 55, 70, 52, 49, 50, 54, 69, 57, 66, 51, 48, 56, 53, 67, 65]⟩ : ByteArray)] : List ByteArray)) else (some ([(⟨#[50, 56, 66, 68, 70, 55, 54, 69, 51, 49, 57, 52, 48, 65, 67, 53]⟩ : ByteArray), (⟨#[49, 69, 50, 66, 52, 67, 51, 55, 54, 68, 65, 53, 70, 57, 48, 56]⟩ : ByteArray), (⟨#[52, 67, 55, 53, 49, 54, 57, 65, 48, 69, 68, 56, 50, 66, 51, 70]⟩ : ByteArray), (⟨#[66, 57, 53, 49, 67, 51, 68, 69, 54, 52, 55, 70, 50, 48, 56, 65]⟩ : ByteArray)] : List ByteArray))
set_option maxRecDepth 100000 in
theorem scrimref9_rows.calls (k : Nat) (a0 : Int) (r : List ByteArray) (w : World) (h : scrimref9_rows.f k a0 = some r) :
    Calls Go.Proofs.Try.prog 32 #[.int .i64 a0] w (Ret fun v w' => ∃ A0' n0' c0', v = .slice A0' n0' c0' ∧ Mem w w' [⟨.slice A0' n0' c0', 9, 1, strs r⟩]) := by
  unfold scrimref9_rows.f at h
  refine calls_of [.int .i64 a0] (fn := Go.Proofs.Try.f32) Go.Proofs.Try.func32 (by kernel_rfl) (by kernel_rfl) ?_
  have hM := Mem.refl w
  refine RunF.go 10 [4] (k' := (pl Go.Proofs.Try.f32 [1, 0, 1])) (L' := [(4, .bool (a0 == 0))]) (w' := w) (by kernel_rfl) ?_
  rcases two ((a0 == 0)) with c1 | c1
  · replace h := of_true h c1
    refine RunF.know 4 (b := true) (by kernel_rfl) c1 ?_
    refine RunF.go 3 [] (k' := (pin Go.Proofs.Try.f32 [1, 0, 1, 0, 0] 0)) (L' := []) (w' := w) (by kernel_rfl) ?_
    refine RunF.new 9 1 4 (strs [(⟨#[56, 49, 55, 68, 54, 70, 51, 50, 48, 66, 53, 57, 69, 67, 65, 52]⟩ : ByteArray), (⟨#[69, 67, 66, 56, 49, 50, 51, 53, 70, 52, 65, 54, 55, 48, 57, 68]⟩ : ByteArray), (⟨#[66, 65, 53, 69, 54, 68, 57, 48, 67, 56, 70, 51, 50, 52, 55, 49]⟩ : ByteArray), (⟨#[68, 55, 70, 52, 49, 50, 54, 69, 57, 66, 51, 48, 56, 53, 67, 65]⟩ : ByteArray)]) (d := some 5) (k2 := (pin Go.Proofs.Try.f32 [1, 0, 1, 0, 0] 1)) hM (by simp [nums, bools, strs]) (by kernel_rfl) (by kernel_rfl) ?_
    replace hM := hM
    intro g2 W3 hM
    refine RunF.go 2 [2] (k' := (pl Go.Proofs.Try.f32 [1, 0, 1, 0, 1])) (L' := [(2, .slice (some ⟨g2, 0, none⟩) 4 4)]) (w' := W3) (by kernel_rfl) ?_
    obtain rfl := Option.some.inj h
    exact RunF.ret1 2 (.slice (some ⟨g2, 0, none⟩) 4 4) (fn := Go.Proofs.Try.f32) Go.Proofs.Try.func32 (by kernel_rfl) (by kernel_rfl) (by kernel_rfl) ⟨_, rfl, (some ⟨g2, 0, none⟩), 4, 4, rfl, (hM.pick [0] rfl rfl)⟩
  · replace h := of_false h c1
    refine RunF.know 4 (b := false) (by kernel_rfl) c1 ?_
    refine RunF.go 4 [] (k' := (pin Go.Proofs.Try.f32 [1, 1, 0] 0)) (L' := []) (w' := w) (by kernel_rfl) ?_
    refine RunF.new 9 1 4 (strs [(⟨#[50, 56, 66, 68, 70, 55, 54, 69, 51, 49, 57, 52, 48, 65, 67, 53]⟩ : ByteArray), (⟨#[49, 69, 50, 66, 52, 67, 51, 55, 54, 68, 65, 53, 70, 57, 48, 56]⟩ : ByteArray), (⟨#[52, 67, 55, 53, 49, 54, 57, 65, 48, 69, 68, 56, 50, 66, 51, 70]⟩ : ByteArray), (⟨#[66, 57, 53, 49, 67, 51, 68, 69, 54, 52, 55, 70, 50, 48, 56, 65]⟩ : ByteArray)]) (d := some 6) (k2 := (pin Go.Proofs.Try.f32 [1, 1, 0] 1)) hM (by simp [nums, bools, strs]) (by kernel_rfl) (by kernel_rfl) ?_
    replace hM := hM
    intro g5 W6 hM
    refine RunF.go 2 [2] (k' := (pl Go.Proofs.Try.f32 [1, 1, 1])) (L' := [(2, .slice (some ⟨g5, 0, none⟩) 4 4)]) (w' := W6) (by kernel_rfl) ?_
    obtain rfl := Option.some.inj h
    exact RunF.ret1 2 (.slice (some ⟨g5, 0, none⟩) 4 4) (fn := Go.Proofs.Try.f32) Go.Proofs.Try.func32 (by kernel_rfl) (by kernel_rfl) (by kernel_rfl) ⟨_, rfl, (some ⟨g5, 0, none⟩), 4, 4, rfl, (hM.pick [0] rfl rfl)⟩

/-! ### scrim/scrimref6.digit: function 48 -/
def scrimref6_digit.f (k : Nat) (a0 : Int) : Option (Int) := if (decide (a0 ≥ 65)) = true then (some (I64 ((I64 (U8 (a0 - 65))) + 10))) else (some (I64 (U8 (a0 - 48))))
set_option maxRecDepth 100000 in
theorem scrimref6_digit.calls (k : Nat) (a0 : Int) (r : Int) (w : World) (h : scrimref6_digit.f k a0 = some r) :
    Calls Go.Proofs.Try.prog 48 #[.int .u8 a0] w (Ret fun v w' => v = .int .i64 r ∧ Mem w w' []) := by
  unfold scrimref6_digit.f at h
  refine calls_of [.int .u8 a0] (fn := Go.Proofs.Try.f48) Go.Proofs.Try.func48 (by kernel_rfl) (by kernel_rfl) ?_
  have hM := Mem.refl w
  refine RunF.go 10 [0, 4] (k' := (pl Go.Proofs.Try.f48 [1, 0, 1])) (L' := [(0, .int .u8 a0), (4, .bool (decide (a0 ≥ 65)))]) (w' := w) (by kernel_rfl) ?_
  rcases two (decide (a0 ≥ 65)) with c1 | c1
  · replace h := of_true h c1
    refine RunF.know 4 (b := true) (by kernel_rfl) c1 ?_
    refine RunF.go 9 [2] (k' := (pl Go.Proofs.Try.f48 [1, 0, 1, 0, 1])) (L' := [(2, .int .i64 (I64 ((I64 (U8 (a0 - 65))) + 10)))]) (w' := w) (by kernel_rfl) ?_
    obtain rfl := Option.some.inj h
    exact RunF.ret1 2 (.int .i64 (I64 ((I64 (U8 (a0 - 65))) + 10))) (fn := Go.Proofs.Try.f48) Go.Proofs.Try.func48 (by kernel_rfl) (by kernel_rfl) (by kernel_rfl) ⟨_, rfl, rfl, (hM.pick [] rfl rfl)⟩
  · replace h := of_false h c1
    refine RunF.know 4 (b := false) (by kernel_rfl) c1 ?_
    refine RunF.go 9 [2] (k' := (pl Go.Proofs.Try.f48 [1, 1, 1])) (L' := [(2, .int .i64 (I64 (U8 (a0 - 48))))]) (w' := w) (by kernel_rfl) ?_
    obtain rfl := Option.some.inj h
    exact RunF.ret1 2 (.int .i64 (I64 (U8 (a0 - 48)))) (fn := Go.Proofs.Try.f48) Go.Proofs.Try.func48 (by kernel_rfl) (by kernel_rfl) (by kernel_rfl) ⟨_, rfl, rfl, (hM.pick [] rfl rfl)⟩

/-! ### scrim/scrimref6.At: function 33 -/
def scrimref6_At.f (k : Nat) (a0 : ByteArray) (a1 : Int) : Option (Int) := if (decide (0 ≤ a1)) = true then (if (decide (a1 < (a0.size : Int))) = true then ((scrimref6_digit.f k (sb a0 a1)).bind fun t4 => (some t4)) else (none)) else (none)
set_option maxRecDepth 100000 in
theorem scrimref6_At.calls (k : Nat) (a0 : ByteArray) (a1 : Int) (r : Int) (w : World) (h : scrimref6_At.f k a0 a1 = some r) :
    Calls Go.Proofs.Try.prog 33 #[.string a0, .int .i64 a1] w (Ret fun v w' => v = .int .i64 r ∧ Mem w w' []) := by
  unfold scrimref6_At.f at h
  refine calls_of [.string a0, .int .i64 a1] (fn := Go.Proofs.Try.f33) Go.Proofs.Try.func33 (by kernel_rfl) (by kernel_rfl) ?_
  have hM := Mem.refl w
  refine RunF.go 8 [5, 6] (k' := (pin Go.Proofs.Try.f33 [1, 0] 2)) (L' := [(5, .string a0), (6, .int .i64 a1)]) (w' := w) (by kernel_rfl) ?_
  rcases two (decide (0 ≤ a1)) with c1 | c1
  · replace h := of_true h c1
    rcases two (decide (a1 < (a0.size : Int))) with c2 | c2
    · replace h := of_true h c2
      refine RunF.y (idxStr_y (d := some 7) (s := a0) (i := a1) (k2 := (pin Go.Proofs.Try.f33 [1, 0] 3)) (by kernel_rfl) (of_decide_eq_true c1) (of_decide_eq_true c2)) trivial ?_
      obtain ⟨t4, ht4, h⟩ := Option.bind_eq_some_iff.mp h
      refine RunF.call (d := some 8) (g := 48) (args := #[.int .u8 (sb a0 a1)]) (k2 := (pin Go.Proofs.Try.f33 [1, 0] 4)) (by kernel_rfl) (scrimref6_digit.calls k (sb a0 a1) t4 _ ht4) ?_
      rintro _ W3 ⟨rfl, hM_⟩
      replace hM := hM.call hM_
      clear hM_ ht4
      refine RunF.go 2 [4] (k' := (pl Go.Proofs.Try.f33 [1, 1])) (L' := [(4, .int .i64 t4)]) (w' := W3) (by kernel_rfl) ?_
      obtain rfl := Option.some.inj h
      exact RunF.ret1 4 (.int .i64 t4) (fn := Go.Proofs.Try.f33) Go.Proofs.Try.func33 (by kernel_rfl) (by kernel_rfl) (by kernel_rfl) ⟨_, rfl, rfl, (hM.pick [] rfl rfl)⟩
    · replace h := of_false h c2
      cases h
  · replace h := of_false h c1
    cases h

/-! ### scrim/scrimref9.Q: function 15 -/
def scrimref9_Q.l0 : Nat → (List ByteArray) → Int → Int → Int → Option (Int)
  | 0, _, _, _, _ => none
  | k + 1, t2, x6_0, x7_0, x8_0 => if (decide (x8_0 < 2)) = true then ((some (bxor .i64 (bxor .i64 x6_0 (bor .i64 (shr x7_0 1) (band .i64 (shl .i64 x7_0 3) 8))) (Int.tmod (I64 (8 * x6_0)) 16) : Int)).bind fun y8 => (if (decide (0 ≤ (I64 (2 * x8_0)))) = true then (if (decide ((I64 (2 * x8_0)) < (t2.length : Int))) = true then (if (decide (0 ≤ (I64 ((I64 (2 * x8_0)) + 1)))) = true then (if (decide ((I64 ((I64 (2 * x8_0)) + 1)) < (t2.length : Int))) = true then ((scrimref6_At.f k (rds t2 (I64 (2 * x8_0))) (bxor .i64 x6_0 x7_0)).bind fun t18 => ((scrimref6_At.f k (rds t2 (I64 ((I64 (2 * x8_0)) + 1))) y8).bind fun t20 => (scrimref9_Q.l0 k t2 t18 t20 (I64 (x8_0 + 1))))) else (none)) else (none)) else (none)) else (none))) else (some (U8 (I64 ((I64 (16 * x7_0)) + x6_0))))
def scrimref9_Q.f (k : Nat) (a0 : Int) (a1 : Int) : Option (Int) := (scrimref9_rows.f k a0).bind fun t2 => (scrimref9_Q.l0 k t2 (I64 (shr a1 4)) (I64 (band .u8 a1 15)) 0)
set_option maxRecDepth 100000 in
theorem scrimref9_Q.calls (k : Nat) (a0 : Int) (a1 : Int) (r : Int) (w : World) (h : scrimref9_Q.f k a0 a1 = some r) :
    Calls Go.Proofs.Try.prog 15 #[.int .i64 a0, .int .u8 a1] w (Ret fun v w' => v = .int .u8 r ∧ Mem w w' []) := by
  unfold scrimref9_Q.f at h
  refine calls_of [.int .i64 a0, .int .u8 a1] (fn := Go.Proofs.Try.f15) Go.Proofs.Try.func15 (by kernel_rfl) (by kernel_rfl) ?_
  have hM := Mem.refl w
  refine RunF.go 7 [1, 11] (k' := (pin Go.Proofs.Try.f15 [1, 0] 1)) (L' := [(1, .int .u8 a1), (11, .int .i64 a0)]) (w' := w) (by kernel_rfl) ?_
  obtain ⟨t2, ht2, h⟩ := Option.bind_eq_some_iff.mp h
  refine RunF.call (d := some 12) (g := 32) (args := #[.int .i64 a0]) (k2 := (pin Go.Proofs.Try.f15 [1, 0] 2)) (by kernel_rfl) (scrimref9_rows.calls k a0 t2 _ ht2) ?_
  rintro _ W1 ⟨A3, n4, c5, rfl, hM_⟩
  obtain rfl : t2.length = n4 := by have h_ := (hM_.rd 0 rfl).1; simpa [nums_length, bools_length, strs_length] using h_
  replace hM := hM.call hM_
  clear hM_ ht2
  refine RunF.go 20 [5, 6, 7, 8] (k' := (pl Go.Proofs.Try.f15 [1, 1, 1, 0, 1, 0, 0])) (L' := [(5, .slice A3 t2.length c5), (6, .int .i64 (I64 (shr a1 4))), (7, .int .i64 (I64 (band .u8 a1 15))), (8, .int .i64 0)]) (w' := W1) (by kernel_rfl) ?_
  have l0 : ∀ (k_ : Nat), k_ ≤ k → ∀ (x6_0 : Int) (x7_0 : Int) (x8_0 : Int) (W : World) (hM : Mem w W [⟨.slice A3 t2.length c5, 9, 1, strs t2⟩]) (h : scrimref9_Q.l0 k_ t2 x6_0 x7_0 x8_0 = some r), RunF Go.Proofs.Try.prog (Ret fun v w' => v = .int .u8 r ∧ Mem w w' []) 15 (pl Go.Proofs.Try.f15 [1, 1, 1, 0, 1, 0, 0]) 58 [(5, .slice A3 t2.length c5), (6, .int .i64 x6_0), (7, .int .i64 x7_0), (8, .int .i64 x8_0)] W := by
    intro k_
    induction k_ using Nat.strongRecOn with
    | _ k_ ih0 =>
      intro hk x6_0 x7_0 x8_0 W hM h
      cases k_ with
      | zero => exact absurd h (by simp [scrimref9_Q.l0])
      | succ k =>
        simp only [scrimref9_Q.l0] at h
        replace ih0 : ∀ m, m ≤ k → _ := fun m hm => ih0 m (by omega) (by omega)
        refine RunF.go 6 [5, 6, 7, 8, 20] (k' := (pl Go.Proofs.Try.f15 [1, 1, 1, 0, 1, 0, 0, 0, 1])) (L' := [(5, .slice A3 t2.length c5), (6, .int .i64 x6_0), (7, .int .i64 x7_0), (8, .int .i64 x8_0), (20, .bool (decide (x8_0 < 2)))]) (w' := W) (by kernel_rfl) ?_
        rcases two (decide (x8_0 < 2)) with c7 | c7
        · replace h := of_true h c7
          refine RunF.know 20 (b := true) (by kernel_rfl) c7 ?_
          refine RunF.go 27 [5, 8, 9, 10] (k' := (pl Go.Proofs.Try.f15 [1, 1, 1, 0, 1, 0, 0, 1, 0, 0, 1, 1])) (L' := [(5, .slice A3 t2.length c5), (8, .int .i64 x8_0), (9, .int .i64 (bxor .i64 x6_0 x7_0)), (10, .int .i64 (bxor .i64 (bxor .i64 x6_0 (bor .i64 (shr x7_0 1) (band .i64 (shl .i64 x7_0 3) 8))) (Int.tmod (I64 (8 * x6_0)) 16)))]) (w' := W) (by kernel_rfl) ?_
          obtain ⟨y8, hy, h⟩ := Option.bind_eq_some_iff.mp h
          rw [show (bxor .i64 (bxor .i64 x6_0 (bor .i64 (shr x7_0 1) (band .i64 (shl .i64 x7_0 3) 8))) (Int.tmod (I64 (8 * x6_0)) 16)) = y8 from Option.some.inj hy]
          clear hy
          refine RunF.draw (Still ({ W with drawn := W.drawn + 1 } : World) []) (by kernel_rfl) (by kernel_rfl) ?_
          have hMd10 := hM.drew
          have hS := Still.refl ({ W with drawn := W.drawn + 1 } : World) []
          generalize ({ W with drawn := W.drawn + 1 } : World) = W9 at hMd10 hS ⊢
          replace hM := hMd10
          refine RunAny.y 0 (by kernel_rfl) (yl_pure (d := some 38) (v := .slice A3 t2.length c5) (k2 := [.inRegion (opsOf (pl Go.Proofs.Try.f15 [1, 1, 1, 0, 1, 0, 0, 1, 0, 0, 1, 1])) []]) fun w => by kernel_rfl) (fun _ _ => trivial) hS ?_
          refine RunAny.y 1 (by kernel_rfl) (yl_pure (d := some 39) (v := .int .i64 x8_0) (k2 := [.inRegion (opsOf (pl Go.Proofs.Try.f15 [1, 1, 1, 0, 1, 0, 0, 1, 0, 0, 1, 1])) []]) fun w => by kernel_rfl) (fun _ _ => trivial) hS ?_
          refine RunAny.y 2 (by kernel_rfl) (yl_pure (d := some 40) (v := .int .i64 (I64 (2 * x8_0))) (k2 := [.inRegion (opsOf (pl Go.Proofs.Try.f15 [1, 1, 1, 0, 1, 0, 0, 1, 0, 0, 1, 1])) []]) fun w => by kernel_rfl) (fun _ _ => trivial) hS ?_
          rcases two (decide (0 ≤ (I64 (2 * x8_0)))) with c12 | c12
          · replace h := of_true h c12
            rcases two (decide ((I64 (2 * x8_0)) < (t2.length : Int))) with c13 | c13
            · replace h := of_true h c13
              obtain ⟨q11, hAq11, hcq11, hfq11, hlq11⟩ := hM.str_at 0 rfl (i := I64 (2 * x8_0)) (of_decide_eq_true c12) (by have h_ := of_decide_eq_true c13; omega)
              refine RunAny.y 3 (by kernel_rfl) (idx_own (d := some 41) (A := A3) (m := t2.length) (i := I64 (2 * x8_0)) (k2 := [.inRegion (opsOf (pl Go.Proofs.Try.f15 [1, 1, 1, 0, 1, 0, 0, 1, 0, 0, 1, 1])) []]) (by kernel_rfl) (of_decide_eq_true c12) (by have h_ := of_decide_eq_true c13; omega) hAq11) (fun _ _ => trivial) hS ?_
              refine RunAny.y 4 (by kernel_rfl) (ld_y (d := some 42) (p := ⟨q11, (I64 (2 * x8_0) : Int).toNat, none⟩) (k2 := [.inRegion (opsOf (pl Go.Proofs.Try.f15 [1, 1, 1, 0, 1, 0, 0, 1, 0, 0, 1, 1])) []]) (.string (rds t2 (I64 (2 * x8_0)))) (by kernel_rfl)) (fun _ hs => hs.cell hcq11 (by simp)) hS ?_
              refine RunAny.y 5 (by kernel_rfl) (yl_pure (d := some 43) (v := .int .i64 (bxor .i64 x6_0 x7_0)) (k2 := [.inRegion (opsOf (pl Go.Proofs.Try.f15 [1, 1, 1, 0, 1, 0, 0, 1, 0, 0, 1, 1])) []]) fun w => by kernel_rfl) (fun _ _ => trivial) hS ?_
              refine RunAny.y 7 (by kernel_rfl) (yl_pure (d := some 45) (v := .slice A3 t2.length c5) (k2 := [.inRegion (opsOf (pl Go.Proofs.Try.f15 [1, 1, 1, 0, 1, 0, 0, 1, 0, 0, 1, 1])) []]) fun w => by kernel_rfl) (fun _ _ => trivial) hS ?_
              refine RunAny.y 8 (by kernel_rfl) (yl_pure (d := some 46) (v := .int .i64 x8_0) (k2 := [.inRegion (opsOf (pl Go.Proofs.Try.f15 [1, 1, 1, 0, 1, 0, 0, 1, 0, 0, 1, 1])) []]) fun w => by kernel_rfl) (fun _ _ => trivial) hS ?_
              refine RunAny.y 9 (by kernel_rfl) (yl_pure (d := some 47) (v := .int .i64 (I64 (2 * x8_0))) (k2 := [.inRegion (opsOf (pl Go.Proofs.Try.f15 [1, 1, 1, 0, 1, 0, 0, 1, 0, 0, 1, 1])) []]) fun w => by kernel_rfl) (fun _ _ => trivial) hS ?_
              refine RunAny.y 10 (by kernel_rfl) (yl_pure (d := some 48) (v := .int .i64 (I64 ((I64 (2 * x8_0)) + 1))) (k2 := [.inRegion (opsOf (pl Go.Proofs.Try.f15 [1, 1, 1, 0, 1, 0, 0, 1, 0, 0, 1, 1])) []]) fun w => by kernel_rfl) (fun _ _ => trivial) hS ?_
              rcases two (decide (0 ≤ (I64 ((I64 (2 * x8_0)) + 1)))) with c15 | c15
              · replace h := of_true h c15
                rcases two (decide ((I64 ((I64 (2 * x8_0)) + 1)) < (t2.length : Int))) with c16 | c16
                · replace h := of_true h c16
                  obtain ⟨q14, hAq14, hcq14, hfq14, hlq14⟩ := hM.str_at 0 rfl (i := I64 ((I64 (2 * x8_0)) + 1)) (of_decide_eq_true c15) (by have h_ := of_decide_eq_true c16; omega)
                  refine RunAny.y 11 (by kernel_rfl) (idx_own (d := some 49) (A := A3) (m := t2.length) (i := I64 ((I64 (2 * x8_0)) + 1)) (k2 := [.inRegion (opsOf (pl Go.Proofs.Try.f15 [1, 1, 1, 0, 1, 0, 0, 1, 0, 0, 1, 1])) []]) (by kernel_rfl) (of_decide_eq_true c15) (by have h_ := of_decide_eq_true c16; omega) hAq14) (fun _ _ => trivial) hS ?_
                  refine RunAny.y 12 (by kernel_rfl) (ld_y (d := some 50) (p := ⟨q14, (I64 ((I64 (2 * x8_0)) + 1) : Int).toNat, none⟩) (k2 := [.inRegion (opsOf (pl Go.Proofs.Try.f15 [1, 1, 1, 0, 1, 0, 0, 1, 0, 0, 1, 1])) []]) (.string (rds t2 (I64 ((I64 (2 * x8_0)) + 1)))) (by kernel_rfl)) (fun _ hs => hs.cell hcq14 (by simp)) hS ?_
                  refine RunAny.y 13 (by kernel_rfl) (yl_pure (d := some 51) (v := .int .i64 y8) (k2 := [.inRegion (opsOf (pl Go.Proofs.Try.f15 [1, 1, 1, 0, 1, 0, 0, 1, 0, 0, 1, 1])) []]) fun w => by kernel_rfl) (fun _ _ => trivial) hS ?_
                  obtain ⟨t18, ht18, h⟩ := Option.bind_eq_some_iff.mp h
                  refine RunAny.call 6 (d := some 44) (g := 33) (args := #[.string (rds t2 (I64 (2 * x8_0))), .int .i64 (bxor .i64 x6_0 x7_0)]) (by kernel_rfl) (by kernel_rfl) (scrimref6_At.calls k (rds t2 (I64 (2 * x8_0))) (bxor .i64 x6_0 x7_0) t18 _ ht18) (by rintro _ _ ⟨rfl, hM_⟩; exact hS.below hM_.below) ?_
                  rintro _ W17 ⟨rfl, hM_⟩
                  replace hS := hS.below hM_.below
                  replace hM := hM.call hM_
                  clear hM_ ht18
                  refine RunAny.rebase hS ?_
                  replace hS := Still.refl W17 []
                  obtain ⟨t20, ht20, h⟩ := Option.bind_eq_some_iff.mp h
                  refine RunAny.call 14 (d := some 52) (g := 33) (args := #[.string (rds t2 (I64 ((I64 (2 * x8_0)) + 1))), .int .i64 y8]) (by kernel_rfl) (by kernel_rfl) (scrimref6_At.calls k (rds t2 (I64 ((I64 (2 * x8_0)) + 1))) y8 t20 _ ht20) (by rintro _ _ ⟨rfl, hM_⟩; exact hS.below hM_.below) ?_
                  rintro _ W19 ⟨rfl, hM_⟩
                  replace hS := hS.below hM_.below
                  replace hM := hM.call hM_
                  clear hM_ ht20
                  refine RunAny.rebase hS ?_
                  replace hS := Still.refl W19 []
                  refine RunAny.y 15 (by kernel_rfl) (yl_pure (d := some 6) (v := .int .i64 t18) (k2 := [.inRegion (opsOf (pl Go.Proofs.Try.f15 [1, 1, 1, 0, 1, 0, 0, 1, 0, 0, 1, 1])) []]) fun w => by kernel_rfl) (fun _ _ => trivial) hS ?_
                  refine RunAny.y 16 (by kernel_rfl) (yl_pure (d := some 7) (v := .int .i64 t20) (k2 := [.inRegion (opsOf (pl Go.Proofs.Try.f15 [1, 1, 1, 0, 1, 0, 0, 1, 0, 0, 1, 1])) []]) fun w => by kernel_rfl) (fun _ _ => trivial) hS ?_
                  refine RunAny.done (by kernel_rfl) ?_
                  clear hS
                  refine RunF.go 7 [5, 6, 7, 8] (k' := (pl Go.Proofs.Try.f15 [1, 1, 1, 0, 1, 0, 0])) (L' := [(5, .slice A3 t2.length c5), (6, .int .i64 t18), (7, .int .i64 t20), (8, .int .i64 (I64 (x8_0 + 1)))]) (w' := W19) (by kernel_rfl) ?_
                  exact ih0 k (by omega) t18 t20 (I64 (x8_0 + 1)) _ (hM.pick [0] rfl rfl) h
                · replace h := of_false h c16
                  cases h
              · replace h := of_false h c15
                cases h
            · replace h := of_false h c13
              cases h
          · replace h := of_false h c12
            cases h
        · replace h := of_false h c7
          refine RunF.know 20 (b := false) (by kernel_rfl) c7 ?_
          refine RunF.go 11 [4] (k' := (pl Go.Proofs.Try.f15 [1, 1, 1, 1, 1])) (L' := [(4, .int .u8 (U8 (I64 ((I64 (16 * x7_0)) + x6_0))))]) (w' := W) (by kernel_rfl) ?_
          obtain rfl := Option.some.inj h
          exact RunF.ret1 4 (.int .u8 (U8 (I64 ((I64 (16 * x7_0)) + x6_0)))) (fn := Go.Proofs.Try.f15) Go.Proofs.Try.func15 (by kernel_rfl) (by kernel_rfl) (by kernel_rfl) ⟨_, rfl, rfl, (hM.pick [] rfl rfl)⟩
  exact l0 k (Nat.le_refl _) (I64 (shr a1 4)) (I64 (band .u8 a1 15)) 0 _ (hM.pick [0] rfl rfl) h

/-! ### scrim/scrimref9.stage: function 40 -/
def scrimref9_stage.l0 : Nat → (List Int) → (List Int) → Int → Option (List Int)
  | 0, _, _, _ => none
  | k + 1, a1, x2_0, x5_0 => if (decide (x5_0 < 4)) = true then (if (decide (0 ≤ x5_0)) = true then (if (decide (x5_0 < (4 : Int))) = true then (if (decide (0 ≤ x5_0)) = true then (if (decide (x5_0 < (4 : Int))) = true then ((scrimref9_Q.f k (rd a1 x5_0) (rd x2_0 x5_0)).bind fun t20 => (if (decide (0 ≤ x5_0)) = true then (if (decide (x5_0 < (4 : Int))) = true then (scrimref9_stage.l0 k a1 (x2_0.set (x5_0 : Int).toNat t20) (I64 (x5_0 + 1))) else (none)) else (none))) else (none)) else (none)) else (none)) else (none)) else (some x2_0)
def scrimref9_stage.f (k : Nat) (a0 : List Int) (a1 : List Int) : Option (List Int) := scrimref9_stage.l0 k a1 a0 0
set_option maxRecDepth 100000 in
theorem scrimref9_stage.calls (k : Nat) (a0 : List Int) (a1 : List Int) (r : List Int) (w : World) (hl0 : a0.length = 4) (hl1 : a1.length = 4) (h : scrimref9_stage.f k a0 a1 = some r) :
    Calls Go.Proofs.Try.prog 40 #[.agg (nums .u8 a0).toArray, .agg (nums .i64 a1).toArray] w (Ret fun v w' => v = .agg (nums .u8 r).toArray ∧ r.length = 4 ∧ Mem w w' []) := by
  unfold scrimref9_stage.f at h
  refine calls_of [.agg (nums .u8 a0).toArray, .agg (nums .i64 a1).toArray] (fn := Go.Proofs.Try.f40) Go.Proofs.Try.func40 (by kernel_rfl) (by kernel_rfl) ?_
  have hM := Mem.refl w
  refine RunF.go 2 [0, 1] (k' := (pin Go.Proofs.Try.f40 [0] 0)) (L' := [(0, .agg (nums .u8 a0).toArray), (1, .agg (nums .i64 a1).toArray)]) (w' := w) (by kernel_rfl) ?_
  refine RunF.newVar 69 (nums .u8 a0) (d := some 2) (k2 := (pin Go.Proofs.Try.f40 [0] 1)) hM (by kernel_rfl) ?_
  intro g1 W2 hM
  refine RunF.newVar 65 (nums .i64 a1) (d := some 3) (k2 := (pin Go.Proofs.Try.f40 [0] 2)) hM (by kernel_rfl) ?_
  intro g4 W5 hM
  refine RunF.newVar 69 (nums .u8 (List.replicate 4 (0 : Int))) (d := some 4) (k2 := (pin Go.Proofs.Try.f40 [0] 3)) hM (by kernel_rfl) ?_
  intro g7 W8 hM
  refine RunF.go 8 [2, 3, 4, 5] (k' := (pl Go.Proofs.Try.f40 [1, 0, 1, 0, 0])) (L' := [(2, .pointer (some ⟨g1, 0, none⟩)), (3, .pointer (some ⟨g4, 0, none⟩)), (4, .pointer (some ⟨g7, 0, none⟩)), (5, .int .i64 0)]) (w' := W8) (by kernel_rfl) ?_
  have l0 : ∀ (k_ : Nat), k_ ≤ k → ∀ (x2_0 : List Int) (x5_0 : Int) (W : World) (hM : Mem w W [⟨.pointer (some ⟨g1, 0, none⟩), 69, 0, nums .u8 x2_0⟩, ⟨.pointer (some ⟨g4, 0, none⟩), 65, 0, nums .i64 a1⟩, ⟨.pointer (some ⟨g7, 0, none⟩), 69, 0, nums .u8 (List.replicate 4 (0 : Int))⟩]) (hlx2_0 : x2_0.length = 4) (h : scrimref9_stage.l0 k_ a1 x2_0 x5_0 = some r), RunF Go.Proofs.Try.prog (Ret fun v w' => v = .agg (nums .u8 r).toArray ∧ r.length = 4 ∧ Mem w w' []) 40 (pl Go.Proofs.Try.f40 [1, 0, 1, 0, 0]) 20 [(2, .pointer (some ⟨g1, 0, none⟩)), (3, .pointer (some ⟨g4, 0, none⟩)), (4, .pointer (some ⟨g7, 0, none⟩)), (5, .int .i64 x5_0)] W := by
    intro k_
    induction k_ using Nat.strongRecOn with
    | _ k_ ih0 =>
      intro hk x2_0 x5_0 W hM hlx2_0 h
      cases k_ with
      | zero => exact absurd h (by simp [scrimref9_stage.l0])
      | succ k =>
        simp only [scrimref9_stage.l0] at h
        replace ih0 : ∀ m, m ≤ k → _ := fun m hm => ih0 m (by omega) (by omega)
        refine RunF.go 6 [2, 3, 4, 5, 7] (k' := (pl Go.Proofs.Try.f40 [1, 0, 1, 0, 0, 0, 1])) (L' := [(2, .pointer (some ⟨g1, 0, none⟩)), (3, .pointer (some ⟨g4, 0, none⟩)), (4, .pointer (some ⟨g7, 0, none⟩)), (5, .int .i64 x5_0), (7, .bool (decide (x5_0 < 4)))]) (w' := W) (by kernel_rfl) ?_
        rcases two (decide (x5_0 < 4)) with c10 | c10
        · replace h := of_true h c10
          refine RunF.know 7 (b := true) (by kernel_rfl) c10 ?_
          refine RunF.go 4 [2, 3, 4, 5] (k' := (pl Go.Proofs.Try.f40 [1, 0, 1, 0, 0, 1, 0, 0])) (L' := [(2, .pointer (some ⟨g1, 0, none⟩)), (3, .pointer (some ⟨g4, 0, none⟩)), (4, .pointer (some ⟨g7, 0, none⟩)), (5, .int .i64 x5_0)]) (w' := W) (by kernel_rfl) ?_
          refine RunF.draw (Still ({ W with drawn := W.drawn + 1 } : World) [.pointer (some ⟨g1, 0, none⟩)]) (by kernel_rfl) (by kernel_rfl) ?_
          have hMd12 := hM.drew
          have hS := Still.refl ({ W with drawn := W.drawn + 1 } : World) [.pointer (some ⟨g1, 0, none⟩)]
          generalize ({ W with drawn := W.drawn + 1 } : World) = W11 at hMd12 hS ⊢
          replace hM := hMd12
          refine RunAny.y 0 (by kernel_rfl) (yl_pure (d := some 10) (v := .int .i64 x5_0) (k2 := [.inRegion (opsOf (pl Go.Proofs.Try.f40 [1, 0, 1, 0, 0, 1, 0, 0])) []]) fun w => by kernel_rfl) (fun _ _ => trivial) hS ?_
          refine RunAny.y 1 (by kernel_rfl) (yl_pure (d := some 11) (v := .int .i64 x5_0) (k2 := [.inRegion (opsOf (pl Go.Proofs.Try.f40 [1, 0, 1, 0, 0, 1, 0, 0])) []]) fun w => by kernel_rfl) (fun _ _ => trivial) hS ?_
          rcases two (decide (0 ≤ x5_0)) with c14 | c14
          · replace h := of_true h c14
            rcases two (decide (x5_0 < (4 : Int))) with c15 | c15
            · replace h := of_true h c15
              obtain ⟨hcq13, hfq13, hlq13⟩ := hM.arr_num 1 rfl (i := x5_0) (of_decide_eq_true c14) (N := 4) hl1 (of_decide_eq_true c15)
              refine RunAny.y 2 (by kernel_rfl) (idxArr_own (d := some 12) (g := g4) (len := 4) (i := x5_0) (k2 := [.inRegion (opsOf (pl Go.Proofs.Try.f40 [1, 0, 1, 0, 0, 1, 0, 0])) []]) (by kernel_rfl) (of_decide_eq_true c14) (of_decide_eq_true c15)) (fun _ _ => trivial) hS ?_
              refine RunAny.y 3 (by kernel_rfl) (ld_y (d := some 13) (p := ⟨g4, (x5_0 : Int).toNat, none⟩) (k2 := [.inRegion (opsOf (pl Go.Proofs.Try.f40 [1, 0, 1, 0, 0, 1, 0, 0])) []]) (.int .i64 (rd a1 x5_0)) (by kernel_rfl)) (fun _ hs => hs.cell hcq13 (by intro v hv; simp only [List.mem_cons, List.not_mem_nil, or_false] at hv; rcases hv with rfl; exact (hM.ne 1 0 rfl rfl rfl rfl))) hS ?_
              refine RunAny.y 4 (by kernel_rfl) (yl_pure (d := some 14) (v := .int .i64 x5_0) (k2 := [.inRegion (opsOf (pl Go.Proofs.Try.f40 [1, 0, 1, 0, 0, 1, 0, 0])) []]) fun w => by kernel_rfl) (fun _ _ => trivial) hS ?_
              rcases two (decide (0 ≤ x5_0)) with c17 | c17
              · replace h := of_true h c17
                rcases two (decide (x5_0 < (4 : Int))) with c18 | c18
                · replace h := of_true h c18
                  obtain ⟨hcq16, hfq16, hlq16⟩ := hM.arr_num 0 rfl (i := x5_0) (of_decide_eq_true c17) (N := 4) hlx2_0 (of_decide_eq_true c18)
                  refine RunAny.y 5 (by kernel_rfl) (idxArr_own (d := some 15) (g := g1) (len := 4) (i := x5_0) (k2 := [.inRegion (opsOf (pl Go.Proofs.Try.f40 [1, 0, 1, 0, 0, 1, 0, 0])) []]) (by kernel_rfl) (of_decide_eq_true c17) (of_decide_eq_true c18)) (fun _ _ => trivial) hS ?_
                  refine RunAny.does 6 (by kernel_rfl) ((ld_y (d := some 16) (p := ⟨g1, (x5_0 : Int).toNat, none⟩) (k2 := [.inRegion (opsOf (pl Go.Proofs.Try.f40 [1, 0, 1, 0, 0, 1, 0, 0])) []]) (.int .u8 (rd x2_0 x5_0)) (by kernel_rfl)).does hcq16) hS ?_
                  obtain ⟨t20, ht20, h⟩ := Option.bind_eq_some_iff.mp h
                  refine RunAny.call 7 (d := some 17) (g := 15) (args := #[.int .i64 (rd a1 x5_0), .int .u8 (rd x2_0 x5_0)]) (by kernel_rfl) (by kernel_rfl) (scrimref9_Q.calls k (rd a1 x5_0) (rd x2_0 x5_0) t20 _ ht20) (by rintro _ _ ⟨rfl, hM_⟩; exact hS.below hM_.below) ?_
                  rintro _ W19 ⟨rfl, hM_⟩
                  replace hS := hS.below hM_.below
                  replace hM := hM.call hM_
                  clear hM_ ht20
                  refine RunAny.rebase hS ?_
                  replace hS := Still.refl W19 [.pointer (some ⟨g1, 0, none⟩)]
                  rcases two (decide (0 ≤ x5_0)) with c22 | c22
                  · replace h := of_true h c22
                    rcases two (decide (x5_0 < (4 : Int))) with c23 | c23
                    · replace h := of_true h c23
                      obtain ⟨hcq21, hfq21, hlq21⟩ := hM.arr_num 0 rfl (i := x5_0) (of_decide_eq_true c22) (N := 4) hlx2_0 (of_decide_eq_true c23)
                      refine RunAny.y 8 (by kernel_rfl) (idxArr_own (d := some 18) (g := g1) (len := 4) (i := x5_0) (k2 := [.inRegion (opsOf (pl Go.Proofs.Try.f40 [1, 0, 1, 0, 0, 1, 0, 0])) []]) (by kernel_rfl) (of_decide_eq_true c22) (of_decide_eq_true c23)) (fun _ _ => trivial) hS ?_
                      obtain ⟨hc_, hf_, hl_⟩ := hM.arr_num 0 rfl (i := x5_0) (of_decide_eq_true c22) (N := 4) hlx2_0 (of_decide_eq_true c23)
                      have hS' := hS.set (v := .pointer (some ⟨g1, 0, none⟩)) (g := g1) (i := (x5_0 : Int).toNat) (by simp) rfl (.int .u8 t20)
                      refine RunAny.doesU 9 (by kernel_rfl) (st_u (p := (⟨g1, (x5_0 : Int).toNat, none⟩ : Addr)) (v := .int .u8 t20) (k2 := [.inRegion (opsOf (pl Go.Proofs.Try.f40 [1, 0, 1, 0, 0, 1, 0, 0])) []]) (by kernel_rfl) hc_ hf_) hS' ?_
                      replace hM : Mem w (W19.setCell (⟨g1, (x5_0 : Int).toNat, none⟩ : Addr) (.int .u8 t20)) [⟨.pointer (some ⟨g1, 0, none⟩), 69, 0, nums .u8 (x2_0.set (x5_0 : Int).toNat t20)⟩, ⟨.pointer (some ⟨g4, 0, none⟩), 65, 0, nums .i64 a1⟩, ⟨.pointer (some ⟨g7, 0, none⟩), 69, 0, nums .u8 (List.replicate 4 (0 : Int))⟩] := Mem.arr_put_num [] [⟨.pointer (some ⟨g4, 0, none⟩), 65, 0, nums .i64 a1⟩, ⟨.pointer (some ⟨g7, 0, none⟩), 69, 0, nums .u8 (List.replicate 4 (0 : Int))⟩] (hM.pick [0, 1, 2] rfl rfl) _ hl_ _
                      generalize W19.setCell (⟨g1, (x5_0 : Int).toNat, none⟩ : Addr) (.int .u8 t20) = W24 at hM hS' ⊢
                      clear hc_ hf_ hl_ hcq21 hfq21 hlq21
                      replace hS := hS'
                      refine RunAny.rebase hS ?_
                      replace hS := Still.refl W24 [.pointer (some ⟨g1, 0, none⟩)]
                      refine RunAny.done (by kernel_rfl) ?_
                      clear hS
                      refine RunF.go 7 [2, 3, 4, 5] (k' := (pl Go.Proofs.Try.f40 [1, 0, 1, 0, 0])) (L' := [(2, .pointer (some ⟨g1, 0, none⟩)), (3, .pointer (some ⟨g4, 0, none⟩)), (4, .pointer (some ⟨g7, 0, none⟩)), (5, .int .i64 (I64 (x5_0 + 1)))]) (w' := W24) (by kernel_rfl) ?_
                      exact ih0 k (by omega) (x2_0.set (x5_0 : Int).toNat t20) (I64 (x5_0 + 1)) _ (hM.pick [0, 1, 2] rfl rfl) (List.length_set.trans hlx2_0) h
                    · replace h := of_false h c23
                      cases h
                  · replace h := of_false h c22
                    cases h
                · replace h := of_false h c18
                  cases h
              · replace h := of_false h c17
                cases h
            · replace h := of_false h c15
              cases h
          · replace h := of_false h c14
            cases h
        · replace h := of_false h c10
          refine RunF.know 7 (b := false) (by kernel_rfl) c10 ?_
          refine RunF.go 4 [2, 4] (k' := (pin Go.Proofs.Try.f40 [1, 1, 0] 0)) (L' := [(2, .pointer (some ⟨g1, 0, none⟩)), (4, .pointer (some ⟨g7, 0, none⟩))]) (w' := W) (by kernel_rfl) ?_
          refine RunF.y (ldv_y (d := some 19) (g := g1) (N := 4) (ty := 69) (k2 := (pin Go.Proofs.Try.f40 [1, 1, 0] 1)) (nums .u8 x2_0) (by kernel_rfl) (by simp only [nums_length, bools_length, strs_length]; exact hlx2_0)) (hM.block 0 rfl) ?_
          refine RunF.doesU (stv_u (N := 4) (cells := (nums .u8 x2_0).toArray) (old := (nums .u8 (List.replicate 4 (0 : Int))).toArray) (ty := 69) (k2 := (pin Go.Proofs.Try.f40 [1, 1, 0] 2)) (by kernel_rfl) (by rw [List.size_toArray]; simp only [nums_length, bools_length, strs_length]; exact hlx2_0) (hM.block 2 rfl) (by rw [List.size_toArray]; simp only [nums_length, bools_length, strs_length]; exact List.length_replicate) (all_nums _ _)) ?_
          replace hM : Mem w (W.setRow g7 (nums .u8 x2_0).toArray) [⟨.pointer (some ⟨g1, 0, none⟩), 69, 0, nums .u8 x2_0⟩, ⟨.pointer (some ⟨g4, 0, none⟩), 65, 0, nums .i64 a1⟩, ⟨.pointer (some ⟨g7, 0, none⟩), 69, 0, nums .u8 x2_0⟩] := Mem.setAll [⟨.pointer (some ⟨g1, 0, none⟩), 69, 0, nums .u8 x2_0⟩, ⟨.pointer (some ⟨g4, 0, none⟩), 65, 0, nums .i64 a1⟩] [] (hM.pick [0, 1, 2] rfl rfl)
          generalize W.setRow g7 (nums .u8 x2_0).toArray = W25 at hM ⊢
          refine RunF.go 1 [4] (k' := (pl Go.Proofs.Try.f40 [1, 1, 1])) (L' := [(4, .pointer (some ⟨g7, 0, none⟩))]) (w' := W25) (by kernel_rfl) ?_
          obtain rfl := Option.some.inj h
          exact RunF.retc (t := 4) (ty := 69) (N := 4) (g := g7) (nums .u8 x2_0) (fn := Go.Proofs.Try.f40) Go.Proofs.Try.func40 (by kernel_rfl) (by kernel_rfl) (by kernel_rfl) (by kernel_rfl) (by simp only [nums_length, bools_length, strs_length]; exact hlx2_0) (hM.block 2 rfl) ⟨_, rfl, rfl, hlx2_0, (hM.pick [] rfl rfl)⟩
  exact l0 k (Nat.le_refl _) a0 0 _ (hM.pick [2, 1, 0] rfl rfl) hl0 h

/-! ### scrim/scrimref3.Mul: function 41 -/
def scrimref3_Mul.l0 : Nat → Int → Int → Int → Int → Int → Option (Int)
  | 0, _, _, _, _, _ => none
  | k + 1, a1, a2, x7_0, x8_0, x9_0 => if (decide (x9_0 < 8)) = true then (if (decide (0 ≤ x9_0)) = true then (if ((band .u8 (shrv .u8 a1 x9_0) 1) == 1) = true then (if (decide ((shl .i64 x8_0 1) ≥ 256)) = true then (scrimref3_Mul.l0 k a1 a2 (bxor .i64 x7_0 x8_0) (bxor .i64 (shl .i64 x8_0 1) a2) (U64 (x9_0 + 1))) else (scrimref3_Mul.l0 k a1 a2 (bxor .i64 x7_0 x8_0) (shl .i64 x8_0 1) (U64 (x9_0 + 1)))) else (if (decide ((shl .i64 x8_0 1) ≥ 256)) = true then (scrimref3_Mul.l0 k a1 a2 x7_0 (bxor .i64 (shl .i64 x8_0 1) a2) (U64 (x9_0 + 1))) else (scrimref3_Mul.l0 k a1 a2 x7_0 (shl .i64 x8_0 1) (U64 (x9_0 + 1))))) else (none)) else (some (U8 (x7_0)))
def scrimref3_Mul.f (k : Nat) (a0 : Int) (a1 : Int) (a2 : Int) : Option (Int) := scrimref3_Mul.l0 k a1 a2 0 (I64 (a0)) 0
set_option maxRecDepth 100000 in
theorem scrimref3_Mul.calls (k : Nat) (a0 : Int) (a1 : Int) (a2 : Int) (r : Int) (w : World) (h : scrimref3_Mul.f k a0 a1 a2 = some r) :
    Calls Go.Proofs.Try.prog 41 #[.int .u8 a0, .int .u8 a1, .int .i64 a2] w (Ret fun v w' => v = .int .u8 r ∧ Mem w w' []) := by
  unfold scrimref3_Mul.f at h
  refine calls_of [.int .u8 a0, .int .u8 a1, .int .i64 a2] (fn := Go.Proofs.Try.f41) Go.Proofs.Try.func41 (by kernel_rfl) (by kernel_rfl) ?_
  have hM := Mem.refl w
  refine RunF.go 18 [1, 2, 7, 8, 9] (k' := (pl Go.Proofs.Try.f41 [1, 1, 0, 1, 0, 0])) (L' := [(1, .int .u8 a1), (2, .int .i64 a2), (7, .int .i64 0), (8, .int .i64 (I64 (a0))), (9, .int .u64 0)]) (w' := w) (by kernel_rfl) ?_
  have l0 : ∀ (k_ : Nat), k_ ≤ k → ∀ (x7_0 : Int) (x8_0 : Int) (x9_0 : Int) (W : World) (hM : Mem w W []) (h : scrimref3_Mul.l0 k_ a1 a2 x7_0 x8_0 x9_0 = some r), RunF Go.Proofs.Try.prog (Ret fun v w' => v = .int .u8 r ∧ Mem w w' []) 41 (pl Go.Proofs.Try.f41 [1, 1, 0, 1, 0, 0]) 33 [(1, .int .u8 a1), (2, .int .i64 a2), (7, .int .i64 x7_0), (8, .int .i64 x8_0), (9, .int .u64 x9_0)] W := by
    intro k_
    induction k_ using Nat.strongRecOn with
    | _ k_ ih0 =>
      intro hk x7_0 x8_0 x9_0 W hM h
      cases k_ with
      | zero => exact absurd h (by simp [scrimref3_Mul.l0])
      | succ k =>
        simp only [scrimref3_Mul.l0] at h
        replace ih0 : ∀ m, m ≤ k → _ := fun m hm => ih0 m (by omega) (by omega)
        refine RunF.go 6 [1, 2, 7, 8, 9, 13] (k' := (pl Go.Proofs.Try.f41 [1, 1, 0, 1, 0, 0, 0, 1])) (L' := [(1, .int .u8 a1), (2, .int .i64 a2), (7, .int .i64 x7_0), (8, .int .i64 x8_0), (9, .int .u64 x9_0), (13, .bool (decide (x9_0 < 8)))]) (w' := W) (by kernel_rfl) ?_
        rcases two (decide (x9_0 < 8)) with c1 | c1
        · replace h := of_true h c1
          refine RunF.know 13 (b := true) (by kernel_rfl) c1 ?_
          refine RunF.go 9 [1, 2, 7, 8, 9, 16, 17] (k' := (pin Go.Proofs.Try.f41 [1, 1, 0, 1, 0, 0, 1, 0, 0, 0, 0] 2)) (L' := [(1, .int .u8 a1), (2, .int .i64 a2), (7, .int .i64 x7_0), (8, .int .i64 x8_0), (9, .int .u64 x9_0), (16, .int .u8 a1), (17, .int .u64 x9_0)]) (w' := W) (by kernel_rfl) ?_
          rcases two (decide (0 ≤ x9_0)) with c2 | c2
          · replace h := of_true h c2
            refine RunF.y (sh_y (d := some 18) (b := false) (kd := .u8) (x := a1) (y := x9_0) (k2 := (pin Go.Proofs.Try.f41 [1, 1, 0, 1, 0, 0, 1, 0, 0, 0, 0] 3)) (by kernel_rfl) c2) trivial ?_
            refine RunF.go 3 [1, 2, 7, 8, 9, 20] (k' := (pl Go.Proofs.Try.f41 [1, 1, 0, 1, 0, 0, 1, 0, 0, 0, 1])) (L' := [(1, .int .u8 a1), (2, .int .i64 a2), (7, .int .i64 x7_0), (8, .int .i64 x8_0), (9, .int .u64 x9_0), (20, .bool ((band .u8 (shrv .u8 a1 x9_0) 1) == 1))]) (w' := W) (by kernel_rfl) ?_
            rcases two (((band .u8 (shrv .u8 a1 x9_0) 1) == 1)) with c3 | c3
            · replace h := of_true h c3
              refine RunF.know 20 (b := true) (by kernel_rfl) c3 ?_
              refine RunF.go 18 [1, 2, 7, 8, 9, 27] (k' := (pl Go.Proofs.Try.f41 [1, 1, 0, 1, 0, 0, 1, 0, 0, 1, 1, 1])) (L' := [(1, .int .u8 a1), (2, .int .i64 a2), (7, .int .i64 (bxor .i64 x7_0 x8_0)), (8, .int .i64 (shl .i64 x8_0 1)), (9, .int .u64 x9_0), (27, .bool (decide ((shl .i64 x8_0 1) ≥ 256)))]) (w' := W) (by kernel_rfl) ?_
              rcases two (decide ((shl .i64 x8_0 1) ≥ 256)) with c4 | c4
              · replace h := of_true h c4
                refine RunF.know 27 (b := true) (by kernel_rfl) c4 ?_
                refine RunF.go 14 [1, 2, 7, 8, 9] (k' := (pl Go.Proofs.Try.f41 [1, 1, 0, 1, 0, 0])) (L' := [(1, .int .u8 a1), (2, .int .i64 a2), (7, .int .i64 (bxor .i64 x7_0 x8_0)), (8, .int .i64 (bxor .i64 (shl .i64 x8_0 1) a2)), (9, .int .u64 (U64 (x9_0 + 1)))]) (w' := W) (by kernel_rfl) ?_
                exact ih0 k (by omega) (bxor .i64 x7_0 x8_0) (bxor .i64 (shl .i64 x8_0 1) a2) (U64 (x9_0 + 1)) _ (hM.pick [] rfl rfl) h
              · replace h := of_false h c4
                refine RunF.know 27 (b := false) (by kernel_rfl) c4 ?_
                refine RunF.go 9 [1, 2, 7, 8, 9] (k' := (pl Go.Proofs.Try.f41 [1, 1, 0, 1, 0, 0])) (L' := [(1, .int .u8 a1), (2, .int .i64 a2), (7, .int .i64 (bxor .i64 x7_0 x8_0)), (8, .int .i64 (shl .i64 x8_0 1)), (9, .int .u64 (U64 (x9_0 + 1)))]) (w' := W) (by kernel_rfl) ?_
                exact ih0 k (by omega) (bxor .i64 x7_0 x8_0) (shl .i64 x8_0 1) (U64 (x9_0 + 1)) _ (hM.pick [] rfl rfl) h
            · replace h := of_false h c3
              refine RunF.know 20 (b := false) (by kernel_rfl) c3 ?_
              refine RunF.go 13 [1, 2, 7, 8, 9, 27] (k' := (pl Go.Proofs.Try.f41 [1, 1, 0, 1, 0, 0, 1, 0, 0, 1, 1, 1])) (L' := [(1, .int .u8 a1), (2, .int .i64 a2), (7, .int .i64 x7_0), (8, .int .i64 (shl .i64 x8_0 1)), (9, .int .u64 x9_0), (27, .bool (decide ((shl .i64 x8_0 1) ≥ 256)))]) (w' := W) (by kernel_rfl) ?_
              rcases two (decide ((shl .i64 x8_0 1) ≥ 256)) with c5 | c5
              · replace h := of_true h c5
                refine RunF.know 27 (b := true) (by kernel_rfl) c5 ?_
                refine RunF.go 14 [1, 2, 7, 8, 9] (k' := (pl Go.Proofs.Try.f41 [1, 1, 0, 1, 0, 0])) (L' := [(1, .int .u8 a1), (2, .int .i64 a2), (7, .int .i64 x7_0), (8, .int .i64 (bxor .i64 (shl .i64 x8_0 1) a2)), (9, .int .u64 (U64 (x9_0 + 1)))]) (w' := W) (by kernel_rfl) ?_
                exact ih0 k (by omega) x7_0 (bxor .i64 (shl .i64 x8_0 1) a2) (U64 (x9_0 + 1)) _ (hM.pick [] rfl rfl) h
              · replace h := of_false h c5
                refine RunF.know 27 (b := false) (by kernel_rfl) c5 ?_
                refine RunF.go 9 [1, 2, 7, 8, 9] (k' := (pl Go.Proofs.Try.f41 [1, 1, 0, 1, 0, 0])) (L' := [(1, .int .u8 a1), (2, .int .i64 a2), (7, .int .i64 x7_0), (8, .int .i64 (shl .i64 x8_0 1)), (9, .int .u64 (U64 (x9_0 + 1)))]) (w' := W) (by kernel_rfl) ?_
                exact ih0 k (by omega) x7_0 (shl .i64 x8_0 1) (U64 (x9_0 + 1)) _ (hM.pick [] rfl rfl) h
          · replace h := of_false h c2
            cases h
        · replace h := of_false h c1
          refine RunF.know 13 (b := false) (by kernel_rfl) c1 ?_
          refine RunF.go 8 [6] (k' := (pl Go.Proofs.Try.f41 [1, 1, 1, 1])) (L' := [(6, .int .u8 (U8 (x7_0)))]) (w' := W) (by kernel_rfl) ?_
          obtain rfl := Option.some.inj h
          exact RunF.ret1 6 (.int .u8 (U8 (x7_0))) (fn := Go.Proofs.Try.f41) Go.Proofs.Try.func41 (by kernel_rfl) (by kernel_rfl) (by kernel_rfl) ⟨_, rfl, rfl, (hM.pick [] rfl rfl)⟩
  exact l0 k (Nat.le_refl _) 0 (I64 (a0)) 0 _ (hM.pick [] rfl rfl) h

/-! ### scrim/scrimref9.H: function 17 -/
mutual
def scrimref9_H.l0 : Nat → (List Int) → Int → Int → Option (Int)
  | 0, _, _, _ => none
  | k + 1, t47, x7_0, x8_0 => if (decide (x8_0 < 4)) = true then (scrimref9_H.l1 k t47 x8_0 x7_0 0) else (some x7_0)
def scrimref9_H.l1 : Nat → (List Int) → Int → Int → Int → Option (Int)
  | 0, _, _, _, _ => none
  | k + 1, t47, x8_0, x7_1, x9_1 => if (decide (x9_1 < 4)) = true then (if (decide (0 ≤ x8_0)) = true then (if (decide (x8_0 < (4 : Int))) = true then (if (decide (0 ≤ x9_1)) = true then (if (decide (x9_1 < (4 : Int))) = true then (if (decide (0 ≤ x9_1)) = true then (if (decide (x9_1 < (4 : Int))) = true then ((scrimref3_Mul.f k (rd ([1, 239, 91, 91, 91, 239, 239, 1, 239, 91, 1, 239, 239, 1, 239, 91] : List Int) ((x8_0 * (4 : Int)) + x9_1)) (rd t47 x9_1) 361).bind fun t68 => (if (decide (0 ≤ (U64 (I64 (8 * x8_0))))) = true then ((some (bxor .u32 x7_1 (shlv .u32 (U32 (t68)) (U64 (I64 (8 * x8_0)))) : Int)).bind fun y70 => (scrimref9_H.l1 k t47 x8_0 y70 (I64 (x9_1 + 1)))) else (none))) else (none)) else (none)) else (none)) else (none)) else (none)) else (none)) else (scrimref9_H.l0 k t47 x7_1 (I64 (x8_0 + 1)))
def scrimref9_H.l2 : Nat → (List Int) → Int → Int → Option (Int)
  | 0, _, _, _ => none
  | k + 1, t91, x7_2, x8_2 => if (decide (x8_2 < 4)) = true then (scrimref9_H.l3 k t91 x8_2 x7_2 0) else (some x7_2)
def scrimref9_H.l3 : Nat → (List Int) → Int → Int → Int → Option (Int)
  | 0, _, _, _, _ => none
  | k + 1, t91, x8_2, x7_3, x9_3 => if (decide (x9_3 < 4)) = true then (if (decide (0 ≤ x8_2)) = true then (if (decide (x8_2 < (4 : Int))) = true then (if (decide (0 ≤ x9_3)) = true then (if (decide (x9_3 < (4 : Int))) = true then (if (decide (0 ≤ x9_3)) = true then (if (decide (x9_3 < (4 : Int))) = true then ((scrimref3_Mul.f k (rd ([1, 239, 91, 91, 91, 239, 239, 1, 239, 91, 1, 239, 239, 1, 239, 91] : List Int) ((x8_2 * (4 : Int)) + x9_3)) (rd t91 x9_3) 361).bind fun t112 => (if (decide (0 ≤ (U64 (I64 (8 * x8_2))))) = true then ((some (bxor .u32 x7_3 (shlv .u32 (U32 (t112)) (U64 (I64 (8 * x8_2)))) : Int)).bind fun y114 => (scrimref9_H.l3 k t91 x8_2 y114 (I64 (x9_3 + 1)))) else (none))) else (none)) else (none)) else (none)) else (none)) else (none)) else (none)) else (scrimref9_H.l2 k t91 x7_3 (I64 (x8_2 + 1)))
def scrimref9_H.l4 : Nat → (List Int) → Int → Int → Option (Int)
  | 0, _, _, _ => none
  | k + 1, t145, x7_4, x8_4 => if (decide (x8_4 < 4)) = true then (scrimref9_H.l5 k t145 x8_4 x7_4 0) else (some x7_4)
def scrimref9_H.l5 : Nat → (List Int) → Int → Int → Int → Option (Int)
  | 0, _, _, _, _ => none
  | k + 1, t145, x8_4, x7_5, x9_5 => if (decide (x9_5 < 4)) = true then (if (decide (0 ≤ x8_4)) = true then (if (decide (x8_4 < (4 : Int))) = true then (if (decide (0 ≤ x9_5)) = true then (if (decide (x9_5 < (4 : Int))) = true then (if (decide (0 ≤ x9_5)) = true then (if (decide (x9_5 < (4 : Int))) = true then ((scrimref3_Mul.f k (rd ([1, 239, 91, 91, 91, 239, 239, 1, 239, 91, 1, 239, 239, 1, 239, 91] : List Int) ((x8_4 * (4 : Int)) + x9_5)) (rd t145 x9_5) 361).bind fun t166 => (if (decide (0 ≤ (U64 (I64 (8 * x8_4))))) = true then ((some (bxor .u32 x7_5 (shlv .u32 (U32 (t166)) (U64 (I64 (8 * x8_4)))) : Int)).bind fun y168 => (scrimref9_H.l5 k t145 x8_4 y168 (I64 (x9_5 + 1)))) else (none))) else (none)) else (none)) else (none)) else (none)) else (none)) else (none)) else (scrimref9_H.l4 k t145 x7_5 (I64 (x8_4 + 1)))
def scrimref9_H.l6 : Nat → (List Int) → Int → Int → Option (Int)
  | 0, _, _, _ => none
  | k + 1, t189, x7_6, x8_6 => if (decide (x8_6 < 4)) = true then (scrimref9_H.l7 k t189 x8_6 x7_6 0) else (some x7_6)
def scrimref9_H.l7 : Nat → (List Int) → Int → Int → Int → Option (Int)
  | 0, _, _, _, _ => none
  | k + 1, t189, x8_6, x7_7, x9_7 => if (decide (x9_7 < 4)) = true then (if (decide (0 ≤ x8_6)) = true then (if (decide (x8_6 < (4 : Int))) = true then (if (decide (0 ≤ x9_7)) = true then (if (decide (x9_7 < (4 : Int))) = true then (if (decide (0 ≤ x9_7)) = true then (if (decide (x9_7 < (4 : Int))) = true then ((scrimref3_Mul.f k (rd ([1, 239, 91, 91, 91, 239, 239, 1, 239, 91, 1, 239, 239, 1, 239, 91] : List Int) ((x8_6 * (4 : Int)) + x9_7)) (rd t189 x9_7) 361).bind fun t210 => (if (decide (0 ≤ (U64 (I64 (8 * x8_6))))) = true then ((some (bxor .u32 x7_7 (shlv .u32 (U32 (t210)) (U64 (I64 (8 * x8_6)))) : Int)).bind fun y212 => (scrimref9_H.l7 k t189 x8_6 y212 (I64 (x9_7 + 1)))) else (none))) else (none)) else (none)) else (none)) else (none)) else (none)) else (none)) else (scrimref9_H.l6 k t189 x7_7 (I64 (x8_6 + 1)))
end
def scrimref9_H.f (k : Nat) (a0 : Int) (a1 : List Int) : Option (Int) := (scrimref9_laid.f k ([0, 0, 0, 0] : List Int) a0).bind fun t2 => (if (decide ((a1.length : Int) ≥ 4)) = true then (if (decide (3 < (a1.length : Int))) = true then ((scrimref9_stage.f k t2 ([1, 0, 0, 1] : List Int)).bind fun t13 => ((scrimref9_laid.f k t13 (rd a1 3)).bind fun t15 => (if (decide ((a1.length : Int) ≥ 3)) = true then (if (decide (2 < (a1.length : Int))) = true then ((scrimref9_stage.f k t15 ([1, 1, 0, 0] : List Int)).bind fun t23 => ((scrimref9_laid.f k t23 (rd a1 2)).bind fun t25 => (if (decide ((a1.length : Int) < 2)) = true then (some 0) else (if (decide (1 < (a1.length : Int))) = true then ((scrimref9_stage.f k t25 ([0, 1, 0, 1] : List Int)).bind fun t33 => ((scrimref9_laid.f k t33 (rd a1 1)).bind fun t35 => (if (decide (0 < (a1.length : Int))) = true then ((scrimref9_stage.f k t35 ([0, 0, 1, 1] : List Int)).bind fun t42 => ((scrimref9_laid.f k t42 (rd a1 0)).bind fun t44 => ((scrimref9_stage.f k t44 ([1, 0, 1, 0] : List Int)).bind fun t47 => (scrimref9_H.l0 k t47 0 0)))) else (none)))) else (none))))) else (none)) else (if (decide ((a1.length : Int) < 2)) = true then (some 0) else (if (decide (1 < (a1.length : Int))) = true then ((scrimref9_stage.f k t15 ([0, 1, 0, 1] : List Int)).bind fun t77 => ((scrimref9_laid.f k t77 (rd a1 1)).bind fun t79 => (if (decide (0 < (a1.length : Int))) = true then ((scrimref9_stage.f k t79 ([0, 0, 1, 1] : List Int)).bind fun t86 => ((scrimref9_laid.f k t86 (rd a1 0)).bind fun t88 => ((scrimref9_stage.f k t88 ([1, 0, 1, 0] : List Int)).bind fun t91 => (scrimref9_H.l2 k t91 0 0)))) else (none)))) else (none)))))) else (none)) else (if (decide ((a1.length : Int) ≥ 3)) = true then (if (decide (2 < (a1.length : Int))) = true then ((scrimref9_stage.f k t2 ([1, 1, 0, 0] : List Int)).bind fun t121 => ((scrimref9_laid.f k t121 (rd a1 2)).bind fun t123 => (if (decide ((a1.length : Int) < 2)) = true then (some 0) else (if (decide (1 < (a1.length : Int))) = true then ((scrimref9_stage.f k t123 ([0, 1, 0, 1] : List Int)).bind fun t131 => ((scrimref9_laid.f k t131 (rd a1 1)).bind fun t133 => (if (decide (0 < (a1.length : Int))) = true then ((scrimref9_stage.f k t133 ([0, 0, 1, 1] : List Int)).bind fun t140 => ((scrimref9_laid.f k t140 (rd a1 0)).bind fun t142 => ((scrimref9_stage.f k t142 ([1, 0, 1, 0] : List Int)).bind fun t145 => (scrimref9_H.l4 k t145 0 0)))) else (none)))) else (none))))) else (none)) else (if (decide ((a1.length : Int) < 2)) = true then (some 0) else (if (decide (1 < (a1.length : Int))) = true then ((scrimref9_stage.f k t2 ([0, 1, 0, 1] : List Int)).bind fun t175 => ((scrimref9_laid.f k t175 (rd a1 1)).bind fun t177 => (if (decide (0 < (a1.length : Int))) = true then ((scrimref9_stage.f k t177 ([0, 0, 1, 1] : List Int)).bind fun t184 => ((scrimref9_laid.f k t184 (rd a1 0)).bind fun t186 => ((scrimref9_stage.f k t186 ([1, 0, 1, 0] : List Int)).bind fun t189 => (scrimref9_H.l6 k t189 0 0)))) else (none)))) else (none)))))
set_option maxRecDepth 100000 in
set_option maxHeartbeats 8000000 in
theorem scrimref9_H.calls (k : Nat) (a0 : Int) (Ap1 : Option Addr) (np1 cp1 : Nat) (a1 : List Int) (r : Int) (w : World) (hr1 : Rd w (.slice Ap1 np1 cp1) (nums .u32 a1)) (h : scrimref9_H.f k a0 a1 = some r) :
    Calls Go.Proofs.Try.prog 17 #[.int .u32 a0, (.slice Ap1 np1 cp1)] w (Ret fun v w' => v = .int .u32 r ∧ Mem w w' []) := by
  obtain rfl : a1.length = np1 := by have h_ := hr1.1; simpa [nums_length, bools_length, strs_length] using h_
  unfold scrimref9_H.f at h
  refine calls_of [.int .u32 a0, .slice Ap1 a1.length cp1] (fn := Go.Proofs.Try.f17) Go.Proofs.Try.func17 (by kernel_rfl) (by kernel_rfl) ?_
  have hM := Mem.refl w
  refine RunF.go 8 [1, 10, 11] (k' := (pin Go.Proofs.Try.f17 [1, 0] 2)) (L' := [(1, .slice Ap1 a1.length cp1), (10, .agg (nums .u8 ([0, 0, 0, 0] : List Int)).toArray), (11, .int .u32 a0)]) (w' := w) (by kernel_rfl) ?_
  obtain ⟨t2, ht2, h⟩ := Option.bind_eq_some_iff.mp h
  refine RunF.call (d := some 12) (g := 39) (args := #[.agg (nums .u8 ([0, 0, 0, 0] : List Int)).toArray, .int .u32 a0]) (k2 := (pin Go.Proofs.Try.f17 [1, 0] 3)) (by kernel_rfl) (scrimref9_laid.calls k ([0, 0, 0, 0] : List Int) a0 t2 _ rfl ht2) ?_
  rintro _ W1 ⟨rfl, hNt2_0, hM_⟩
  replace hM := hM.call hM_
  clear hM_ ht2
  refine RunF.newVar 69 (nums .u8 (List.replicate 4 (0 : Int))) (d := some 5) (k2 := (pin Go.Proofs.Try.f17 [1, 0] 4)) hM (by kernel_rfl) ?_
  intro g3 W4 hM
  refine RunF.doesU (stv_u (N := 4) (cells := (nums .u8 t2).toArray) (old := (nums .u8 (List.replicate 4 (0 : Int))).toArray) (ty := 69) (k2 := (pin Go.Proofs.Try.f17 [1, 0] 5)) (by kernel_rfl) (by rw [List.size_toArray]; simp only [nums_length, bools_length, strs_length]; exact hNt2_0) (hM.block 0 rfl) (by rw [List.size_toArray]; simp only [nums_length, bools_length, strs_length]; exact List.length_replicate) (all_nums _ _)) ?_
  replace hM : Mem w (W4.setRow g3 (nums .u8 t2).toArray) [⟨.pointer (some ⟨g3, 0, none⟩), 69, 0, nums .u8 t2⟩] := Mem.setAll [] [] (hM.pick [0] rfl rfl)
  generalize W4.setRow g3 (nums .u8 t2).toArray = W6 at hM ⊢
  refine RunF.go 8 [1, 5, 15] (k' := (pl Go.Proofs.Try.f17 [1, 1, 0, 1])) (L' := [(1, .slice Ap1 a1.length cp1), (5, .pointer (some ⟨g3, 0, none⟩)), (15, .bool (decide ((a1.length : Int) ≥ 4)))]) (w' := W6) (by kernel_rfl) ?_
  rcases two (decide ((a1.length : Int) ≥ 4)) with c7 | c7
  · replace h := of_true h c7
    refine RunF.know 15 (b := true) (by kernel_rfl) c7 ?_
    refine RunF.go 1 [1, 5] (k' := (pl Go.Proofs.Try.f17 [1, 1, 0, 1, 0])) (L' := [(1, .slice Ap1 a1.length cp1), (5, .pointer (some ⟨g3, 0, none⟩))]) (w' := W6) (by kernel_rfl) ?_
    refine RunF.draw (Still ({ W6 with drawn := W6.drawn + 1 } : World) [.pointer (some ⟨g3, 0, none⟩)]) (by kernel_rfl) (by kernel_rfl) ?_
    have hMd9 := hM.drew
    have hS := Still.refl ({ W6 with drawn := W6.drawn + 1 } : World) [.pointer (some ⟨g3, 0, none⟩)]
    generalize ({ W6 with drawn := W6.drawn + 1 } : World) = W8 at hMd9 hS ⊢
    replace hM := hMd9
    refine RunAny.y 1 (by kernel_rfl) (yl_pure (d := some 17) (v := .agg (nums .i64 ([1, 0, 0, 1] : List Int)).toArray) (k2 := [.inRegion (opsOf (pl Go.Proofs.Try.f17 [1, 1, 0, 1, 0])) []]) fun w => by kernel_rfl) (fun _ _ => trivial) hS ?_
    refine RunAny.y 3 (by kernel_rfl) (yl_pure (d := some 19) (v := .slice Ap1 a1.length cp1) (k2 := [.inRegion (opsOf (pl Go.Proofs.Try.f17 [1, 1, 0, 1, 0])) []]) fun w => by kernel_rfl) (fun _ _ => trivial) hS ?_
    rcases two (decide (3 < (a1.length : Int))) with c11 | c11
    · replace h := of_true h c11
      obtain ⟨q10, hAq10, hiq10⟩ := Rd.num hr1 (i := 3) (by omega) (by have h_ := of_decide_eq_true c11; omega)
      have hcq10 := (hM.below.cell (World.block_lt_of_cell? _ _ hiq10)).trans hiq10
      refine RunAny.y 4 (by kernel_rfl) (idx_y (d := some 20) (A := Ap1) (m := a1.length) (i := 3) (k2 := [.inRegion (opsOf (pl Go.Proofs.Try.f17 [1, 1, 0, 1, 0])) []]) (by kernel_rfl) (by omega) (by have h_ := of_decide_eq_true c11; omega) hAq10) (fun _ _ => trivial) hS ?_
      refine RunAny.y 5 (by kernel_rfl) (ld_y (d := some 21) (p := (q10.add (3 : Int).toNat)) (k2 := [.inRegion (opsOf (pl Go.Proofs.Try.f17 [1, 1, 0, 1, 0])) []]) (.int .u32 (rd a1 3)) (by kernel_rfl)) (fun _ hs => hs.cell hcq10 (by intro v hv; simp only [List.mem_cons, List.not_mem_nil, or_false] at hv; rcases hv with rfl; exact (hM.far hiq10 0 rfl))) hS ?_
      refine RunAny.does 0 (by kernel_rfl) ((ldv_y (d := some 16) (g := g3) (N := 4) (ty := 69) (k2 := [.inRegion (opsOf (pl Go.Proofs.Try.f17 [1, 1, 0, 1, 0])) []]) (nums .u8 t2) (by kernel_rfl) (by simp only [nums_length, bools_length, strs_length]; exact hNt2_0)).does (hM.block 0 rfl)) hS ?_
      obtain ⟨t13, ht13, h⟩ := Option.bind_eq_some_iff.mp h
      refine RunAny.call 2 (d := some 18) (g := 40) (args := #[.agg (nums .u8 t2).toArray, .agg (nums .i64 ([1, 0, 0, 1] : List Int)).toArray]) (by kernel_rfl) (by kernel_rfl) (scrimref9_stage.calls k t2 ([1, 0, 0, 1] : List Int) t13 _ hNt2_0 rfl ht13) (by rintro _ _ ⟨rfl, _, hM_⟩; exact hS.below hM_.below) ?_
      rintro _ W12 ⟨rfl, hNt13_0, hM_⟩
      replace hS := hS.below hM_.below
      replace hM := hM.call hM_
      clear hM_ ht13
      refine RunAny.rebase hS ?_
      replace hS := Still.refl W12 [.pointer (some ⟨g3, 0, none⟩)]
      obtain ⟨t15, ht15, h⟩ := Option.bind_eq_some_iff.mp h
      refine RunAny.call 6 (d := some 22) (g := 39) (args := #[.agg (nums .u8 t13).toArray, .int .u32 (rd a1 3)]) (by kernel_rfl) (by kernel_rfl) (scrimref9_laid.calls k t13 (rd a1 3) t15 _ hNt13_0 ht15) (by rintro _ _ ⟨rfl, _, hM_⟩; exact hS.below hM_.below) ?_
      rintro _ W14 ⟨rfl, hNt15_0, hM_⟩
      replace hS := hS.below hM_.below
      replace hM := hM.call hM_
      clear hM_ ht15
      refine RunAny.rebase hS ?_
      replace hS := Still.refl W14 [.pointer (some ⟨g3, 0, none⟩)]
      have hS' := hS.setRow (v := .pointer (some ⟨g3, 0, none⟩)) (g := g3) (by simp) rfl (nums .u8 t15).toArray
      refine RunAny.doesU 7 (by kernel_rfl) (stv_u (N := 4) (cells := (nums .u8 t15).toArray) (old := (nums .u8 t2).toArray) (ty := 69) (k2 := [.inRegion (opsOf (pl Go.Proofs.Try.f17 [1, 1, 0, 1, 0])) []]) (by kernel_rfl) (by rw [List.size_toArray]; simp only [nums_length, bools_length, strs_length]; exact hNt15_0) (hM.block 0 rfl) (by rw [List.size_toArray]; simp only [nums_length, bools_length, strs_length]; exact hNt2_0) (all_nums _ _)) hS' ?_
      replace hM : Mem w (W14.setRow g3 (nums .u8 t15).toArray) [⟨.pointer (some ⟨g3, 0, none⟩), 69, 0, nums .u8 t15⟩] := Mem.setAll [] [] (hM.pick [0] rfl rfl)
      generalize W14.setRow g3 (nums .u8 t15).toArray = W16 at hM hS' ⊢
      replace hS := hS'
      refine RunAny.rebase hS ?_
      replace hS := Still.refl W16 [.pointer (some ⟨g3, 0, none⟩)]
      refine RunAny.done (by kernel_rfl) ?_
      clear hS
      refine RunF.go 7 [1, 5, 25] (k' := (pl Go.Proofs.Try.f17 [1, 1, 1, 0, 1])) (L' := [(1, .slice Ap1 a1.length cp1), (5, .pointer (some ⟨g3, 0, none⟩)), (25, .bool (decide ((a1.length : Int) ≥ 3)))]) (w' := W16) (by kernel_rfl) ?_
      rcases two (decide ((a1.length : Int) ≥ 3)) with c17 | c17
      · replace h := of_true h c17
        refine RunF.know 25 (b := true) (by kernel_rfl) c17 ?_
        refine RunF.go 1 [1, 5] (k' := (pl Go.Proofs.Try.f17 [1, 1, 1, 0, 1, 0])) (L' := [(1, .slice Ap1 a1.length cp1), (5, .pointer (some ⟨g3, 0, none⟩))]) (w' := W16) (by kernel_rfl) ?_
        refine RunF.draw (Still ({ W16 with drawn := W16.drawn + 1 } : World) [.pointer (some ⟨g3, 0, none⟩)]) (by kernel_rfl) (by kernel_rfl) ?_
        have hMd19 := hM.drew
        have hS := Still.refl ({ W16 with drawn := W16.drawn + 1 } : World) [.pointer (some ⟨g3, 0, none⟩)]
        generalize ({ W16 with drawn := W16.drawn + 1 } : World) = W18 at hMd19 hS ⊢
        replace hM := hMd19
        refine RunAny.y 1 (by kernel_rfl) (yl_pure (d := some 27) (v := .agg (nums .i64 ([1, 1, 0, 0] : List Int)).toArray) (k2 := [.inRegion (opsOf (pl Go.Proofs.Try.f17 [1, 1, 1, 0, 1, 0])) []]) fun w => by kernel_rfl) (fun _ _ => trivial) hS ?_
        refine RunAny.y 3 (by kernel_rfl) (yl_pure (d := some 29) (v := .slice Ap1 a1.length cp1) (k2 := [.inRegion (opsOf (pl Go.Proofs.Try.f17 [1, 1, 1, 0, 1, 0])) []]) fun w => by kernel_rfl) (fun _ _ => trivial) hS ?_
        rcases two (decide (2 < (a1.length : Int))) with c21 | c21
        · replace h := of_true h c21
          obtain ⟨q20, hAq20, hiq20⟩ := Rd.num hr1 (i := 2) (by omega) (by have h_ := of_decide_eq_true c21; omega)
          have hcq20 := (hM.below.cell (World.block_lt_of_cell? _ _ hiq20)).trans hiq20
          refine RunAny.y 4 (by kernel_rfl) (idx_y (d := some 30) (A := Ap1) (m := a1.length) (i := 2) (k2 := [.inRegion (opsOf (pl Go.Proofs.Try.f17 [1, 1, 1, 0, 1, 0])) []]) (by kernel_rfl) (by omega) (by have h_ := of_decide_eq_true c21; omega) hAq20) (fun _ _ => trivial) hS ?_
          refine RunAny.y 5 (by kernel_rfl) (ld_y (d := some 31) (p := (q20.add (2 : Int).toNat)) (k2 := [.inRegion (opsOf (pl Go.Proofs.Try.f17 [1, 1, 1, 0, 1, 0])) []]) (.int .u32 (rd a1 2)) (by kernel_rfl)) (fun _ hs => hs.cell hcq20 (by intro v hv; simp only [List.mem_cons, List.not_mem_nil, or_false] at hv; rcases hv with rfl; exact (hM.far hiq20 0 rfl))) hS ?_
          refine RunAny.does 0 (by kernel_rfl) ((ldv_y (d := some 26) (g := g3) (N := 4) (ty := 69) (k2 := [.inRegion (opsOf (pl Go.Proofs.Try.f17 [1, 1, 1, 0, 1, 0])) []]) (nums .u8 t15) (by kernel_rfl) (by simp only [nums_length, bools_length, strs_length]; exact hNt15_0)).does (hM.block 0 rfl)) hS ?_
          obtain ⟨t23, ht23, h⟩ := Option.bind_eq_some_iff.mp h
          refine RunAny.call 2 (d := some 28) (g := 40) (args := #[.agg (nums .u8 t15).toArray, .agg (nums .i64 ([1, 1, 0, 0] : List Int)).toArray]) (by kernel_rfl) (by kernel_rfl) (scrimref9_stage.calls k t15 ([1, 1, 0, 0] : List Int) t23 _ hNt15_0 rfl ht23) (by rintro _ _ ⟨rfl, _, hM_⟩; exact hS.below hM_.below) ?_
          rintro _ W22 ⟨rfl, hNt23_0, hM_⟩
          replace hS := hS.below hM_.below
          replace hM := hM.call hM_
          clear hM_ ht23
          refine RunAny.rebase hS ?_
          replace hS := Still.refl W22 [.pointer (some ⟨g3, 0, none⟩)]
          obtain ⟨t25, ht25, h⟩ := Option.bind_eq_some_iff.mp h
          refine RunAny.call 6 (d := some 32) (g := 39) (args := #[.agg (nums .u8 t23).toArray, .int .u32 (rd a1 2)]) (by kernel_rfl) (by kernel_rfl) (scrimref9_laid.calls k t23 (rd a1 2) t25 _ hNt23_0 ht25) (by rintro _ _ ⟨rfl, _, hM_⟩; exact hS.below hM_.below) ?_
          rintro _ W24 ⟨rfl, hNt25_0, hM_⟩
          replace hS := hS.below hM_.below
          replace hM := hM.call hM_
          clear hM_ ht25
          refine RunAny.rebase hS ?_
          replace hS := Still.refl W24 [.pointer (some ⟨g3, 0, none⟩)]
          have hS' := hS.setRow (v := .pointer (some ⟨g3, 0, none⟩)) (g := g3) (by simp) rfl (nums .u8 t25).toArray
          refine RunAny.doesU 7 (by kernel_rfl) (stv_u (N := 4) (cells := (nums .u8 t25).toArray) (old := (nums .u8 t15).toArray) (ty := 69) (k2 := [.inRegion (opsOf (pl Go.Proofs.Try.f17 [1, 1, 1, 0, 1, 0])) []]) (by kernel_rfl) (by rw [List.size_toArray]; simp only [nums_length, bools_length, strs_length]; exact hNt25_0) (hM.block 0 rfl) (by rw [List.size_toArray]; simp only [nums_length, bools_length, strs_length]; exact hNt15_0) (all_nums _ _)) hS' ?_
          replace hM : Mem w (W24.setRow g3 (nums .u8 t25).toArray) [⟨.pointer (some ⟨g3, 0, none⟩), 69, 0, nums .u8 t25⟩] := Mem.setAll [] [] (hM.pick [0] rfl rfl)
          generalize W24.setRow g3 (nums .u8 t25).toArray = W26 at hM hS' ⊢
          replace hS := hS'
          refine RunAny.rebase hS ?_
          replace hS := Still.refl W26 [.pointer (some ⟨g3, 0, none⟩)]
          refine RunAny.done (by kernel_rfl) ?_
          clear hS
          refine RunF.go 7 [1, 5, 35] (k' := (pl Go.Proofs.Try.f17 [1, 1, 1, 1, 0, 1])) (L' := [(1, .slice Ap1 a1.length cp1), (5, .pointer (some ⟨g3, 0, none⟩)), (35, .bool (decide ((a1.length : Int) < 2)))]) (w' := W26) (by kernel_rfl) ?_
          rcases two (decide ((a1.length : Int) < 2)) with c27 | c27
          · replace h := of_true h c27
            refine RunF.know 35 (b := true) (by kernel_rfl) c27 ?_
            refine RunF.go 5 [4] (k' := (pl Go.Proofs.Try.f17 [1, 1, 1, 1, 0, 1, 0, 1])) (L' := [(4, .int .u32 0)]) (w' := W26) (by kernel_rfl) ?_
            obtain rfl := Option.some.inj h
            exact RunF.ret1 4 (.int .u32 0) (fn := Go.Proofs.Try.f17) Go.Proofs.Try.func17 (by kernel_rfl) (by kernel_rfl) (by kernel_rfl) ⟨_, rfl, rfl, (hM.pick [] rfl rfl)⟩
          · replace h := of_false h c27
            refine RunF.know 35 (b := false) (by kernel_rfl) c27 ?_
            refine RunF.go 3 [1, 5] (k' := (pl Go.Proofs.Try.f17 [1, 1, 1, 1, 1, 0])) (L' := [(1, .slice Ap1 a1.length cp1), (5, .pointer (some ⟨g3, 0, none⟩))]) (w' := W26) (by kernel_rfl) ?_
            refine RunF.draw (Still ({ W26 with drawn := W26.drawn + 1 } : World) [.pointer (some ⟨g3, 0, none⟩)]) (by kernel_rfl) (by kernel_rfl) ?_
            have hMd29 := hM.drew
            have hS := Still.refl ({ W26 with drawn := W26.drawn + 1 } : World) [.pointer (some ⟨g3, 0, none⟩)]
            generalize ({ W26 with drawn := W26.drawn + 1 } : World) = W28 at hMd29 hS ⊢
            replace hM := hMd29
            refine RunAny.y 1 (by kernel_rfl) (yl_pure (d := some 37) (v := .agg (nums .i64 ([0, 1, 0, 1] : List Int)).toArray) (k2 := [.inRegion (opsOf (pl Go.Proofs.Try.f17 [1, 1, 1, 1, 1, 0])) []]) fun w => by kernel_rfl) (fun _ _ => trivial) hS ?_
            refine RunAny.y 3 (by kernel_rfl) (yl_pure (d := some 39) (v := .slice Ap1 a1.length cp1) (k2 := [.inRegion (opsOf (pl Go.Proofs.Try.f17 [1, 1, 1, 1, 1, 0])) []]) fun w => by kernel_rfl) (fun _ _ => trivial) hS ?_
            rcases two (decide (1 < (a1.length : Int))) with c31 | c31
            · replace h := of_true h c31
              obtain ⟨q30, hAq30, hiq30⟩ := Rd.num hr1 (i := 1) (by omega) (by have h_ := of_decide_eq_true c31; omega)
              have hcq30 := (hM.below.cell (World.block_lt_of_cell? _ _ hiq30)).trans hiq30
              refine RunAny.y 4 (by kernel_rfl) (idx_y (d := some 40) (A := Ap1) (m := a1.length) (i := 1) (k2 := [.inRegion (opsOf (pl Go.Proofs.Try.f17 [1, 1, 1, 1, 1, 0])) []]) (by kernel_rfl) (by omega) (by have h_ := of_decide_eq_true c31; omega) hAq30) (fun _ _ => trivial) hS ?_
              refine RunAny.y 5 (by kernel_rfl) (ld_y (d := some 41) (p := (q30.add (1 : Int).toNat)) (k2 := [.inRegion (opsOf (pl Go.Proofs.Try.f17 [1, 1, 1, 1, 1, 0])) []]) (.int .u32 (rd a1 1)) (by kernel_rfl)) (fun _ hs => hs.cell hcq30 (by intro v hv; simp only [List.mem_cons, List.not_mem_nil, or_false] at hv; rcases hv with rfl; exact (hM.far hiq30 0 rfl))) hS ?_
              refine RunAny.does 0 (by kernel_rfl) ((ldv_y (d := some 36) (g := g3) (N := 4) (ty := 69) (k2 := [.inRegion (opsOf (pl Go.Proofs.Try.f17 [1, 1, 1, 1, 1, 0])) []]) (nums .u8 t25) (by kernel_rfl) (by simp only [nums_length, bools_length, strs_length]; exact hNt25_0)).does (hM.block 0 rfl)) hS ?_
              obtain ⟨t33, ht33, h⟩ := Option.bind_eq_some_iff.mp h
              refine RunAny.call 2 (d := some 38) (g := 40) (args := #[.agg (nums .u8 t25).toArray, .agg (nums .i64 ([0, 1, 0, 1] : List Int)).toArray]) (by kernel_rfl) (by kernel_rfl) (scrimref9_stage.calls k t25 ([0, 1, 0, 1] : List Int) t33 _ hNt25_0 rfl ht33) (by rintro _ _ ⟨rfl, _, hM_⟩; exact hS.below hM_.below) ?_
              rintro _ W32 ⟨rfl, hNt33_0, hM_⟩
              replace hS := hS.below hM_.below
              replace hM := hM.call hM_
              clear hM_ ht33
              refine RunAny.rebase hS ?_
              replace hS := Still.refl W32 [.pointer (some ⟨g3, 0, none⟩)]
              obtain ⟨t35, ht35, h⟩ := Option.bind_eq_some_iff.mp h
              refine RunAny.call 6 (d := some 42) (g := 39) (args := #[.agg (nums .u8 t33).toArray, .int .u32 (rd a1 1)]) (by kernel_rfl) (by kernel_rfl) (scrimref9_laid.calls k t33 (rd a1 1) t35 _ hNt33_0 ht35) (by rintro _ _ ⟨rfl, _, hM_⟩; exact hS.below hM_.below) ?_
              rintro _ W34 ⟨rfl, hNt35_0, hM_⟩
              replace hS := hS.below hM_.below
              replace hM := hM.call hM_
              clear hM_ ht35
              refine RunAny.rebase hS ?_
              replace hS := Still.refl W34 [.pointer (some ⟨g3, 0, none⟩)]
              have hS' := hS.setRow (v := .pointer (some ⟨g3, 0, none⟩)) (g := g3) (by simp) rfl (nums .u8 t35).toArray
              refine RunAny.doesU 7 (by kernel_rfl) (stv_u (N := 4) (cells := (nums .u8 t35).toArray) (old := (nums .u8 t25).toArray) (ty := 69) (k2 := [.inRegion (opsOf (pl Go.Proofs.Try.f17 [1, 1, 1, 1, 1, 0])) []]) (by kernel_rfl) (by rw [List.size_toArray]; simp only [nums_length, bools_length, strs_length]; exact hNt35_0) (hM.block 0 rfl) (by rw [List.size_toArray]; simp only [nums_length, bools_length, strs_length]; exact hNt25_0) (all_nums _ _)) hS' ?_
              replace hM : Mem w (W34.setRow g3 (nums .u8 t35).toArray) [⟨.pointer (some ⟨g3, 0, none⟩), 69, 0, nums .u8 t35⟩] := Mem.setAll [] [] (hM.pick [0] rfl rfl)
              generalize W34.setRow g3 (nums .u8 t35).toArray = W36 at hM hS' ⊢
              replace hS := hS'
              refine RunAny.rebase hS ?_
              replace hS := Still.refl W36 [.pointer (some ⟨g3, 0, none⟩)]
              refine RunAny.done (by kernel_rfl) ?_
              clear hS
              refine RunF.go 1 [1, 5] (k' := (pl Go.Proofs.Try.f17 [1, 1, 1, 1, 1, 1, 0])) (L' := [(1, .slice Ap1 a1.length cp1), (5, .pointer (some ⟨g3, 0, none⟩))]) (w' := W36) (by kernel_rfl) ?_
              refine RunF.draw (Still ({ W36 with drawn := W36.drawn + 1 } : World) [.pointer (some ⟨g3, 0, none⟩)]) (by kernel_rfl) (by kernel_rfl) ?_
              have hMd38 := hM.drew
              have hS := Still.refl ({ W36 with drawn := W36.drawn + 1 } : World) [.pointer (some ⟨g3, 0, none⟩)]
              generalize ({ W36 with drawn := W36.drawn + 1 } : World) = W37 at hMd38 hS ⊢
              replace hM := hMd38
              refine RunAny.y 1 (by kernel_rfl) (yl_pure (d := some 44) (v := .agg (nums .i64 ([0, 0, 1, 1] : List Int)).toArray) (k2 := [.inRegion (opsOf (pl Go.Proofs.Try.f17 [1, 1, 1, 1, 1, 1, 0])) []]) fun w => by kernel_rfl) (fun _ _ => trivial) hS ?_
              refine RunAny.y 3 (by kernel_rfl) (yl_pure (d := some 46) (v := .slice Ap1 a1.length cp1) (k2 := [.inRegion (opsOf (pl Go.Proofs.Try.f17 [1, 1, 1, 1, 1, 1, 0])) []]) fun w => by kernel_rfl) (fun _ _ => trivial) hS ?_
              rcases two (decide (0 < (a1.length : Int))) with c40 | c40
              · replace h := of_true h c40
                obtain ⟨q39, hAq39, hiq39⟩ := Rd.num hr1 (i := 0) (by omega) (by have h_ := of_decide_eq_true c40; omega)
                have hcq39 := (hM.below.cell (World.block_lt_of_cell? _ _ hiq39)).trans hiq39
                refine RunAny.y 4 (by kernel_rfl) (idx_y (d := some 47) (A := Ap1) (m := a1.length) (i := 0) (k2 := [.inRegion (opsOf (pl Go.Proofs.Try.f17 [1, 1, 1, 1, 1, 1, 0])) []]) (by kernel_rfl) (by omega) (by have h_ := of_decide_eq_true c40; omega) hAq39) (fun _ _ => trivial) hS ?_
                refine RunAny.y 5 (by kernel_rfl) (ld_y (d := some 48) (p := (q39.add (0 : Int).toNat)) (k2 := [.inRegion (opsOf (pl Go.Proofs.Try.f17 [1, 1, 1, 1, 1, 1, 0])) []]) (.int .u32 (rd a1 0)) (by kernel_rfl)) (fun _ hs => hs.cell hcq39 (by intro v hv; simp only [List.mem_cons, List.not_mem_nil, or_false] at hv; rcases hv with rfl; exact (hM.far hiq39 0 rfl))) hS ?_
                refine RunAny.does 0 (by kernel_rfl) ((ldv_y (d := some 43) (g := g3) (N := 4) (ty := 69) (k2 := [.inRegion (opsOf (pl Go.Proofs.Try.f17 [1, 1, 1, 1, 1, 1, 0])) []]) (nums .u8 t35) (by kernel_rfl) (by simp only [nums_length, bools_length, strs_length]; exact hNt35_0)).does (hM.block 0 rfl)) hS ?_
                obtain ⟨t42, ht42, h⟩ := Option.bind_eq_some_iff.mp h
                refine RunAny.call 2 (d := some 45) (g := 40) (args := #[.agg (nums .u8 t35).toArray, .agg (nums .i64 ([0, 0, 1, 1] : List Int)).toArray]) (by kernel_rfl) (by kernel_rfl) (scrimref9_stage.calls k t35 ([0, 0, 1, 1] : List Int) t42 _ hNt35_0 rfl ht42) (by rintro _ _ ⟨rfl, _, hM_⟩; exact hS.below hM_.below) ?_
                rintro _ W41 ⟨rfl, hNt42_0, hM_⟩
                replace hS := hS.below hM_.below
                replace hM := hM.call hM_
                clear hM_ ht42
                refine RunAny.rebase hS ?_
                replace hS := Still.refl W41 [.pointer (some ⟨g3, 0, none⟩)]
                obtain ⟨t44, ht44, h⟩ := Option.bind_eq_some_iff.mp h
                refine RunAny.call 6 (d := some 49) (g := 39) (args := #[.agg (nums .u8 t42).toArray, .int .u32 (rd a1 0)]) (by kernel_rfl) (by kernel_rfl) (scrimref9_laid.calls k t42 (rd a1 0) t44 _ hNt42_0 ht44) (by rintro _ _ ⟨rfl, _, hM_⟩; exact hS.below hM_.below) ?_
                rintro _ W43 ⟨rfl, hNt44_0, hM_⟩
                replace hS := hS.below hM_.below
                replace hM := hM.call hM_
                clear hM_ ht44
                refine RunAny.rebase hS ?_
                replace hS := Still.refl W43 [.pointer (some ⟨g3, 0, none⟩)]
                have hS' := hS.setRow (v := .pointer (some ⟨g3, 0, none⟩)) (g := g3) (by simp) rfl (nums .u8 t44).toArray
                refine RunAny.doesU 7 (by kernel_rfl) (stv_u (N := 4) (cells := (nums .u8 t44).toArray) (old := (nums .u8 t35).toArray) (ty := 69) (k2 := [.inRegion (opsOf (pl Go.Proofs.Try.f17 [1, 1, 1, 1, 1, 1, 0])) []]) (by kernel_rfl) (by rw [List.size_toArray]; simp only [nums_length, bools_length, strs_length]; exact hNt44_0) (hM.block 0 rfl) (by rw [List.size_toArray]; simp only [nums_length, bools_length, strs_length]; exact hNt35_0) (all_nums _ _)) hS' ?_
                replace hM : Mem w (W43.setRow g3 (nums .u8 t44).toArray) [⟨.pointer (some ⟨g3, 0, none⟩), 69, 0, nums .u8 t44⟩] := Mem.setAll [] [] (hM.pick [0] rfl rfl)
                generalize W43.setRow g3 (nums .u8 t44).toArray = W45 at hM hS' ⊢
                replace hS := hS'
                refine RunAny.rebase hS ?_
                replace hS := Still.refl W45 [.pointer (some ⟨g3, 0, none⟩)]
                refine RunAny.done (by kernel_rfl) ?_
                clear hS
                refine RunF.go 2 [5] (k' := (pin Go.Proofs.Try.f17 [1, 1, 1, 1, 1, 1, 1, 0] 0)) (L' := [(5, .pointer (some ⟨g3, 0, none⟩))]) (w' := W45) (by kernel_rfl) ?_
                refine RunF.y (ldv_y (d := some 50) (g := g3) (N := 4) (ty := 69) (k2 := (pin Go.Proofs.Try.f17 [1, 1, 1, 1, 1, 1, 1, 0] 1)) (nums .u8 t44) (by kernel_rfl) (by simp only [nums_length, bools_length, strs_length]; exact hNt44_0)) (hM.block 0 rfl) ?_
                refine RunF.go 1 [5, 50, 51] (k' := (pin Go.Proofs.Try.f17 [1, 1, 1, 1, 1, 1, 1, 0] 2)) (L' := [(5, .pointer (some ⟨g3, 0, none⟩)), (50, .agg (nums .u8 t44).toArray), (51, .agg (nums .i64 ([1, 0, 1, 0] : List Int)).toArray)]) (w' := W45) (by kernel_rfl) ?_
                obtain ⟨t47, ht47, h⟩ := Option.bind_eq_some_iff.mp h
                refine RunF.call (d := some 52) (g := 40) (args := #[.agg (nums .u8 t44).toArray, .agg (nums .i64 ([1, 0, 1, 0] : List Int)).toArray]) (k2 := (pin Go.Proofs.Try.f17 [1, 1, 1, 1, 1, 1, 1, 0] 3)) (by kernel_rfl) (scrimref9_stage.calls k t44 ([1, 0, 1, 0] : List Int) t47 _ hNt44_0 rfl ht47) ?_
                rintro _ W46 ⟨rfl, hNt47_0, hM_⟩
                replace hM := hM.call hM_
                clear hM_ ht47
                refine RunF.doesU (stv_u (N := 4) (cells := (nums .u8 t47).toArray) (old := (nums .u8 t44).toArray) (ty := 69) (k2 := (pin Go.Proofs.Try.f17 [1, 1, 1, 1, 1, 1, 1, 0] 4)) (by kernel_rfl) (by rw [List.size_toArray]; simp only [nums_length, bools_length, strs_length]; exact hNt47_0) (hM.block 0 rfl) (by rw [List.size_toArray]; simp only [nums_length, bools_length, strs_length]; exact hNt44_0) (all_nums _ _)) ?_
                replace hM : Mem w (W46.setRow g3 (nums .u8 t47).toArray) [⟨.pointer (some ⟨g3, 0, none⟩), 69, 0, nums .u8 t47⟩] := Mem.setAll [] [] (hM.pick [0] rfl rfl)
                generalize W46.setRow g3 (nums .u8 t47).toArray = W48 at hM ⊢
                refine RunF.go 8 [5, 57] (k' := (pin Go.Proofs.Try.f17 [1, 1, 1, 1, 1, 1, 1, 1, 0] 5)) (L' := [(5, .pointer (some ⟨g3, 0, none⟩)), (57, .agg (nums .u8 ([1, 239, 91, 91, 91, 239, 239, 1, 239, 91, 1, 239, 239, 1, 239, 91] : List Int)).toArray)]) (w' := W48) (by kernel_rfl) ?_
                refine RunF.newVar 76 (nums .u8 (List.replicate 16 (0 : Int))) (d := some 6) (k2 := (pin Go.Proofs.Try.f17 [1, 1, 1, 1, 1, 1, 1, 1, 0] 6)) hM (by kernel_rfl) ?_
                intro g49 W50 hM
                refine RunF.doesU (stv_u (N := 16) (cells := (nums .u8 ([1, 239, 91, 91, 91, 239, 239, 1, 239, 91, 1, 239, 239, 1, 239, 91] : List Int)).toArray) (old := (nums .u8 (List.replicate 16 (0 : Int))).toArray) (ty := 76) (k2 := (pin Go.Proofs.Try.f17 [1, 1, 1, 1, 1, 1, 1, 1, 0] 7)) (by kernel_rfl) (by rw [List.size_toArray]; simp only [nums_length, bools_length, strs_length]; exact rfl) (hM.block 0 rfl) (by rw [List.size_toArray]; simp only [nums_length, bools_length, strs_length]; exact List.length_replicate) (all_nums _ _)) ?_
                replace hM : Mem w (W50.setRow g49 (nums .u8 ([1, 239, 91, 91, 91, 239, 239, 1, 239, 91, 1, 239, 239, 1, 239, 91] : List Int)).toArray) [⟨.pointer (some ⟨g49, 0, none⟩), 76, 0, nums .u8 ([1, 239, 91, 91, 91, 239, 239, 1, 239, 91, 1, 239, 239, 1, 239, 91] : List Int)⟩, ⟨.pointer (some ⟨g3, 0, none⟩), 69, 0, nums .u8 t47⟩] := Mem.setAll [] [⟨.pointer (some ⟨g3, 0, none⟩), 69, 0, nums .u8 t47⟩] (hM.pick [0, 1] rfl rfl)
                generalize W50.setRow g49 (nums .u8 ([1, 239, 91, 91, 91, 239, 239, 1, 239, 91, 1, 239, 239, 1, 239, 91] : List Int)).toArray = W52 at hM ⊢
                refine RunF.go 12 [5, 6, 7, 8] (k' := (pl Go.Proofs.Try.f17 [1, 1, 1, 1, 1, 1, 1, 1, 1, 1, 0, 1, 0, 0])) (L' := [(5, .pointer (some ⟨g3, 0, none⟩)), (6, .pointer (some ⟨g49, 0, none⟩)), (7, .int .u32 0), (8, .int .i64 0)]) (w' := W52) (by kernel_rfl) ?_
                have l0 : ∀ (k_ : Nat), k_ ≤ k → ∀ (x7_0 : Int) (x8_0 : Int) (W : World) (hM : Mem w W [⟨.pointer (some ⟨g3, 0, none⟩), 69, 0, nums .u8 t47⟩, ⟨.pointer (some ⟨g49, 0, none⟩), 76, 0, nums .u8 ([1, 239, 91, 91, 91, 239, 239, 1, 239, 91, 1, 239, 239, 1, 239, 91] : List Int)⟩]) (h : scrimref9_H.l0 k_ t47 x7_0 x8_0 = some r), RunF Go.Proofs.Try.prog (Ret fun v w' => v = .int .u32 r ∧ Mem w w' []) 17 (pl Go.Proofs.Try.f17 [1, 1, 1, 1, 1, 1, 1, 1, 1, 1, 0, 1, 0, 0]) 83 [(5, .pointer (some ⟨g3, 0, none⟩)), (6, .pointer (some ⟨g49, 0, none⟩)), (7, .int .u32 x7_0), (8, .int .i64 x8_0)] W := by
                  intro k_
                  induction k_ using Nat.strongRecOn with
                  | _ k_ ih0 =>
                    intro hk x7_0 x8_0 W hM h
                    cases k_ with
                    | zero => exact absurd h (by simp [scrimref9_H.l0])
                    | succ k =>
                      simp only [scrimref9_H.l0] at h
                      replace ih0 : ∀ m, m ≤ k → _ := fun m hm => ih0 m (by omega) (by omega)
                      refine RunF.go 6 [5, 6, 7, 8, 59] (k' := (pl Go.Proofs.Try.f17 [1, 1, 1, 1, 1, 1, 1, 1, 1, 1, 0, 1, 0, 0, 0, 1])) (L' := [(5, .pointer (some ⟨g3, 0, none⟩)), (6, .pointer (some ⟨g49, 0, none⟩)), (7, .int .u32 x7_0), (8, .int .i64 x8_0), (59, .bool (decide (x8_0 < 4)))]) (w' := W) (by kernel_rfl) ?_
                      rcases two (decide (x8_0 < 4)) with c53 | c53
                      · replace h := of_true h c53
                        refine RunF.know 59 (b := true) (by kernel_rfl) c53 ?_
                        refine RunF.go 10 [5, 6, 7, 8, 9] (k' := (pl Go.Proofs.Try.f17 [1, 1, 1, 1, 1, 1, 1, 1, 1, 1, 0, 1, 0, 0, 1, 0, 0, 1, 0, 0])) (L' := [(5, .pointer (some ⟨g3, 0, none⟩)), (6, .pointer (some ⟨g49, 0, none⟩)), (7, .int .u32 x7_0), (8, .int .i64 x8_0), (9, .int .i64 0)]) (w' := W) (by kernel_rfl) ?_
                        have l1 : ∀ (k_ : Nat), k_ ≤ k → ∀ (x7_1 : Int) (x9_1 : Int) (W : World) (hM : Mem w W [⟨.pointer (some ⟨g3, 0, none⟩), 69, 0, nums .u8 t47⟩, ⟨.pointer (some ⟨g49, 0, none⟩), 76, 0, nums .u8 ([1, 239, 91, 91, 91, 239, 239, 1, 239, 91, 1, 239, 239, 1, 239, 91] : List Int)⟩]) (h : scrimref9_H.l1 k_ t47 x8_0 x7_1 x9_1 = some r), RunF Go.Proofs.Try.prog (Ret fun v w' => v = .int .u32 r ∧ Mem w w' []) 17 (pl Go.Proofs.Try.f17 [1, 1, 1, 1, 1, 1, 1, 1, 1, 1, 0, 1, 0, 0, 1, 0, 0, 1, 0, 0]) 83 [(5, .pointer (some ⟨g3, 0, none⟩)), (6, .pointer (some ⟨g49, 0, none⟩)), (7, .int .u32 x7_1), (8, .int .i64 x8_0), (9, .int .i64 x9_1)] W := by
                          intro k_
                          induction k_ using Nat.strongRecOn with
                          | _ k_ ih1 =>
                            intro hk x7_1 x9_1 W hM h
                            cases k_ with
                            | zero => exact absurd h (by simp [scrimref9_H.l1])
                            | succ k =>
                              simp only [scrimref9_H.l1] at h
                              replace ih1 : ∀ m, m ≤ k → _ := fun m hm => ih1 m (by omega) (by omega)
                              replace ih0 : ∀ m, m ≤ k → _ := fun m hm => ih0 m (by omega)
                              refine RunF.go 6 [5, 6, 7, 8, 9, 63] (k' := (pl Go.Proofs.Try.f17 [1, 1, 1, 1, 1, 1, 1, 1, 1, 1, 0, 1, 0, 0, 1, 0, 0, 1, 0, 0, 0, 1])) (L' := [(5, .pointer (some ⟨g3, 0, none⟩)), (6, .pointer (some ⟨g49, 0, none⟩)), (7, .int .u32 x7_1), (8, .int .i64 x8_0), (9, .int .i64 x9_1), (63, .bool (decide (x9_1 < 4)))]) (w' := W) (by kernel_rfl) ?_
                              rcases two (decide (x9_1 < 4)) with c54 | c54
                              · replace h := of_true h c54
                                refine RunF.know 63 (b := true) (by kernel_rfl) c54 ?_
                                refine RunF.go 4 [5, 6, 7, 8, 9] (k' := (pl Go.Proofs.Try.f17 [1, 1, 1, 1, 1, 1, 1, 1, 1, 1, 0, 1, 0, 0, 1, 0, 0, 1, 0, 0, 1, 0, 0])) (L' := [(5, .pointer (some ⟨g3, 0, none⟩)), (6, .pointer (some ⟨g49, 0, none⟩)), (7, .int .u32 x7_1), (8, .int .i64 x8_0), (9, .int .i64 x9_1)]) (w' := W) (by kernel_rfl) ?_
                                refine RunF.draw (Still ({ W with drawn := W.drawn + 1 } : World) []) (by kernel_rfl) (by kernel_rfl) ?_
                                have hMd56 := hM.drew
                                have hS := Still.refl ({ W with drawn := W.drawn + 1 } : World) []
                                generalize ({ W with drawn := W.drawn + 1 } : World) = W55 at hMd56 hS ⊢
                                replace hM := hMd56
                                refine RunAny.y 0 (by kernel_rfl) (yl_pure (d := some 66) (v := .int .u32 x7_1) (k2 := [.inRegion (opsOf (pl Go.Proofs.Try.f17 [1, 1, 1, 1, 1, 1, 1, 1, 1, 1, 0, 1, 0, 0, 1, 0, 0, 1, 0, 0, 1, 0, 0])) []]) fun w => by kernel_rfl) (fun _ _ => trivial) hS ?_
                                refine RunAny.y 1 (by kernel_rfl) (yl_pure (d := some 67) (v := .int .i64 x8_0) (k2 := [.inRegion (opsOf (pl Go.Proofs.Try.f17 [1, 1, 1, 1, 1, 1, 1, 1, 1, 1, 0, 1, 0, 0, 1, 0, 0, 1, 0, 0, 1, 0, 0])) []]) fun w => by kernel_rfl) (fun _ _ => trivial) hS ?_
                                refine RunAny.y 2 (by kernel_rfl) (yl_pure (d := some 68) (v := .int .i64 x9_1) (k2 := [.inRegion (opsOf (pl Go.Proofs.Try.f17 [1, 1, 1, 1, 1, 1, 1, 1, 1, 1, 0, 1, 0, 0, 1, 0, 0, 1, 0, 0, 1, 0, 0])) []]) fun w => by kernel_rfl) (fun _ _ => trivial) hS ?_
                                rcases two (decide (0 ≤ x8_0)) with c58 | c58
                                · replace h := of_true h c58
                                  rcases two (decide (x8_0 < (4 : Int))) with c59 | c59
                                  · replace h := of_true h c59
                                    have hbq60 : 0 ≤ (x8_0 * (4 : Int)) ∧ (x8_0 * (4 : Int)) + 4 ≤ 16 := by have h1_ : 0 ≤ x8_0 := (of_decide_eq_true c58); have h2_ : x8_0 < (4 : Int) := (of_decide_eq_true c59); omega
                                    refine RunAny.y 3 (by kernel_rfl) (idxArr_row (d := some 69) (g := g49) (len := 4) (sz := 4) (i := x8_0) (k2 := [.inRegion (opsOf (pl Go.Proofs.Try.f17 [1, 1, 1, 1, 1, 1, 1, 1, 1, 1, 0, 1, 0, 0, 1, 0, 0, 1, 0, 0, 1, 0, 0])) []]) (by kernel_rfl) (of_decide_eq_true c58) (of_decide_eq_true c59)) (fun _ _ => trivial) hS ?_
                                    rcases two (decide (0 ≤ x9_1)) with c62 | c62
                                    · replace h := of_true h c62
                                      rcases two (decide (x9_1 < (4 : Int))) with c63 | c63
                                      · replace h := of_true h c63
                                        have hiq61 : 0 ≤ (x8_0 * (4 : Int)) + x9_1 ∧ (x8_0 * (4 : Int)) + x9_1 < 16 := by have h1_ : 0 ≤ x9_1 := (of_decide_eq_true c62); have h2_ : x9_1 < (4 : Int) := (of_decide_eq_true c63); omega
                                        obtain ⟨hcq61, hfq61, hlq61⟩ := hM.arr_num 1 rfl (i := (x8_0 * (4 : Int)) + x9_1) hiq61.1 (N := 16) rfl hiq61.2
                                        refine RunAny.y 4 (by kernel_rfl) (idxArr_in (d := some 70) (g := g49) (len := 4) (e := (x8_0 * (4 : Int))) (i := x9_1) (k2 := [.inRegion (opsOf (pl Go.Proofs.Try.f17 [1, 1, 1, 1, 1, 1, 1, 1, 1, 1, 0, 1, 0, 0, 1, 0, 0, 1, 0, 0, 1, 0, 0])) []]) (by kernel_rfl) hbq60.1 (of_decide_eq_true c62) (of_decide_eq_true c63)) (fun _ _ => trivial) hS ?_
                                        refine RunAny.y 5 (by kernel_rfl) (ld_y (d := some 71) (p := ⟨g49, ((x8_0 * (4 : Int)) + x9_1).toNat, none⟩) (k2 := [.inRegion (opsOf (pl Go.Proofs.Try.f17 [1, 1, 1, 1, 1, 1, 1, 1, 1, 1, 0, 1, 0, 0, 1, 0, 0, 1, 0, 0, 1, 0, 0])) []]) (.int .u8 (rd ([1, 239, 91, 91, 91, 239, 239, 1, 239, 91, 1, 239, 239, 1, 239, 91] : List Int) ((x8_0 * (4 : Int)) + x9_1))) (by kernel_rfl)) (fun _ hs => hs.cell hcq61 (by simp)) hS ?_
                                        refine RunAny.y 6 (by kernel_rfl) (yl_pure (d := some 72) (v := .int .i64 x9_1) (k2 := [.inRegion (opsOf (pl Go.Proofs.Try.f17 [1, 1, 1, 1, 1, 1, 1, 1, 1, 1, 0, 1, 0, 0, 1, 0, 0, 1, 0, 0, 1, 0, 0])) []]) fun w => by kernel_rfl) (fun _ _ => trivial) hS ?_
                                        rcases two (decide (0 ≤ x9_1)) with c65 | c65
                                        · replace h := of_true h c65
                                          rcases two (decide (x9_1 < (4 : Int))) with c66 | c66
                                          · replace h := of_true h c66
                                            obtain ⟨hcq64, hfq64, hlq64⟩ := hM.arr_num 0 rfl (i := x9_1) (of_decide_eq_true c65) (N := 4) hNt47_0 (of_decide_eq_true c66)
                                            refine RunAny.y 7 (by kernel_rfl) (idxArr_own (d := some 73) (g := g3) (len := 4) (i := x9_1) (k2 := [.inRegion (opsOf (pl Go.Proofs.Try.f17 [1, 1, 1, 1, 1, 1, 1, 1, 1, 1, 0, 1, 0, 0, 1, 0, 0, 1, 0, 0, 1, 0, 0])) []]) (by kernel_rfl) (of_decide_eq_true c65) (of_decide_eq_true c66)) (fun _ _ => trivial) hS ?_
                                            refine RunAny.y 8 (by kernel_rfl) (ld_y (d := some 74) (p := ⟨g3, (x9_1 : Int).toNat, none⟩) (k2 := [.inRegion (opsOf (pl Go.Proofs.Try.f17 [1, 1, 1, 1, 1, 1, 1, 1, 1, 1, 0, 1, 0, 0, 1, 0, 0, 1, 0, 0, 1, 0, 0])) []]) (.int .u8 (rd t47 x9_1)) (by kernel_rfl)) (fun _ hs => hs.cell hcq64 (by simp)) hS ?_
                                            refine RunAny.y 11 (by kernel_rfl) (yl_pure (d := some 77) (v := .int .i64 x8_0) (k2 := [.inRegion (opsOf (pl Go.Proofs.Try.f17 [1, 1, 1, 1, 1, 1, 1, 1, 1, 1, 0, 1, 0, 0, 1, 0, 0, 1, 0, 0, 1, 0, 0])) []]) fun w => by kernel_rfl) (fun _ _ => trivial) hS ?_
                                            refine RunAny.y 12 (by kernel_rfl) (yl_pure (d := some 78) (v := .int .i64 (I64 (8 * x8_0))) (k2 := [.inRegion (opsOf (pl Go.Proofs.Try.f17 [1, 1, 1, 1, 1, 1, 1, 1, 1, 1, 0, 1, 0, 0, 1, 0, 0, 1, 0, 0, 1, 0, 0])) []]) fun w => by kernel_rfl) (fun _ _ => trivial) hS ?_
                                            refine RunAny.y 13 (by kernel_rfl) (yl_pure (d := some 79) (v := .int .u64 (U64 (I64 (8 * x8_0)))) (k2 := [.inRegion (opsOf (pl Go.Proofs.Try.f17 [1, 1, 1, 1, 1, 1, 1, 1, 1, 1, 0, 1, 0, 0, 1, 0, 0, 1, 0, 0, 1, 0, 0])) []]) fun w => by kernel_rfl) (fun _ _ => trivial) hS ?_
                                            obtain ⟨t68, ht68, h⟩ := Option.bind_eq_some_iff.mp h
                                            refine RunAny.call 9 (d := some 75) (g := 41) (args := #[.int .u8 (rd ([1, 239, 91, 91, 91, 239, 239, 1, 239, 91, 1, 239, 239, 1, 239, 91] : List Int) ((x8_0 * (4 : Int)) + x9_1)), .int .u8 (rd t47 x9_1), .int .i64 361]) (by kernel_rfl) (by kernel_rfl) (scrimref3_Mul.calls k (rd ([1, 239, 91, 91, 91, 239, 239, 1, 239, 91, 1, 239, 239, 1, 239, 91] : List Int) ((x8_0 * (4 : Int)) + x9_1)) (rd t47 x9_1) 361 t68 _ ht68) (by rintro _ _ ⟨rfl, hM_⟩; exact hS.below hM_.below) ?_
                                            rintro _ W67 ⟨rfl, hM_⟩
                                            replace hS := hS.below hM_.below
                                            replace hM := hM.call hM_
                                            clear hM_ ht68
                                            refine RunAny.rebase hS ?_
                                            replace hS := Still.refl W67 []
                                            refine RunAny.y 10 (by kernel_rfl) (yl_pure (d := some 76) (v := .int .u32 (U32 (t68))) (k2 := [.inRegion (opsOf (pl Go.Proofs.Try.f17 [1, 1, 1, 1, 1, 1, 1, 1, 1, 1, 0, 1, 0, 0, 1, 0, 0, 1, 0, 0, 1, 0, 0])) []]) fun w => by kernel_rfl) (fun _ _ => trivial) hS ?_
                                            rcases two (decide (0 ≤ (U64 (I64 (8 * x8_0))))) with c69 | c69
                                            · replace h := of_true h c69
                                              refine RunAny.y 14 (by kernel_rfl) (sh_y (d := some 80) (b := true) (kd := .u32) (x := U32 (t68)) (y := U64 (I64 (8 * x8_0))) (k2 := [.inRegion (opsOf (pl Go.Proofs.Try.f17 [1, 1, 1, 1, 1, 1, 1, 1, 1, 1, 0, 1, 0, 0, 1, 0, 0, 1, 0, 0, 1, 0, 0])) []]) (by kernel_rfl) c69) (fun _ _ => trivial) hS ?_
                                              refine RunAny.y 15 (by kernel_rfl) (yl_pure (d := some 81) (v := .int .u32 (bxor .u32 x7_1 (shlv .u32 (U32 (t68)) (U64 (I64 (8 * x8_0)))))) (k2 := [.inRegion (opsOf (pl Go.Proofs.Try.f17 [1, 1, 1, 1, 1, 1, 1, 1, 1, 1, 0, 1, 0, 0, 1, 0, 0, 1, 0, 0, 1, 0, 0])) []]) fun w => by kernel_rfl) (fun _ _ => trivial) hS ?_
                                              refine RunAny.y 16 (by kernel_rfl) (yl_pure (d := some 7) (v := .int .u32 (bxor .u32 x7_1 (shlv .u32 (U32 (t68)) (U64 (I64 (8 * x8_0)))))) (k2 := [.inRegion (opsOf (pl Go.Proofs.Try.f17 [1, 1, 1, 1, 1, 1, 1, 1, 1, 1, 0, 1, 0, 0, 1, 0, 0, 1, 0, 0, 1, 0, 0])) []]) fun w => by kernel_rfl) (fun _ _ => trivial) hS ?_
                                              refine RunAny.done (by kernel_rfl) ?_
                                              clear hS
                                              refine RunF.go 7 [5, 6, 7, 8, 9] (k' := (pl Go.Proofs.Try.f17 [1, 1, 1, 1, 1, 1, 1, 1, 1, 1, 0, 1, 0, 0, 1, 0, 0, 1, 0, 0])) (L' := [(5, .pointer (some ⟨g3, 0, none⟩)), (6, .pointer (some ⟨g49, 0, none⟩)), (7, .int .u32 (bxor .u32 x7_1 (shlv .u32 (U32 (t68)) (U64 (I64 (8 * x8_0)))))), (8, .int .i64 x8_0), (9, .int .i64 (I64 (x9_1 + 1)))]) (w' := W67) (by kernel_rfl) ?_
                                              obtain ⟨y70, hy, h⟩ := Option.bind_eq_some_iff.mp h
                                              rw [show (bxor .u32 x7_1 (shlv .u32 (U32 (t68)) (U64 (I64 (8 * x8_0))))) = y70 from Option.some.inj hy]
                                              clear hy
                                              exact ih1 k (by omega) y70 (I64 (x9_1 + 1)) _ (hM.pick [0, 1] rfl rfl) h
                                            · replace h := of_false h c69
                                              cases h
                                          · replace h := of_false h c66
                                            cases h
                                        · replace h := of_false h c65
                                          cases h
                                      · replace h := of_false h c63
                                        cases h
                                    · replace h := of_false h c62
                                      cases h
                                  · replace h := of_false h c59
                                    cases h
                                · replace h := of_false h c58
                                  cases h
                              · replace h := of_false h c54
                                refine RunF.know 63 (b := false) (by kernel_rfl) c54 ?_
                                refine RunF.go 9 [5, 6, 7, 8] (k' := (pl Go.Proofs.Try.f17 [1, 1, 1, 1, 1, 1, 1, 1, 1, 1, 0, 1, 0, 0])) (L' := [(5, .pointer (some ⟨g3, 0, none⟩)), (6, .pointer (some ⟨g49, 0, none⟩)), (7, .int .u32 x7_1), (8, .int .i64 (I64 (x8_0 + 1)))]) (w' := W) (by kernel_rfl) ?_
                                exact ih0 k (by omega) x7_1 (I64 (x8_0 + 1)) _ (hM.pick [0, 1] rfl rfl) h
                        exact l1 k (Nat.le_refl _) x7_0 0 _ (hM.pick [0, 1] rfl rfl) h
                      · replace h := of_false h c53
                        refine RunF.know 59 (b := false) (by kernel_rfl) c53 ?_
                        refine RunF.go 7 [4] (k' := (pl Go.Proofs.Try.f17 [1, 1, 1, 1, 1, 1, 1, 1, 1, 1, 1, 1])) (L' := [(4, .int .u32 x7_0)]) (w' := W) (by kernel_rfl) ?_
                        obtain rfl := Option.some.inj h
                        exact RunF.ret1 4 (.int .u32 x7_0) (fn := Go.Proofs.Try.f17) Go.Proofs.Try.func17 (by kernel_rfl) (by kernel_rfl) (by kernel_rfl) ⟨_, rfl, rfl, (hM.pick [] rfl rfl)⟩
                exact l0 k (Nat.le_refl _) 0 0 _ (hM.pick [1, 0] rfl rfl) h
              · replace h := of_false h c40
                cases h
            · replace h := of_false h c31
              cases h
        · replace h := of_false h c21
          cases h
      · replace h := of_false h c17
        refine RunF.know 25 (b := false) (by kernel_rfl) c17 ?_
        refine RunF.go 9 [1, 5, 35] (k' := (pl Go.Proofs.Try.f17 [1, 1, 1, 1, 0, 1])) (L' := [(1, .slice Ap1 a1.length cp1), (5, .pointer (some ⟨g3, 0, none⟩)), (35, .bool (decide ((a1.length : Int) < 2)))]) (w' := W16) (by kernel_rfl) ?_
        rcases two (decide ((a1.length : Int) < 2)) with c71 | c71
        · replace h := of_true h c71
          refine RunF.know 35 (b := true) (by kernel_rfl) c71 ?_
          refine RunF.go 5 [4] (k' := (pl Go.Proofs.Try.f17 [1, 1, 1, 1, 0, 1, 0, 1])) (L' := [(4, .int .u32 0)]) (w' := W16) (by kernel_rfl) ?_
          obtain rfl := Option.some.inj h
          exact RunF.ret1 4 (.int .u32 0) (fn := Go.Proofs.Try.f17) Go.Proofs.Try.func17 (by kernel_rfl) (by kernel_rfl) (by kernel_rfl) ⟨_, rfl, rfl, (hM.pick [] rfl rfl)⟩
        · replace h := of_false h c71
          refine RunF.know 35 (b := false) (by kernel_rfl) c71 ?_
          refine RunF.go 3 [1, 5] (k' := (pl Go.Proofs.Try.f17 [1, 1, 1, 1, 1, 0])) (L' := [(1, .slice Ap1 a1.length cp1), (5, .pointer (some ⟨g3, 0, none⟩))]) (w' := W16) (by kernel_rfl) ?_
          refine RunF.draw (Still ({ W16 with drawn := W16.drawn + 1 } : World) [.pointer (some ⟨g3, 0, none⟩)]) (by kernel_rfl) (by kernel_rfl) ?_
          have hMd73 := hM.drew
          have hS := Still.refl ({ W16 with drawn := W16.drawn + 1 } : World) [.pointer (some ⟨g3, 0, none⟩)]
          generalize ({ W16 with drawn := W16.drawn + 1 } : World) = W72 at hMd73 hS ⊢
          replace hM := hMd73
          refine RunAny.y 1 (by kernel_rfl) (yl_pure (d := some 37) (v := .agg (nums .i64 ([0, 1, 0, 1] : List Int)).toArray) (k2 := [.inRegion (opsOf (pl Go.Proofs.Try.f17 [1, 1, 1, 1, 1, 0])) []]) fun w => by kernel_rfl) (fun _ _ => trivial) hS ?_
          refine RunAny.y 3 (by kernel_rfl) (yl_pure (d := some 39) (v := .slice Ap1 a1.length cp1) (k2 := [.inRegion (opsOf (pl Go.Proofs.Try.f17 [1, 1, 1, 1, 1, 0])) []]) fun w => by kernel_rfl) (fun _ _ => trivial) hS ?_
          rcases two (decide (1 < (a1.length : Int))) with c75 | c75
          · replace h := of_true h c75
            obtain ⟨q74, hAq74, hiq74⟩ := Rd.num hr1 (i := 1) (by omega) (by have h_ := of_decide_eq_true c75; omega)
            have hcq74 := (hM.below.cell (World.block_lt_of_cell? _ _ hiq74)).trans hiq74
            refine RunAny.y 4 (by kernel_rfl) (idx_y (d := some 40) (A := Ap1) (m := a1.length) (i := 1) (k2 := [.inRegion (opsOf (pl Go.Proofs.Try.f17 [1, 1, 1, 1, 1, 0])) []]) (by kernel_rfl) (by omega) (by have h_ := of_decide_eq_true c75; omega) hAq74) (fun _ _ => trivial) hS ?_
            refine RunAny.y 5 (by kernel_rfl) (ld_y (d := some 41) (p := (q74.add (1 : Int).toNat)) (k2 := [.inRegion (opsOf (pl Go.Proofs.Try.f17 [1, 1, 1, 1, 1, 0])) []]) (.int .u32 (rd a1 1)) (by kernel_rfl)) (fun _ hs => hs.cell hcq74 (by intro v hv; simp only [List.mem_cons, List.not_mem_nil, or_false] at hv; rcases hv with rfl; exact (hM.far hiq74 0 rfl))) hS ?_
            refine RunAny.does 0 (by kernel_rfl) ((ldv_y (d := some 36) (g := g3) (N := 4) (ty := 69) (k2 := [.inRegion (opsOf (pl Go.Proofs.Try.f17 [1, 1, 1, 1, 1, 0])) []]) (nums .u8 t15) (by kernel_rfl) (by simp only [nums_length, bools_length, strs_length]; exact hNt15_0)).does (hM.block 0 rfl)) hS ?_
            obtain ⟨t77, ht77, h⟩ := Option.bind_eq_some_iff.mp h
            refine RunAny.call 2 (d := some 38) (g := 40) (args := #[.agg (nums .u8 t15).toArray, .agg (nums .i64 ([0, 1, 0, 1] : List Int)).toArray]) (by kernel_rfl) (by kernel_rfl) (scrimref9_stage.calls k t15 ([0, 1, 0, 1] : List Int) t77 _ hNt15_0 rfl ht77) (by rintro _ _ ⟨rfl, _, hM_⟩; exact hS.below hM_.below) ?_
            rintro _ W76 ⟨rfl, hNt77_0, hM_⟩
            replace hS := hS.below hM_.below
            replace hM := hM.call hM_
            clear hM_ ht77
            refine RunAny.rebase hS ?_
            replace hS := Still.refl W76 [.pointer (some ⟨g3, 0, none⟩)]
            obtain ⟨t79, ht79, h⟩ := Option.bind_eq_some_iff.mp h
            refine RunAny.call 6 (d := some 42) (g := 39) (args := #[.agg (nums .u8 t77).toArray, .int .u32 (rd a1 1)]) (by kernel_rfl) (by kernel_rfl) (scrimref9_laid.calls k t77 (rd a1 1) t79 _ hNt77_0 ht79) (by rintro _ _ ⟨rfl, _, hM_⟩; exact hS.below hM_.below) ?_
            rintro _ W78 ⟨rfl, hNt79_0, hM_⟩
            replace hS := hS.below hM_.below
            replace hM := hM.call hM_
            clear hM_ ht79
            refine RunAny.rebase hS ?_
            replace hS := Still.refl W78 [.pointer (some ⟨g3, 0, none⟩)]
            have hS' := hS.setRow (v := .pointer (some ⟨g3, 0, none⟩)) (g := g3) (by simp) rfl (nums .u8 t79).toArray
            refine RunAny.doesU 7 (by kernel_rfl) (stv_u (N := 4) (cells := (nums .u8 t79).toArray) (old := (nums .u8 t15).toArray) (ty := 69) (k2 := [.inRegion (opsOf (pl Go.Proofs.Try.f17 [1, 1, 1, 1, 1, 0])) []]) (by kernel_rfl) (by rw [List.size_toArray]; simp only [nums_length, bools_length, strs_length]; exact hNt79_0) (hM.block 0 rfl) (by rw [List.size_toArray]; simp only [nums_length, bools_length, strs_length]; exact hNt15_0) (all_nums _ _)) hS' ?_
            replace hM : Mem w (W78.setRow g3 (nums .u8 t79).toArray) [⟨.pointer (some ⟨g3, 0, none⟩), 69, 0, nums .u8 t79⟩] := Mem.setAll [] [] (hM.pick [0] rfl rfl)
            generalize W78.setRow g3 (nums .u8 t79).toArray = W80 at hM hS' ⊢
            replace hS := hS'
            refine RunAny.rebase hS ?_
            replace hS := Still.refl W80 [.pointer (some ⟨g3, 0, none⟩)]
            refine RunAny.done (by kernel_rfl) ?_
            clear hS
            refine RunF.go 1 [1, 5] (k' := (pl Go.Proofs.Try.f17 [1, 1, 1, 1, 1, 1, 0])) (L' := [(1, .slice Ap1 a1.length cp1), (5, .pointer (some ⟨g3, 0, none⟩))]) (w' := W80) (by kernel_rfl) ?_
            refine RunF.draw (Still ({ W80 with drawn := W80.drawn + 1 } : World) [.pointer (some ⟨g3, 0, none⟩)]) (by kernel_rfl) (by kernel_rfl) ?_
            have hMd82 := hM.drew
            have hS := Still.refl ({ W80 with drawn := W80.drawn + 1 } : World) [.pointer (some ⟨g3, 0, none⟩)]
            generalize ({ W80 with drawn := W80.drawn + 1 } : World) = W81 at hMd82 hS ⊢
            replace hM := hMd82
            refine RunAny.y 1 (by kernel_rfl) (yl_pure (d := some 44) (v := .agg (nums .i64 ([0, 0, 1, 1] : List Int)).toArray) (k2 := [.inRegion (opsOf (pl Go.Proofs.Try.f17 [1, 1, 1, 1, 1, 1, 0])) []]) fun w => by kernel_rfl) (fun _ _ => trivial) hS ?_
            refine RunAny.y 3 (by kernel_rfl) (yl_pure (d := some 46) (v := .slice Ap1 a1.length cp1) (k2 := [.inRegion (opsOf (pl Go.Proofs.Try.f17 [1, 1, 1, 1, 1, 1, 0])) []]) fun w => by kernel_rfl) (fun _ _ => trivial) hS ?_
            rcases two (decide (0 < (a1.length : Int))) with c84 | c84
            · replace h := of_true h c84
              obtain ⟨q83, hAq83, hiq83⟩ := Rd.num hr1 (i := 0) (by omega) (by have h_ := of_decide_eq_true c84; omega)
              have hcq83 := (hM.below.cell (World.block_lt_of_cell? _ _ hiq83)).trans hiq83
              refine RunAny.y 4 (by kernel_rfl) (idx_y (d := some 47) (A := Ap1) (m := a1.length) (i := 0) (k2 := [.inRegion (opsOf (pl Go.Proofs.Try.f17 [1, 1, 1, 1, 1, 1, 0])) []]) (by kernel_rfl) (by omega) (by have h_ := of_decide_eq_true c84; omega) hAq83) (fun _ _ => trivial) hS ?_
              refine RunAny.y 5 (by kernel_rfl) (ld_y (d := some 48) (p := (q83.add (0 : Int).toNat)) (k2 := [.inRegion (opsOf (pl Go.Proofs.Try.f17 [1, 1, 1, 1, 1, 1, 0])) []]) (.int .u32 (rd a1 0)) (by kernel_rfl)) (fun _ hs => hs.cell hcq83 (by intro v hv; simp only [List.mem_cons, List.not_mem_nil, or_false] at hv; rcases hv with rfl; exact (hM.far hiq83 0 rfl))) hS ?_
              refine RunAny.does 0 (by kernel_rfl) ((ldv_y (d := some 43) (g := g3) (N := 4) (ty := 69) (k2 := [.inRegion (opsOf (pl Go.Proofs.Try.f17 [1, 1, 1, 1, 1, 1, 0])) []]) (nums .u8 t79) (by kernel_rfl) (by simp only [nums_length, bools_length, strs_length]; exact hNt79_0)).does (hM.block 0 rfl)) hS ?_
              obtain ⟨t86, ht86, h⟩ := Option.bind_eq_some_iff.mp h
              refine RunAny.call 2 (d := some 45) (g := 40) (args := #[.agg (nums .u8 t79).toArray, .agg (nums .i64 ([0, 0, 1, 1] : List Int)).toArray]) (by kernel_rfl) (by kernel_rfl) (scrimref9_stage.calls k t79 ([0, 0, 1, 1] : List Int) t86 _ hNt79_0 rfl ht86) (by rintro _ _ ⟨rfl, _, hM_⟩; exact hS.below hM_.below) ?_
              rintro _ W85 ⟨rfl, hNt86_0, hM_⟩
              replace hS := hS.below hM_.below
              replace hM := hM.call hM_
              clear hM_ ht86
              refine RunAny.rebase hS ?_
              replace hS := Still.refl W85 [.pointer (some ⟨g3, 0, none⟩)]
              obtain ⟨t88, ht88, h⟩ := Option.bind_eq_some_iff.mp h
              refine RunAny.call 6 (d := some 49) (g := 39) (args := #[.agg (nums .u8 t86).toArray, .int .u32 (rd a1 0)]) (by kernel_rfl) (by kernel_rfl) (scrimref9_laid.calls k t86 (rd a1 0) t88 _ hNt86_0 ht88) (by rintro _ _ ⟨rfl, _, hM_⟩; exact hS.below hM_.below) ?_
              rintro _ W87 ⟨rfl, hNt88_0, hM_⟩
              replace hS := hS.below hM_.below
              replace hM := hM.call hM_
              clear hM_ ht88
              refine RunAny.rebase hS ?_
              replace hS := Still.refl W87 [.pointer (some ⟨g3, 0, none⟩)]
              have hS' := hS.setRow (v := .pointer (some ⟨g3, 0, none⟩)) (g := g3) (by simp) rfl (nums .u8 t88).toArray
              refine RunAny.doesU 7 (by kernel_rfl) (stv_u (N := 4) (cells := (nums .u8 t88).toArray) (old := (nums .u8 t79).toArray) (ty := 69) (k2 := [.inRegion (opsOf (pl Go.Proofs.Try.f17 [1, 1, 1, 1, 1, 1, 0])) []]) (by kernel_rfl) (by rw [List.size_toArray]; simp only [nums_length, bools_length, strs_length]; exact hNt88_0) (hM.block 0 rfl) (by rw [List.size_toArray]; simp only [nums_length, bools_length, strs_length]; exact hNt79_0) (all_nums _ _)) hS' ?_
              replace hM : Mem w (W87.setRow g3 (nums .u8 t88).toArray) [⟨.pointer (some ⟨g3, 0, none⟩), 69, 0, nums .u8 t88⟩] := Mem.setAll [] [] (hM.pick [0] rfl rfl)
              generalize W87.setRow g3 (nums .u8 t88).toArray = W89 at hM hS' ⊢
              replace hS := hS'
              refine RunAny.rebase hS ?_
              replace hS := Still.refl W89 [.pointer (some ⟨g3, 0, none⟩)]
              refine RunAny.done (by kernel_rfl) ?_
              clear hS
              refine RunF.go 2 [5] (k' := (pin Go.Proofs.Try.f17 [1, 1, 1, 1, 1, 1, 1, 0] 0)) (L' := [(5, .pointer (some ⟨g3, 0, none⟩))]) (w' := W89) (by kernel_rfl) ?_
              refine RunF.y (ldv_y (d := some 50) (g := g3) (N := 4) (ty := 69) (k2 := (pin Go.Proofs.Try.f17 [1, 1, 1, 1, 1, 1, 1, 0] 1)) (nums .u8 t88) (by kernel_rfl) (by simp only [nums_length, bools_length, strs_length]; exact hNt88_0)) (hM.block 0 rfl) ?_
              refine RunF.go 1 [5, 50, 51] (k' := (pin Go.Proofs.Try.f17 [1, 1, 1, 1, 1, 1, 1, 0] 2)) (L' := [(5, .pointer (some ⟨g3, 0, none⟩)), (50, .agg (nums .u8 t88).toArray), (51, .agg (nums .i64 ([1, 0, 1, 0] : List Int)).toArray)]) (w' := W89) (by kernel_rfl) ?_
              obtain ⟨t91, ht91, h⟩ := Option.bind_eq_some_iff.mp h
              refine RunF.call (d := some 52) (g := 40) (args := #[.agg (nums .u8 t88).toArray, .agg (nums .i64 ([1, 0, 1, 0] : List Int)).toArray]) (k2 := (pin Go.Proofs.Try.f17 [1, 1, 1, 1, 1, 1, 1, 0] 3)) (by kernel_rfl) (scrimref9_stage.calls k t88 ([1, 0, 1, 0] : List Int) t91 _ hNt88_0 rfl ht91) ?_
              rintro _ W90 ⟨rfl, hNt91_0, hM_⟩
              replace hM := hM.call hM_
              clear hM_ ht91
              refine RunF.doesU (stv_u (N := 4) (cells := (nums .u8 t91).toArray) (old := (nums .u8 t88).toArray) (ty := 69) (k2 := (pin Go.Proofs.Try.f17 [1, 1, 1, 1, 1, 1, 1, 0] 4)) (by kernel_rfl) (by rw [List.size_toArray]; simp only [nums_length, bools_length, strs_length]; exact hNt91_0) (hM.block 0 rfl) (by rw [List.size_toArray]; simp only [nums_length, bools_length, strs_length]; exact hNt88_0) (all_nums _ _)) ?_
              replace hM : Mem w (W90.setRow g3 (nums .u8 t91).toArray) [⟨.pointer (some ⟨g3, 0, none⟩), 69, 0, nums .u8 t91⟩] := Mem.setAll [] [] (hM.pick [0] rfl rfl)
              generalize W90.setRow g3 (nums .u8 t91).toArray = W92 at hM ⊢
              refine RunF.go 8 [5, 57] (k' := (pin Go.Proofs.Try.f17 [1, 1, 1, 1, 1, 1, 1, 1, 0] 5)) (L' := [(5, .pointer (some ⟨g3, 0, none⟩)), (57, .agg (nums .u8 ([1, 239, 91, 91, 91, 239, 239, 1, 239, 91, 1, 239, 239, 1, 239, 91] : List Int)).toArray)]) (w' := W92) (by kernel_rfl) ?_
              refine RunF.newVar 76 (nums .u8 (List.replicate 16 (0 : Int))) (d := some 6) (k2 := (pin Go.Proofs.Try.f17 [1, 1, 1, 1, 1, 1, 1, 1, 0] 6)) hM (by kernel_rfl) ?_
              intro g93 W94 hM
              refine RunF.doesU (stv_u (N := 16) (cells := (nums .u8 ([1, 239, 91, 91, 91, 239, 239, 1, 239, 91, 1, 239, 239, 1, 239, 91] : List Int)).toArray) (old := (nums .u8 (List.replicate 16 (0 : Int))).toArray) (ty := 76) (k2 := (pin Go.Proofs.Try.f17 [1, 1, 1, 1, 1, 1, 1, 1, 0] 7)) (by kernel_rfl) (by rw [List.size_toArray]; simp only [nums_length, bools_length, strs_length]; exact rfl) (hM.block 0 rfl) (by rw [List.size_toArray]; simp only [nums_length, bools_length, strs_length]; exact List.length_replicate) (all_nums _ _)) ?_
              replace hM : Mem w (W94.setRow g93 (nums .u8 ([1, 239, 91, 91, 91, 239, 239, 1, 239, 91, 1, 239, 239, 1, 239, 91] : List Int)).toArray) [⟨.pointer (some ⟨g93, 0, none⟩), 76, 0, nums .u8 ([1, 239, 91, 91, 91, 239, 239, 1, 239, 91, 1, 239, 239, 1, 239, 91] : List Int)⟩, ⟨.pointer (some ⟨g3, 0, none⟩), 69, 0, nums .u8 t91⟩] := Mem.setAll [] [⟨.pointer (some ⟨g3, 0, none⟩), 69, 0, nums .u8 t91⟩] (hM.pick [0, 1] rfl rfl)
              generalize W94.setRow g93 (nums .u8 ([1, 239, 91, 91, 91, 239, 239, 1, 239, 91, 1, 239, 239, 1, 239, 91] : List Int)).toArray = W96 at hM ⊢
              refine RunF.go 12 [5, 6, 7, 8] (k' := (pl Go.Proofs.Try.f17 [1, 1, 1, 1, 1, 1, 1, 1, 1, 1, 0, 1, 0, 0])) (L' := [(5, .pointer (some ⟨g3, 0, none⟩)), (6, .pointer (some ⟨g93, 0, none⟩)), (7, .int .u32 0), (8, .int .i64 0)]) (w' := W96) (by kernel_rfl) ?_
              have l2 : ∀ (k_ : Nat), k_ ≤ k → ∀ (x7_2 : Int) (x8_2 : Int) (W : World) (hM : Mem w W [⟨.pointer (some ⟨g3, 0, none⟩), 69, 0, nums .u8 t91⟩, ⟨.pointer (some ⟨g93, 0, none⟩), 76, 0, nums .u8 ([1, 239, 91, 91, 91, 239, 239, 1, 239, 91, 1, 239, 239, 1, 239, 91] : List Int)⟩]) (h : scrimref9_H.l2 k_ t91 x7_2 x8_2 = some r), RunF Go.Proofs.Try.prog (Ret fun v w' => v = .int .u32 r ∧ Mem w w' []) 17 (pl Go.Proofs.Try.f17 [1, 1, 1, 1, 1, 1, 1, 1, 1, 1, 0, 1, 0, 0]) 83 [(5, .pointer (some ⟨g3, 0, none⟩)), (6, .pointer (some ⟨g93, 0, none⟩)), (7, .int .u32 x7_2), (8, .int .i64 x8_2)] W := by
                intro k_
                induction k_ using Nat.strongRecOn with
                | _ k_ ih2 =>
                  intro hk x7_2 x8_2 W hM h
                  cases k_ with
                  | zero => exact absurd h (by simp [scrimref9_H.l2])
                  | succ k =>
                    simp only [scrimref9_H.l2] at h
                    replace ih2 : ∀ m, m ≤ k → _ := fun m hm => ih2 m (by omega) (by omega)
                    refine RunF.go 6 [5, 6, 7, 8, 59] (k' := (pl Go.Proofs.Try.f17 [1, 1, 1, 1, 1, 1, 1, 1, 1, 1, 0, 1, 0, 0, 0, 1])) (L' := [(5, .pointer (some ⟨g3, 0, none⟩)), (6, .pointer (some ⟨g93, 0, none⟩)), (7, .int .u32 x7_2), (8, .int .i64 x8_2), (59, .bool (decide (x8_2 < 4)))]) (w' := W) (by kernel_rfl) ?_
                    rcases two (decide (x8_2 < 4)) with c97 | c97
                    · replace h := of_true h c97
                      refine RunF.know 59 (b := true) (by kernel_rfl) c97 ?_
                      refine RunF.go 10 [5, 6, 7, 8, 9] (k' := (pl Go.Proofs.Try.f17 [1, 1, 1, 1, 1, 1, 1, 1, 1, 1, 0, 1, 0, 0, 1, 0, 0, 1, 0, 0])) (L' := [(5, .pointer (some ⟨g3, 0, none⟩)), (6, .pointer (some ⟨g93, 0, none⟩)), (7, .int .u32 x7_2), (8, .int .i64 x8_2), (9, .int .i64 0)]) (w' := W) (by kernel_rfl) ?_
                      have l3 : ∀ (k_ : Nat), k_ ≤ k → ∀ (x7_3 : Int) (x9_3 : Int) (W : World) (hM : Mem w W [⟨.pointer (some ⟨g3, 0, none⟩), 69, 0, nums .u8 t91⟩, ⟨.pointer (some ⟨g93, 0, none⟩), 76, 0, nums .u8 ([1, 239, 91, 91, 91, 239, 239, 1, 239, 91, 1, 239, 239, 1, 239, 91] : List Int)⟩]) (h : scrimref9_H.l3 k_ t91 x8_2 x7_3 x9_3 = some r), RunF Go.Proofs.Try.prog (Ret fun v w' => v = .int .u32 r ∧ Mem w w' []) 17 (pl Go.Proofs.Try.f17 [1, 1, 1, 1, 1, 1, 1, 1, 1, 1, 0, 1, 0, 0, 1, 0, 0, 1, 0, 0]) 83 [(5, .pointer (some ⟨g3, 0, none⟩)), (6, .pointer (some ⟨g93, 0, none⟩)), (7, .int .u32 x7_3), (8, .int .i64 x8_2), (9, .int .i64 x9_3)] W := by
                        intro k_
                        induction k_ using Nat.strongRecOn with
                        | _ k_ ih3 =>
                          intro hk x7_3 x9_3 W hM h
                          cases k_ with
                          | zero => exact absurd h (by simp [scrimref9_H.l3])
                          | succ k =>
                            simp only [scrimref9_H.l3] at h
                            replace ih3 : ∀ m, m ≤ k → _ := fun m hm => ih3 m (by omega) (by omega)
                            replace ih2 : ∀ m, m ≤ k → _ := fun m hm => ih2 m (by omega)
                            refine RunF.go 6 [5, 6, 7, 8, 9, 63] (k' := (pl Go.Proofs.Try.f17 [1, 1, 1, 1, 1, 1, 1, 1, 1, 1, 0, 1, 0, 0, 1, 0, 0, 1, 0, 0, 0, 1])) (L' := [(5, .pointer (some ⟨g3, 0, none⟩)), (6, .pointer (some ⟨g93, 0, none⟩)), (7, .int .u32 x7_3), (8, .int .i64 x8_2), (9, .int .i64 x9_3), (63, .bool (decide (x9_3 < 4)))]) (w' := W) (by kernel_rfl) ?_
                            rcases two (decide (x9_3 < 4)) with c98 | c98
                            · replace h := of_true h c98
                              refine RunF.know 63 (b := true) (by kernel_rfl) c98 ?_
                              refine RunF.go 4 [5, 6, 7, 8, 9] (k' := (pl Go.Proofs.Try.f17 [1, 1, 1, 1, 1, 1, 1, 1, 1, 1, 0, 1, 0, 0, 1, 0, 0, 1, 0, 0, 1, 0, 0])) (L' := [(5, .pointer (some ⟨g3, 0, none⟩)), (6, .pointer (some ⟨g93, 0, none⟩)), (7, .int .u32 x7_3), (8, .int .i64 x8_2), (9, .int .i64 x9_3)]) (w' := W) (by kernel_rfl) ?_
                              refine RunF.draw (Still ({ W with drawn := W.drawn + 1 } : World) []) (by kernel_rfl) (by kernel_rfl) ?_
                              have hMd100 := hM.drew
                              have hS := Still.refl ({ W with drawn := W.drawn + 1 } : World) []
                              generalize ({ W with drawn := W.drawn + 1 } : World) = W99 at hMd100 hS ⊢
                              replace hM := hMd100
                              refine RunAny.y 0 (by kernel_rfl) (yl_pure (d := some 66) (v := .int .u32 x7_3) (k2 := [.inRegion (opsOf (pl Go.Proofs.Try.f17 [1, 1, 1, 1, 1, 1, 1, 1, 1, 1, 0, 1, 0, 0, 1, 0, 0, 1, 0, 0, 1, 0, 0])) []]) fun w => by kernel_rfl) (fun _ _ => trivial) hS ?_
                              refine RunAny.y 1 (by kernel_rfl) (yl_pure (d := some 67) (v := .int .i64 x8_2) (k2 := [.inRegion (opsOf (pl Go.Proofs.Try.f17 [1, 1, 1, 1, 1, 1, 1, 1, 1, 1, 0, 1, 0, 0, 1, 0, 0, 1, 0, 0, 1, 0, 0])) []]) fun w => by kernel_rfl) (fun _ _ => trivial) hS ?_
                              refine RunAny.y 2 (by kernel_rfl) (yl_pure (d := some 68) (v := .int .i64 x9_3) (k2 := [.inRegion (opsOf (pl Go.Proofs.Try.f17 [1, 1, 1, 1, 1, 1, 1, 1, 1, 1, 0, 1, 0, 0, 1, 0, 0, 1, 0, 0, 1, 0, 0])) []]) fun w => by kernel_rfl) (fun _ _ => trivial) hS ?_
                              rcases two (decide (0 ≤ x8_2)) with c102 | c102
                              · replace h := of_true h c102
                                rcases two (decide (x8_2 < (4 : Int))) with c103 | c103
                                · replace h := of_true h c103
                                  have hbq104 : 0 ≤ (x8_2 * (4 : Int)) ∧ (x8_2 * (4 : Int)) + 4 ≤ 16 := by have h1_ : 0 ≤ x8_2 := (of_decide_eq_true c102); have h2_ : x8_2 < (4 : Int) := (of_decide_eq_true c103); omega
                                  refine RunAny.y 3 (by kernel_rfl) (idxArr_row (d := some 69) (g := g93) (len := 4) (sz := 4) (i := x8_2) (k2 := [.inRegion (opsOf (pl Go.Proofs.Try.f17 [1, 1, 1, 1, 1, 1, 1, 1, 1, 1, 0, 1, 0, 0, 1, 0, 0, 1, 0, 0, 1, 0, 0])) []]) (by kernel_rfl) (of_decide_eq_true c102) (of_decide_eq_true c103)) (fun _ _ => trivial) hS ?_
                                  rcases two (decide (0 ≤ x9_3)) with c106 | c106
                                  · replace h := of_true h c106
                                    rcases two (decide (x9_3 < (4 : Int))) with c107 | c107
                                    · replace h := of_true h c107
                                      have hiq105 : 0 ≤ (x8_2 * (4 : Int)) + x9_3 ∧ (x8_2 * (4 : Int)) + x9_3 < 16 := by have h1_ : 0 ≤ x9_3 := (of_decide_eq_true c106); have h2_ : x9_3 < (4 : Int) := (of_decide_eq_true c107); omega
                                      obtain ⟨hcq105, hfq105, hlq105⟩ := hM.arr_num 1 rfl (i := (x8_2 * (4 : Int)) + x9_3) hiq105.1 (N := 16) rfl hiq105.2
                                      refine RunAny.y 4 (by kernel_rfl) (idxArr_in (d := some 70) (g := g93) (len := 4) (e := (x8_2 * (4 : Int))) (i := x9_3) (k2 := [.inRegion (opsOf (pl Go.Proofs.Try.f17 [1, 1, 1, 1, 1, 1, 1, 1, 1, 1, 0, 1, 0, 0, 1, 0, 0, 1, 0, 0, 1, 0, 0])) []]) (by kernel_rfl) hbq104.1 (of_decide_eq_true c106) (of_decide_eq_true c107)) (fun _ _ => trivial) hS ?_
                                      refine RunAny.y 5 (by kernel_rfl) (ld_y (d := some 71) (p := ⟨g93, ((x8_2 * (4 : Int)) + x9_3).toNat, none⟩) (k2 := [.inRegion (opsOf (pl Go.Proofs.Try.f17 [1, 1, 1, 1, 1, 1, 1, 1, 1, 1, 0, 1, 0, 0, 1, 0, 0, 1, 0, 0, 1, 0, 0])) []]) (.int .u8 (rd ([1, 239, 91, 91, 91, 239, 239, 1, 239, 91, 1, 239, 239, 1, 239, 91] : List Int) ((x8_2 * (4 : Int)) + x9_3))) (by kernel_rfl)) (fun _ hs => hs.cell hcq105 (by simp)) hS ?_
                                      refine RunAny.y 6 (by kernel_rfl) (yl_pure (d := some 72) (v := .int .i64 x9_3) (k2 := [.inRegion (opsOf (pl Go.Proofs.Try.f17 [1, 1, 1, 1, 1, 1, 1, 1, 1, 1, 0, 1, 0, 0, 1, 0, 0, 1, 0, 0, 1, 0, 0])) []]) fun w => by kernel_rfl) (fun _ _ => trivial) hS ?_
                                      rcases two (decide (0 ≤ x9_3)) with c109 | c109
                                      · replace h := of_true h c109
                                        rcases two (decide (x9_3 < (4 : Int))) with c110 | c110
                                        · replace h := of_true h c110
                                          obtain ⟨hcq108, hfq108, hlq108⟩ := hM.arr_num 0 rfl (i := x9_3) (of_decide_eq_true c109) (N := 4) hNt91_0 (of_decide_eq_true c110)
                                          refine RunAny.y 7 (by kernel_rfl) (idxArr_own (d := some 73) (g := g3) (len := 4) (i := x9_3) (k2 := [.inRegion (opsOf (pl Go.Proofs.Try.f17 [1, 1, 1, 1, 1, 1, 1, 1, 1, 1, 0, 1, 0, 0, 1, 0, 0, 1, 0, 0, 1, 0, 0])) []]) (by kernel_rfl) (of_decide_eq_true c109) (of_decide_eq_true c110)) (fun _ _ => trivial) hS ?_
                                          refine RunAny.y 8 (by kernel_rfl) (ld_y (d := some 74) (p := ⟨g3, (x9_3 : Int).toNat, none⟩) (k2 := [.inRegion (opsOf (pl Go.Proofs.Try.f17 [1, 1, 1, 1, 1, 1, 1, 1, 1, 1, 0, 1, 0, 0, 1, 0, 0, 1, 0, 0, 1, 0, 0])) []]) (.int .u8 (rd t91 x9_3)) (by kernel_rfl)) (fun _ hs => hs.cell hcq108 (by simp)) hS ?_
                                          refine RunAny.y 11 (by kernel_rfl) (yl_pure (d := some 77) (v := .int .i64 x8_2) (k2 := [.inRegion (opsOf (pl Go.Proofs.Try.f17 [1, 1, 1, 1, 1, 1, 1, 1, 1, 1, 0, 1, 0, 0, 1, 0, 0, 1, 0, 0, 1, 0, 0])) []]) fun w => by kernel_rfl) (fun _ _ => trivial) hS ?_
                                          refine RunAny.y 12 (by kernel_rfl) (yl_pure (d := some 78) (v := .int .i64 (I64 (8 * x8_2))) (k2 := [.inRegion (opsOf (pl Go.Proofs.Try.f17 [1, 1, 1, 1, 1, 1, 1, 1, 1, 1, 0, 1, 0, 0, 1, 0, 0, 1, 0, 0, 1, 0, 0])) []]) fun w => by kernel_rfl) (fun _ _ => trivial) hS ?_
                                          refine RunAny.y 13 (by kernel_rfl) (yl_pure (d := some 79) (v := .int .u64 (U64 (I64 (8 * x8_2)))) (k2 := [.inRegion (opsOf (pl Go.Proofs.Try.f17 [1, 1, 1, 1, 1, 1, 1, 1, 1, 1, 0, 1, 0, 0, 1, 0, 0, 1, 0, 0, 1, 0, 0])) []]) fun w => by kernel_rfl) (fun _ _ => trivial) hS ?_
                                          obtain ⟨t112, ht112, h⟩ := Option.bind_eq_some_iff.mp h
                                          refine RunAny.call 9 (d := some 75) (g := 41) (args := #[.int .u8 (rd ([1, 239, 91, 91, 91, 239, 239, 1, 239, 91, 1, 239, 239, 1, 239, 91] : List Int) ((x8_2 * (4 : Int)) + x9_3)), .int .u8 (rd t91 x9_3), .int .i64 361]) (by kernel_rfl) (by kernel_rfl) (scrimref3_Mul.calls k (rd ([1, 239, 91, 91, 91, 239, 239, 1, 239, 91, 1, 239, 239, 1, 239, 91] : List Int) ((x8_2 * (4 : Int)) + x9_3)) (rd t91 x9_3) 361 t112 _ ht112) (by rintro _ _ ⟨rfl, hM_⟩; exact hS.below hM_.below) ?_
                                          rintro _ W111 ⟨rfl, hM_⟩
                                          replace hS := hS.below hM_.below
                                          replace hM := hM.call hM_
                                          clear hM_ ht112
                                          refine RunAny.rebase hS ?_
                                          replace hS := Still.refl W111 []
                                          refine RunAny.y 10 (by kernel_rfl) (yl_pure (d := some 76) (v := .int .u32 (U32 (t112))) (k2 := [.inRegion (opsOf (pl Go.Proofs.Try.f17 [1, 1, 1, 1, 1, 1, 1, 1, 1, 1, 0, 1, 0, 0, 1, 0, 0, 1, 0, 0, 1, 0, 0])) []]) fun w => by kernel_rfl) (fun _ _ => trivial) hS ?_
                                          rcases two (decide (0 ≤ (U64 (I64 (8 * x8_2))))) with c113 | c113
                                          · replace h := of_true h c113
                                            refine RunAny.y 14 (by kernel_rfl) (sh_y (d := some 80) (b := true) (kd := .u32) (x := U32 (t112)) (y := U64 (I64 (8 * x8_2))) (k2 := [.inRegion (opsOf (pl Go.Proofs.Try.f17 [1, 1, 1, 1, 1, 1, 1, 1, 1, 1, 0, 1, 0, 0, 1, 0, 0, 1, 0, 0, 1, 0, 0])) []]) (by kernel_rfl) c113) (fun _ _ => trivial) hS ?_
                                            refine RunAny.y 15 (by kernel_rfl) (yl_pure (d := some 81) (v := .int .u32 (bxor .u32 x7_3 (shlv .u32 (U32 (t112)) (U64 (I64 (8 * x8_2)))))) (k2 := [.inRegion (opsOf (pl Go.Proofs.Try.f17 [1, 1, 1, 1, 1, 1, 1, 1, 1, 1, 0, 1, 0, 0, 1, 0, 0, 1, 0, 0, 1, 0, 0])) []]) fun w => by kernel_rfl) (fun _ _ => trivial) hS ?_
                                            refine RunAny.y 16 (by kernel_rfl) (yl_pure (d := some 7) (v := .int .u32 (bxor .u32 x7_3 (shlv .u32 (U32 (t112)) (U64 (I64 (8 * x8_2)))))) (k2 := [.inRegion (opsOf (pl Go.Proofs.Try.f17 [1, 1, 1, 1, 1, 1, 1, 1, 1, 1, 0, 1, 0, 0, 1, 0, 0, 1, 0, 0, 1, 0, 0])) []]) fun w => by kernel_rfl) (fun _ _ => trivial) hS ?_
                                            refine RunAny.done (by kernel_rfl) ?_
                                            clear hS
                                            refine RunF.go 7 [5, 6, 7, 8, 9] (k' := (pl Go.Proofs.Try.f17 [1, 1, 1, 1, 1, 1, 1, 1, 1, 1, 0, 1, 0, 0, 1, 0, 0, 1, 0, 0])) (L' := [(5, .pointer (some ⟨g3, 0, none⟩)), (6, .pointer (some ⟨g93, 0, none⟩)), (7, .int .u32 (bxor .u32 x7_3 (shlv .u32 (U32 (t112)) (U64 (I64 (8 * x8_2)))))), (8, .int .i64 x8_2), (9, .int .i64 (I64 (x9_3 + 1)))]) (w' := W111) (by kernel_rfl) ?_
                                            obtain ⟨y114, hy, h⟩ := Option.bind_eq_some_iff.mp h
                                            rw [show (bxor .u32 x7_3 (shlv .u32 (U32 (t112)) (U64 (I64 (8 * x8_2))))) = y114 from Option.some.inj hy]
                                            clear hy
                                            exact ih3 k (by omega) y114 (I64 (x9_3 + 1)) _ (hM.pick [0, 1] rfl rfl) h
                                          · replace h := of_false h c113
                                            cases h
                                        · replace h := of_false h c110
                                          cases h
                                      · replace h := of_false h c109
                                        cases h
                                    · replace h := of_false h c107
                                      cases h
                                  · replace h := of_false h c106
                                    cases h
                                · replace h := of_false h c103
                                  cases h
                              · replace h := of_false h c102
                                cases h
                            · replace h := of_false h c98
                              refine RunF.know 63 (b := false) (by kernel_rfl) c98 ?_
                              refine RunF.go 9 [5, 6, 7, 8] (k' := (pl Go.Proofs.Try.f17 [1, 1, 1, 1, 1, 1, 1, 1, 1, 1, 0, 1, 0, 0])) (L' := [(5, .pointer (some ⟨g3, 0, none⟩)), (6, .pointer (some ⟨g93, 0, none⟩)), (7, .int .u32 x7_3), (8, .int .i64 (I64 (x8_2 + 1)))]) (w' := W) (by kernel_rfl) ?_
                              exact ih2 k (by omega) x7_3 (I64 (x8_2 + 1)) _ (hM.pick [0, 1] rfl rfl) h
                      exact l3 k (Nat.le_refl _) x7_2 0 _ (hM.pick [0, 1] rfl rfl) h
                    · replace h := of_false h c97
                      refine RunF.know 59 (b := false) (by kernel_rfl) c97 ?_
                      refine RunF.go 7 [4] (k' := (pl Go.Proofs.Try.f17 [1, 1, 1, 1, 1, 1, 1, 1, 1, 1, 1, 1])) (L' := [(4, .int .u32 x7_2)]) (w' := W) (by kernel_rfl) ?_
                      obtain rfl := Option.some.inj h
                      exact RunF.ret1 4 (.int .u32 x7_2) (fn := Go.Proofs.Try.f17) Go.Proofs.Try.func17 (by kernel_rfl) (by kernel_rfl) (by kernel_rfl) ⟨_, rfl, rfl, (hM.pick [] rfl rfl)⟩
              exact l2 k (Nat.le_refl _) 0 0 _ (hM.pick [1, 0] rfl rfl) h
            · replace h := of_false h c84
              cases h
          · replace h := of_false h c75
            cases h
    · replace h := of_false h c11
      cases h
  · replace h := of_false h c7
    refine RunF.know 15 (b := false) (by kernel_rfl) c7 ?_
    refine RunF.go 9 [1, 5, 25] (k' := (pl Go.Proofs.Try.f17 [1, 1, 1, 0, 1])) (L' := [(1, .slice Ap1 a1.length cp1), (5, .pointer (some ⟨g3, 0, none⟩)), (25, .bool (decide ((a1.length : Int) ≥ 3)))]) (w' := W6) (by kernel_rfl) ?_
    rcases two (decide ((a1.length : Int) ≥ 3)) with c115 | c115
    · replace h := of_true h c115
      refine RunF.know 25 (b := true) (by kernel_rfl) c115 ?_
      refine RunF.go 1 [1, 5] (k' := (pl Go.Proofs.Try.f17 [1, 1, 1, 0, 1, 0])) (L' := [(1, .slice Ap1 a1.length cp1), (5, .pointer (some ⟨g3, 0, none⟩))]) (w' := W6) (by kernel_rfl) ?_
      refine RunF.draw (Still ({ W6 with drawn := W6.drawn + 1 } : World) [.pointer (some ⟨g3, 0, none⟩)]) (by kernel_rfl) (by kernel_rfl) ?_
      have hMd117 := hM.drew
      have hS := Still.refl ({ W6 with drawn := W6.drawn + 1 } : World) [.pointer (some ⟨g3, 0, none⟩)]
      generalize ({ W6 with drawn := W6.drawn + 1 } : World) = W116 at hMd117 hS ⊢
      replace hM := hMd117
      refine RunAny.y 1 (by kernel_rfl) (yl_pure (d := some 27) (v := .agg (nums .i64 ([1, 1, 0, 0] : List Int)).toArray) (k2 := [.inRegion (opsOf (pl Go.Proofs.Try.f17 [1, 1, 1, 0, 1, 0])) []]) fun w => by kernel_rfl) (fun _ _ => trivial) hS ?_
      refine RunAny.y 3 (by kernel_rfl) (yl_pure (d := some 29) (v := .slice Ap1 a1.length cp1) (k2 := [.inRegion (opsOf (pl Go.Proofs.Try.f17 [1, 1, 1, 0, 1, 0])) []]) fun w => by kernel_rfl) (fun _ _ => trivial) hS ?_
      rcases two (decide (2 < (a1.length : Int))) with c119 | c119
      · replace h := of_true h c119
        obtain ⟨q118, hAq118, hiq118⟩ := Rd.num hr1 (i := 2) (by omega) (by have h_ := of_decide_eq_true c119; omega)
        have hcq118 := (hM.below.cell (World.block_lt_of_cell? _ _ hiq118)).trans hiq118
        refine RunAny.y 4 (by kernel_rfl) (idx_y (d := some 30) (A := Ap1) (m := a1.length) (i := 2) (k2 := [.inRegion (opsOf (pl Go.Proofs.Try.f17 [1, 1, 1, 0, 1, 0])) []]) (by kernel_rfl) (by omega) (by have h_ := of_decide_eq_true c119; omega) hAq118) (fun _ _ => trivial) hS ?_
        refine RunAny.y 5 (by kernel_rfl) (ld_y (d := some 31) (p := (q118.add (2 : Int).toNat)) (k2 := [.inRegion (opsOf (pl Go.Proofs.Try.f17 [1, 1, 1, 0, 1, 0])) []]) (.int .u32 (rd a1 2)) (by kernel_rfl)) (fun _ hs => hs.cell hcq118 (by intro v hv; simp only [List.mem_cons, List.not_mem_nil, or_false] at hv; rcases hv with rfl; exact (hM.far hiq118 0 rfl))) hS ?_
        refine RunAny.does 0 (by kernel_rfl) ((ldv_y (d := some 26) (g := g3) (N := 4) (ty := 69) (k2 := [.inRegion (opsOf (pl Go.Proofs.Try.f17 [1, 1, 1, 0, 1, 0])) []]) (nums .u8 t2) (by kernel_rfl) (by simp only [nums_length, bools_length, strs_length]; exact hNt2_0)).does (hM.block 0 rfl)) hS ?_
        obtain ⟨t121, ht121, h⟩ := Option.bind_eq_some_iff.mp h
        refine RunAny.call 2 (d := some 28) (g := 40) (args := #[.agg (nums .u8 t2).toArray, .agg (nums .i64 ([1, 1, 0, 0] : List Int)).toArray]) (by kernel_rfl) (by kernel_rfl) (scrimref9_stage.calls k t2 ([1, 1, 0, 0] : List Int) t121 _ hNt2_0 rfl ht121) (by rintro _ _ ⟨rfl, _, hM_⟩; exact hS.below hM_.below) ?_
        rintro _ W120 ⟨rfl, hNt121_0, hM_⟩
        replace hS := hS.below hM_.below
        replace hM := hM.call hM_
        clear hM_ ht121
        refine RunAny.rebase hS ?_
        replace hS := Still.refl W120 [.pointer (some ⟨g3, 0, none⟩)]
        obtain ⟨t123, ht123, h⟩ := Option.bind_eq_some_iff.mp h
        refine RunAny.call 6 (d := some 32) (g := 39) (args := #[.agg (nums .u8 t121).toArray, .int .u32 (rd a1 2)]) (by kernel_rfl) (by kernel_rfl) (scrimref9_laid.calls k t121 (rd a1 2) t123 _ hNt121_0 ht123) (by rintro _ _ ⟨rfl, _, hM_⟩; exact hS.below hM_.below) ?_
        rintro _ W122 ⟨rfl, hNt123_0, hM_⟩
        replace hS := hS.below hM_.below
        replace hM := hM.call hM_
        clear hM_ ht123
        refine RunAny.rebase hS ?_
        replace hS := Still.refl W122 [.pointer (some ⟨g3, 0, none⟩)]
        have hS' := hS.setRow (v := .pointer (some ⟨g3, 0, none⟩)) (g := g3) (by simp) rfl (nums .u8 t123).toArray
        refine RunAny.doesU 7 (by kernel_rfl) (stv_u (N := 4) (cells := (nums .u8 t123).toArray) (old := (nums .u8 t2).toArray) (ty := 69) (k2 := [.inRegion (opsOf (pl Go.Proofs.Try.f17 [1, 1, 1, 0, 1, 0])) []]) (by kernel_rfl) (by rw [List.size_toArray]; simp only [nums_length, bools_length, strs_length]; exact hNt123_0) (hM.block 0 rfl) (by rw [List.size_toArray]; simp only [nums_length, bools_length, strs_length]; exact hNt2_0) (all_nums _ _)) hS' ?_
        replace hM : Mem w (W122.setRow g3 (nums .u8 t123).toArray) [⟨.pointer (some ⟨g3, 0, none⟩), 69, 0, nums .u8 t123⟩] := Mem.setAll [] [] (hM.pick [0] rfl rfl)
        generalize W122.setRow g3 (nums .u8 t123).toArray = W124 at hM hS' ⊢
        replace hS := hS'
        refine RunAny.rebase hS ?_
        replace hS := Still.refl W124 [.pointer (some ⟨g3, 0, none⟩)]
        refine RunAny.done (by kernel_rfl) ?_
        clear hS
        refine RunF.go 7 [1, 5, 35] (k' := (pl Go.Proofs.Try.f17 [1, 1, 1, 1, 0, 1])) (L' := [(1, .slice Ap1 a1.length cp1), (5, .pointer (some ⟨g3, 0, none⟩)), (35, .bool (decide ((a1.length : Int) < 2)))]) (w' := W124) (by kernel_rfl) ?_
        rcases two (decide ((a1.length : Int) < 2)) with c125 | c125
        · replace h := of_true h c125
          refine RunF.know 35 (b := true) (by kernel_rfl) c125 ?_
          refine RunF.go 5 [4] (k' := (pl Go.Proofs.Try.f17 [1, 1, 1, 1, 0, 1, 0, 1])) (L' := [(4, .int .u32 0)]) (w' := W124) (by kernel_rfl) ?_
          obtain rfl := Option.some.inj h
          exact RunF.ret1 4 (.int .u32 0) (fn := Go.Proofs.Try.f17) Go.Proofs.Try.func17 (by kernel_rfl) (by kernel_rfl) (by kernel_rfl) ⟨_, rfl, rfl, (hM.pick [] rfl rfl)⟩
        · replace h := of_false h c125
          refine RunF.know 35 (b := false) (by kernel_rfl) c125 ?_
          refine RunF.go 3 [1, 5] (k' := (pl Go.Proofs.Try.f17 [1, 1, 1, 1, 1, 0])) (L' := [(1, .slice Ap1 a1.length cp1), (5, .pointer (some ⟨g3, 0, none⟩))]) (w' := W124) (by kernel_rfl) ?_
          refine RunF.draw (Still ({ W124 with drawn := W124.drawn + 1 } : World) [.pointer (some ⟨g3, 0, none⟩)]) (by kernel_rfl) (by kernel_rfl) ?_
          have hMd127 := hM.drew
          have hS := Still.refl ({ W124 with drawn := W124.drawn + 1 } : World) [.pointer (some ⟨g3, 0, none⟩)]
          generalize ({ W124 with drawn := W124.drawn + 1 } : World) = W126 at hMd127 hS ⊢
          replace hM := hMd127
          refine RunAny.y 1 (by kernel_rfl) (yl_pure (d := some 37) (v := .agg (nums .i64 ([0, 1, 0, 1] : List Int)).toArray) (k2 := [.inRegion (opsOf (pl Go.Proofs.Try.f17 [1, 1, 1, 1, 1, 0])) []]) fun w => by kernel_rfl) (fun _ _ => trivial) hS ?_
          refine RunAny.y 3 (by kernel_rfl) (yl_pure (d := some 39) (v := .slice Ap1 a1.length cp1) (k2 := [.inRegion (opsOf (pl Go.Proofs.Try.f17 [1, 1, 1, 1, 1, 0])) []]) fun w => by kernel_rfl) (fun _ _ => trivial) hS ?_
          rcases two (decide (1 < (a1.length : Int))) with c129 | c129
          · replace h := of_true h c129
            obtain ⟨q128, hAq128, hiq128⟩ := Rd.num hr1 (i := 1) (by omega) (by have h_ := of_decide_eq_true c129; omega)
            have hcq128 := (hM.below.cell (World.block_lt_of_cell? _ _ hiq128)).trans hiq128
            refine RunAny.y 4 (by kernel_rfl) (idx_y (d := some 40) (A := Ap1) (m := a1.length) (i := 1) (k2 := [.inRegion (opsOf (pl Go.Proofs.Try.f17 [1, 1, 1, 1, 1, 0])) []]) (by kernel_rfl) (by omega) (by have h_ := of_decide_eq_true c129; omega) hAq128) (fun _ _ => trivial) hS ?_
            refine RunAny.y 5 (by kernel_rfl) (ld_y (d := some 41) (p := (q128.add (1 : Int).toNat)) (k2 := [.inRegion (opsOf (pl Go.Proofs.Try.f17 [1, 1, 1, 1, 1, 0])) []]) (.int .u32 (rd a1 1)) (by kernel_rfl)) (fun _ hs => hs.cell hcq128 (by intro v hv; simp only [List.mem_cons, List.not_mem_nil, or_false] at hv; rcases hv with rfl; exact (hM.far hiq128 0 rfl))) hS ?_
            refine RunAny.does 0 (by kernel_rfl) ((ldv_y (d := some 36) (g := g3) (N := 4) (ty := 69) (k2 := [.inRegion (opsOf (pl Go.Proofs.Try.f17 [1, 1, 1, 1, 1, 0])) []]) (nums .u8 t123) (by kernel_rfl) (by simp only [nums_length, bools_length, strs_length]; exact hNt123_0)).does (hM.block 0 rfl)) hS ?_
            obtain ⟨t131, ht131, h⟩ := Option.bind_eq_some_iff.mp h
            refine RunAny.call 2 (d := some 38) (g := 40) (args := #[.agg (nums .u8 t123).toArray, .agg (nums .i64 ([0, 1, 0, 1] : List Int)).toArray]) (by kernel_rfl) (by kernel_rfl) (scrimref9_stage.calls k t123 ([0, 1, 0, 1] : List Int) t131 _ hNt123_0 rfl ht131) (by rintro _ _ ⟨rfl, _, hM_⟩; exact hS.below hM_.below) ?_
            rintro _ W130 ⟨rfl, hNt131_0, hM_⟩
            replace hS := hS.below hM_.below
            replace hM := hM.call hM_
            clear hM_ ht131
            refine RunAny.rebase hS ?_
            replace hS := Still.refl W130 [.pointer (some ⟨g3, 0, none⟩)]
            obtain ⟨t133, ht133, h⟩ := Option.bind_eq_some_iff.mp h
            refine RunAny.call 6 (d := some 42) (g := 39) (args := #[.agg (nums .u8 t131).toArray, .int .u32 (rd a1 1)]) (by kernel_rfl) (by kernel_rfl) (scrimref9_laid.calls k t131 (rd a1 1) t133 _ hNt131_0 ht133) (by rintro _ _ ⟨rfl, _, hM_⟩; exact hS.below hM_.below) ?_
            rintro _ W132 ⟨rfl, hNt133_0, hM_⟩
            replace hS := hS.below hM_.below
            replace hM := hM.call hM_
            clear hM_ ht133
            refine RunAny.rebase hS ?_
            replace hS := Still.refl W132 [.pointer (some ⟨g3, 0, none⟩)]
            have hS' := hS.setRow (v := .pointer (some ⟨g3, 0, none⟩)) (g := g3) (by simp) rfl (nums .u8 t133).toArray
            refine RunAny.doesU 7 (by kernel_rfl) (stv_u (N := 4) (cells := (nums .u8 t133).toArray) (old := (nums .u8 t123).toArray) (ty := 69) (k2 := [.inRegion (opsOf (pl Go.Proofs.Try.f17 [1, 1, 1, 1, 1, 0])) []]) (by kernel_rfl) (by rw [List.size_toArray]; simp only [nums_length, bools_length, strs_length]; exact hNt133_0) (hM.block 0 rfl) (by rw [List.size_toArray]; simp only [nums_length, bools_length, strs_length]; exact hNt123_0) (all_nums _ _)) hS' ?_
            replace hM : Mem w (W132.setRow g3 (nums .u8 t133).toArray) [⟨.pointer (some ⟨g3, 0, none⟩), 69, 0, nums .u8 t133⟩] := Mem.setAll [] [] (hM.pick [0] rfl rfl)
            generalize W132.setRow g3 (nums .u8 t133).toArray = W134 at hM hS' ⊢
            replace hS := hS'
            refine RunAny.rebase hS ?_
            replace hS := Still.refl W134 [.pointer (some ⟨g3, 0, none⟩)]
            refine RunAny.done (by kernel_rfl) ?_
            clear hS
            refine RunF.go 1 [1, 5] (k' := (pl Go.Proofs.Try.f17 [1, 1, 1, 1, 1, 1, 0])) (L' := [(1, .slice Ap1 a1.length cp1), (5, .pointer (some ⟨g3, 0, none⟩))]) (w' := W134) (by kernel_rfl) ?_
            refine RunF.draw (Still ({ W134 with drawn := W134.drawn + 1 } : World) [.pointer (some ⟨g3, 0, none⟩)]) (by kernel_rfl) (by kernel_rfl) ?_
            have hMd136 := hM.drew
            have hS := Still.refl ({ W134 with drawn := W134.drawn + 1 } : World) [.pointer (some ⟨g3, 0, none⟩)]
            generalize ({ W134 with drawn := W134.drawn + 1 } : World) = W135 at hMd136 hS ⊢
            replace hM := hMd136
            refine RunAny.y 1 (by kernel_rfl) (yl_pure (d := some 44) (v := .agg (nums .i64 ([0, 0, 1, 1] : List Int)).toArray) (k2 := [.inRegion (opsOf (pl Go.Proofs.Try.f17 [1, 1, 1, 1, 1, 1, 0])) []]) fun w => by kernel_rfl) (fun _ _ => trivial) hS ?_
            refine RunAny.y 3 (by kernel_rfl) (yl_pure (d := some 46) (v := .slice Ap1 a1.length cp1) (k2 := [.inRegion (opsOf (pl Go.Proofs.Try.f17 [1, 1, 1, 1, 1, 1, 0])) []]) fun w => by kernel_rfl) (fun _ _ => trivial) hS ?_
            rcases two (decide (0 < (a1.length : Int))) with c138 | c138
            · replace h := of_true h c138
              obtain ⟨q137, hAq137, hiq137⟩ := Rd.num hr1 (i := 0) (by omega) (by have h_ := of_decide_eq_true c138; omega)
              have hcq137 := (hM.below.cell (World.block_lt_of_cell? _ _ hiq137)).trans hiq137
              refine RunAny.y 4 (by kernel_rfl) (idx_y (d := some 47) (A := Ap1) (m := a1.length) (i := 0) (k2 := [.inRegion (opsOf (pl Go.Proofs.Try.f17 [1, 1, 1, 1, 1, 1, 0])) []]) (by kernel_rfl) (by omega) (by have h_ := of_decide_eq_true c138; omega) hAq137) (fun _ _ => trivial) hS ?_
              refine RunAny.y 5 (by kernel_rfl) (ld_y (d := some 48) (p := (q137.add (0 : Int).toNat)) (k2 := [.inRegion (opsOf (pl Go.Proofs.Try.f17 [1, 1, 1, 1, 1, 1, 0])) []]) (.int .u32 (rd a1 0)) (by kernel_rfl)) (fun _ hs => hs.cell hcq137 (by intro v hv; simp only [List.mem_cons, List.not_mem_nil, or_false] at hv; rcases hv with rfl; exact (hM.far hiq137 0 rfl))) hS ?_
              refine RunAny.does 0 (by kernel_rfl) ((ldv_y (d := some 43) (g := g3) (N := 4) (ty := 69) (k2 := [.inRegion (opsOf (pl Go.Proofs.Try.f17 [1, 1, 1, 1, 1, 1, 0])) []]) (nums .u8 t133) (by kernel_rfl) (by simp only [nums_length, bools_length, strs_length]; exact hNt133_0)).does (hM.block 0 rfl)) hS ?_
              obtain ⟨t140, ht140, h⟩ := Option.bind_eq_some_iff.mp h
              refine RunAny.call 2 (d := some 45) (g := 40) (args := #[.agg (nums .u8 t133).toArray, .agg (nums .i64 ([0, 0, 1, 1] : List Int)).toArray]) (by kernel_rfl) (by kernel_rfl) (scrimref9_stage.calls k t133 ([0, 0, 1, 1] : List Int) t140 _ hNt133_0 rfl ht140) (by rintro _ _ ⟨rfl, _, hM_⟩; exact hS.below hM_.below) ?_
              rintro _ W139 ⟨rfl, hNt140_0, hM_⟩
              replace hS := hS.below hM_.below
              replace hM := hM.call hM_
              clear hM_ ht140
              refine RunAny.rebase hS ?_
              replace hS := Still.refl W139 [.pointer (some ⟨g3, 0, none⟩)]
              obtain ⟨t142, ht142, h⟩ := Option.bind_eq_some_iff.mp h
              refine RunAny.call 6 (d := some 49) (g := 39) (args := #[.agg (nums .u8 t140).toArray, .int .u32 (rd a1 0)]) (by kernel_rfl) (by kernel_rfl) (scrimref9_laid.calls k t140 (rd a1 0) t142 _ hNt140_0 ht142) (by rintro _ _ ⟨rfl, _, hM_⟩; exact hS.below hM_.below) ?_
              rintro _ W141 ⟨rfl, hNt142_0, hM_⟩
              replace hS := hS.below hM_.below
              replace hM := hM.call hM_
              clear hM_ ht142
              refine RunAny.rebase hS ?_
              replace hS := Still.refl W141 [.pointer (some ⟨g3, 0, none⟩)]
              have hS' := hS.setRow (v := .pointer (some ⟨g3, 0, none⟩)) (g := g3) (by simp) rfl (nums .u8 t142).toArray
              refine RunAny.doesU 7 (by kernel_rfl) (stv_u (N := 4) (cells := (nums .u8 t142).toArray) (old := (nums .u8 t133).toArray) (ty := 69) (k2 := [.inRegion (opsOf (pl Go.Proofs.Try.f17 [1, 1, 1, 1, 1, 1, 0])) []]) (by kernel_rfl) (by rw [List.size_toArray]; simp only [nums_length, bools_length, strs_length]; exact hNt142_0) (hM.block 0 rfl) (by rw [List.size_toArray]; simp only [nums_length, bools_length, strs_length]; exact hNt133_0) (all_nums _ _)) hS' ?_
              replace hM : Mem w (W141.setRow g3 (nums .u8 t142).toArray) [⟨.pointer (some ⟨g3, 0, none⟩), 69, 0, nums .u8 t142⟩] := Mem.setAll [] [] (hM.pick [0] rfl rfl)
              generalize W141.setRow g3 (nums .u8 t142).toArray = W143 at hM hS' ⊢
              replace hS := hS'
              refine RunAny.rebase hS ?_
              replace hS := Still.refl W143 [.pointer (some ⟨g3, 0, none⟩)]
              refine RunAny.done (by kernel_rfl) ?_
              clear hS
              refine RunF.go 2 [5] (k' := (pin Go.Proofs.Try.f17 [1, 1, 1, 1, 1, 1, 1, 0] 0)) (L' := [(5, .pointer (some ⟨g3, 0, none⟩))]) (w' := W143) (by kernel_rfl) ?_
              refine RunF.y (ldv_y (d := some 50) (g := g3) (N := 4) (ty := 69) (k2 := (pin Go.Proofs.Try.f17 [1, 1, 1, 1, 1, 1, 1, 0] 1)) (nums .u8 t142) (by kernel_rfl) (by simp only [nums_length, bools_length, strs_length]; exact hNt142_0)) (hM.block 0 rfl) ?_
              refine RunF.go 1 [5, 50, 51] (k' := (pin Go.Proofs.Try.f17 [1, 1, 1, 1, 1, 1, 1, 0] 2)) (L' := [(5, .pointer (some ⟨g3, 0, none⟩)), (50, .agg (nums .u8 t142).toArray), (51, .agg (nums .i64 ([1, 0, 1, 0] : List Int)).toArray)]) (w' := W143) (by kernel_rfl) ?_
              obtain ⟨t145, ht145, h⟩ := Option.bind_eq_some_iff.mp h
              refine RunF.call (d := some 52) (g := 40) (args := #[.agg (nums .u8 t142).toArray, .agg (nums .i64 ([1, 0, 1, 0] : List Int)).toArray]) (k2 := (pin Go.Proofs.Try.f17 [1, 1, 1, 1, 1, 1, 1, 0] 3)) (by kernel_rfl) (scrimref9_stage.calls k t142 ([1, 0, 1, 0] : List Int) t145 _ hNt142_0 rfl ht145) ?_
              rintro _ W144 ⟨rfl, hNt145_0, hM_⟩
              replace hM := hM.call hM_
              clear hM_ ht145
              refine RunF.doesU (stv_u (N := 4) (cells := (nums .u8 t145).toArray) (old := (nums .u8 t142).toArray) (ty := 69) (k2 := (pin Go.Proofs.Try.f17 [1, 1, 1, 1, 1, 1, 1, 0] 4)) (by kernel_rfl) (by rw [List.size_toArray]; simp only [nums_length, bools_length, strs_length]; exact hNt145_0) (hM.block 0 rfl) (by rw [List.size_toArray]; simp only [nums_length, bools_length, strs_length]; exact hNt142_0) (all_nums _ _)) ?_
              replace hM : Mem w (W144.setRow g3 (nums .u8 t145).toArray) [⟨.pointer (some ⟨g3, 0, none⟩), 69, 0, nums .u8 t145⟩] := Mem.setAll [] [] (hM.pick [0] rfl rfl)
              generalize W144.setRow g3 (nums .u8 t145).toArray = W146 at hM ⊢
              refine RunF.go 8 [5, 57] (k' := (pin Go.Proofs.Try.f17 [1, 1, 1, 1, 1, 1, 1, 1, 0] 5)) (L' := [(5, .pointer (some ⟨g3, 0, none⟩)), (57, .agg (nums .u8 ([1, 239, 91, 91, 91, 239, 239, 1, 239, 91, 1, 239, 239, 1, 239, 91] : List Int)).toArray)]) (w' := W146) (by kernel_rfl) ?_
              refine RunF.newVar 76 (nums .u8 (List.replicate 16 (0 : Int))) (d := some 6) (k2 := (pin Go.Proofs.Try.f17 [1, 1, 1, 1, 1, 1, 1, 1, 0] 6)) hM (by kernel_rfl) ?_
              intro g147 W148 hM
              refine RunF.doesU (stv_u (N := 16) (cells := (nums .u8 ([1, 239, 91, 91, 91, 239, 239, 1, 239, 91, 1, 239, 239, 1, 239, 91] : List Int)).toArray) (old := (nums .u8 (List.replicate 16 (0 : Int))).toArray) (ty := 76) (k2 := (pin Go.Proofs.Try.f17 [1, 1, 1, 1, 1, 1, 1, 1, 0] 7)) (by kernel_rfl) (by rw [List.size_toArray]; simp only [nums_length, bools_length, strs_length]; exact rfl) (hM.block 0 rfl) (by rw [List.size_toArray]; simp only [nums_length, bools_length, strs_length]; exact List.length_replicate) (all_nums _ _)) ?_
              replace hM : Mem w (W148.setRow g147 (nums .u8 ([1, 239, 91, 91, 91, 239, 239, 1, 239, 91, 1, 239, 239, 1, 239, 91] : List Int)).toArray) [⟨.pointer (some ⟨g147, 0, none⟩), 76, 0, nums .u8 ([1, 239, 91, 91, 91, 239, 239, 1, 239, 91, 1, 239, 239, 1, 239, 91] : List Int)⟩, ⟨.pointer (some ⟨g3, 0, none⟩), 69, 0, nums .u8 t145⟩] := Mem.setAll [] [⟨.pointer (some ⟨g3, 0, none⟩), 69, 0, nums .u8 t145⟩] (hM.pick [0, 1] rfl rfl)
              generalize W148.setRow g147 (nums .u8 ([1, 239, 91, 91, 91, 239, 239, 1, 239, 91, 1, 239, 239, 1, 239, 91] : List Int)).toArray = W150 at hM ⊢
              refine RunF.go 12 [5, 6, 7, 8] (k' := (pl Go.Proofs.Try.f17 [1, 1, 1, 1, 1, 1, 1, 1, 1, 1, 0, 1, 0, 0])) (L' := [(5, .pointer (some ⟨g3, 0, none⟩)), (6, .pointer (some ⟨g147, 0, none⟩)), (7, .int .u32 0), (8, .int .i64 0)]) (w' := W150) (by kernel_rfl) ?_
              have l4 : ∀ (k_ : Nat), k_ ≤ k → ∀ (x7_4 : Int) (x8_4 : Int) (W : World) (hM : Mem w W [⟨.pointer (some ⟨g3, 0, none⟩), 69, 0, nums .u8 t145⟩, ⟨.pointer (some ⟨g147, 0, none⟩), 76, 0, nums .u8 ([1, 239, 91, 91, 91, 239, 239, 1, 239, 91, 1, 239, 239, 1, 239, 91] : List Int)⟩]) (h : scrimref9_H.l4 k_ t145 x7_4 x8_4 = some r), RunF Go.Proofs.Try.prog (Ret fun v w' => v = .int .u32 r ∧ Mem w w' []) 17 (pl Go.Proofs.Try.f17 [1, 1, 1, 1, 1, 1, 1, 1, 1, 1, 0, 1, 0, 0]) 83 [(5, .pointer (some ⟨g3, 0, none⟩)), (6, .pointer (some ⟨g147, 0, none⟩)), (7, .int .u32 x7_4), (8, .int .i64 x8_4)] W := by
                intro k_
                induction k_ using Nat.strongRecOn with
                | _ k_ ih4 =>
                  intro hk x7_4 x8_4 W hM h
                  cases k_ with
                  | zero => exact absurd h (by simp [scrimref9_H.l4])
                  | succ k =>
                    simp only [scrimref9_H.l4] at h
                    replace ih4 : ∀ m, m ≤ k → _ := fun m hm => ih4 m (by omega) (by omega)
                    refine RunF.go 6 [5, 6, 7, 8, 59] (k' := (pl Go.Proofs.Try.f17 [1, 1, 1, 1, 1, 1, 1, 1, 1, 1, 0, 1, 0, 0, 0, 1])) (L' := [(5, .pointer (some ⟨g3, 0, none⟩)), (6, .pointer (some ⟨g147, 0, none⟩)), (7, .int .u32 x7_4), (8, .int .i64 x8_4), (59, .bool (decide (x8_4 < 4)))]) (w' := W) (by kernel_rfl) ?_
                    rcases two (decide (x8_4 < 4)) with c151 | c151
                    · replace h := of_true h c151
                      refine RunF.know 59 (b := true) (by kernel_rfl) c151 ?_
                      refine RunF.go 10 [5, 6, 7, 8, 9] (k' := (pl Go.Proofs.Try.f17 [1, 1, 1, 1, 1, 1, 1, 1, 1, 1, 0, 1, 0, 0, 1, 0, 0, 1, 0, 0])) (L' := [(5, .pointer (some ⟨g3, 0, none⟩)), (6, .pointer (some ⟨g147, 0, none⟩)), (7, .int .u32 x7_4), (8, .int .i64 x8_4), (9, .int .i64 0)]) (w' := W) (by kernel_rfl) ?_
                      have l5 : ∀ (k_ : Nat), k_ ≤ k → ∀ (x7_5 : Int) (x9_5 : Int) (W : World) (hM : Mem w W [⟨.pointer (some ⟨g3, 0, none⟩), 69, 0, nums .u8 t145⟩, ⟨.pointer (some ⟨g147, 0, none⟩), 76, 0, nums .u8 ([1, 239, 91, 91, 91, 239, 239, 1, 239, 91, 1, 239, 239, 1, 239, 91] : List Int)⟩]) (h : scrimref9_H.l5 k_ t145 x8_4 x7_5 x9_5 = some r), RunF Go.Proofs.Try.prog (Ret fun v w' => v = .int .u32 r ∧ Mem w w' []) 17 (pl Go.Proofs.Try.f17 [1, 1, 1, 1, 1, 1, 1, 1, 1, 1, 0, 1, 0, 0, 1, 0, 0, 1, 0, 0]) 83 [(5, .pointer (some ⟨g3, 0, none⟩)), (6, .pointer (some ⟨g147, 0, none⟩)), (7, .int .u32 x7_5), (8, .int .i64 x8_4), (9, .int .i64 x9_5)] W := by
                        intro k_
                        induction k_ using Nat.strongRecOn with
                        | _ k_ ih5 =>
                          intro hk x7_5 x9_5 W hM h
                          cases k_ with
                          | zero => exact absurd h (by simp [scrimref9_H.l5])
                          | succ k =>
                            simp only [scrimref9_H.l5] at h
                            replace ih5 : ∀ m, m ≤ k → _ := fun m hm => ih5 m (by omega) (by omega)
                            replace ih4 : ∀ m, m ≤ k → _ := fun m hm => ih4 m (by omega)
                            refine RunF.go 6 [5, 6, 7, 8, 9, 63] (k' := (pl Go.Proofs.Try.f17 [1, 1, 1, 1, 1, 1, 1, 1, 1, 1, 0, 1, 0, 0, 1, 0, 0, 1, 0, 0, 0, 1])) (L' := [(5, .pointer (some ⟨g3, 0, none⟩)), (6, .pointer (some ⟨g147, 0, none⟩)), (7, .int .u32 x7_5), (8, .int .i64 x8_4), (9, .int .i64 x9_5), (63, .bool (decide (x9_5 < 4)))]) (w' := W) (by kernel_rfl) ?_
                            rcases two (decide (x9_5 < 4)) with c152 | c152
                            · replace h := of_true h c152
                              refine RunF.know 63 (b := true) (by kernel_rfl) c152 ?_
                              refine RunF.go 4 [5, 6, 7, 8, 9] (k' := (pl Go.Proofs.Try.f17 [1, 1, 1, 1, 1, 1, 1, 1, 1, 1, 0, 1, 0, 0, 1, 0, 0, 1, 0, 0, 1, 0, 0])) (L' := [(5, .pointer (some ⟨g3, 0, none⟩)), (6, .pointer (some ⟨g147, 0, none⟩)), (7, .int .u32 x7_5), (8, .int .i64 x8_4), (9, .int .i64 x9_5)]) (w' := W) (by kernel_rfl) ?_
                              refine RunF.draw (Still ({ W with drawn := W.drawn + 1 } : World) []) (by kernel_rfl) (by kernel_rfl) ?_
                              have hMd154 := hM.drew
                              have hS := Still.refl ({ W with drawn := W.drawn + 1 } : World) []
                              generalize ({ W with drawn := W.drawn + 1 } : World) = W153 at hMd154 hS ⊢
                              replace hM := hMd154
                              refine RunAny.y 0 (by kernel_rfl) (yl_pure (d := some 66) (v := .int .u32 x7_5) (k2 := [.inRegion (opsOf (pl Go.Proofs.Try.f17 [1, 1, 1, 1, 1, 1, 1, 1, 1, 1, 0, 1, 0, 0, 1, 0, 0, 1, 0, 0, 1, 0, 0])) []]) fun w => by kernel_rfl) (fun _ _ => trivial) hS ?_
                              refine RunAny.y 1 (by kernel_rfl) (yl_pure (d := some 67) (v := .int .i64 x8_4) (k2 := [.inRegion (opsOf (pl Go.Proofs.Try.f17 [1, 1, 1, 1, 1, 1, 1, 1, 1, 1, 0, 1, 0, 0, 1, 0, 0, 1, 0, 0, 1, 0, 0])) []]) fun w => by kernel_rfl) (fun _ _ => trivial) hS ?_
                              refine RunAny.y 2 (by kernel_rfl) (yl_pure (d := some 68) (v := .int .i64 x9_5) (k2 := [.inRegion (opsOf (pl Go.Proofs.Try.f17 [1, 1, 1, 1, 1, 1, 1, 1, 1, 1, 0, 1, 0, 0, 1, 0, 0, 1, 0, 0, 1, 0, 0])) []]) fun w => by kernel_rfl) (fun _ _ => trivial) hS ?_
                              rcases two (decide (0 ≤ x8_4)) with c156 | c156
                              · replace h := of_true h c156
                                rcases two (decide (x8_4 < (4 : Int))) with c157 | c157
                                · replace h := of_true h c157
                                  have hbq158 : 0 ≤ (x8_4 * (4 : Int)) ∧ (x8_4 * (4 : Int)) + 4 ≤ 16 := by have h1_ : 0 ≤ x8_4 := (of_decide_eq_true c156); have h2_ : x8_4 < (4 : Int) := (of_decide_eq_true c157); omega
                                  refine RunAny.y 3 (by kernel_rfl) (idxArr_row (d := some 69) (g := g147) (len := 4) (sz := 4) (i := x8_4) (k2 := [.inRegion (opsOf (pl Go.Proofs.Try.f17 [1, 1, 1, 1, 1, 1, 1, 1, 1, 1, 0, 1, 0, 0, 1, 0, 0, 1, 0, 0, 1, 0, 0])) []]) (by kernel_rfl) (of_decide_eq_true c156) (of_decide_eq_true c157)) (fun _ _ => trivial) hS ?_
                                  rcases two (decide (0 ≤ x9_5)) with c160 | c160
                                  · replace h := of_true h c160
                                    rcases two (decide (x9_5 < (4 : Int))) with c161 | c161
                                    · replace h := of_true h c161
                                      have hiq159 : 0 ≤ (x8_4 * (4 : Int)) + x9_5 ∧ (x8_4 * (4 : Int)) + x9_5 < 16 := by have h1_ : 0 ≤ x9_5 := (of_decide_eq_true c160); have h2_ : x9_5 < (4 : Int) := (of_decide_eq_true c161); omega
                                      obtain ⟨hcq159, hfq159, hlq159⟩ := hM.arr_num 1 rfl (i := (x8_4 * (4 : Int)) + x9_5) hiq159.1 (N := 16) rfl hiq159.2
                                      refine RunAny.y 4 (by kernel_rfl) (idxArr_in (d := some 70) (g := g147) (len := 4) (e := (x8_4 * (4 : Int))) (i := x9_5) (k2 := [.inRegion (opsOf (pl Go.Proofs.Try.f17 [1, 1, 1, 1, 1, 1, 1, 1, 1, 1, 0, 1, 0, 0, 1, 0, 0, 1, 0, 0, 1, 0, 0])) []]) (by kernel_rfl) hbq158.1 (of_decide_eq_true c160) (of_decide_eq_true c161)) (fun _ _ => trivial) hS ?_
                                      refine RunAny.y 5 (by kernel_rfl) (ld_y (d := some 71) (p := ⟨g147, ((x8_4 * (4 : Int)) + x9_5).toNat, none⟩) (k2 := [.inRegion (opsOf (pl Go.Proofs.Try.f17 [1, 1, 1, 1, 1, 1, 1, 1, 1, 1, 0, 1, 0, 0, 1, 0, 0, 1, 0, 0, 1, 0, 0])) []]) (.int .u8 (rd ([1, 239, 91, 91, 91, 239, 239, 1, 239, 91, 1, 239, 239, 1, 239, 91] : List Int) ((x8_4 * (4 : Int)) + x9_5))) (by kernel_rfl)) (fun _ hs => hs.cell hcq159 (by simp)) hS ?_
                                      refine RunAny.y 6 (by kernel_rfl) (yl_pure (d := some 72) (v := .int .i64 x9_5) (k2 := [.inRegion (opsOf (pl Go.Proofs.Try.f17 [1, 1, 1, 1, 1, 1, 1, 1, 1, 1, 0, 1, 0, 0, 1, 0, 0, 1, 0, 0, 1, 0, 0])) []]) fun w => by kernel_rfl) (fun _ _ => trivial) hS ?_
                                      rcases two (decide (0 ≤ x9_5)) with c163 | c163
                                      · replace h := of_true h c163
                                        rcases two (decide (x9_5 < (4 : Int))) with c164 | c164
                                        · replace h := of_true h c164
                                          obtain ⟨hcq162, hfq162, hlq162⟩ := hM.arr_num 0 rfl (i := x9_5) (of_decide_eq_true c163) (N := 4) hNt145_0 (of_decide_eq_true c164)
                                          refine RunAny.y 7 (by kernel_rfl) (idxArr_own (d := some 73) (g := g3) (len := 4) (i := x9_5) (k2 := [.inRegion (opsOf (pl Go.Proofs.Try.f17 [1, 1, 1, 1, 1, 1, 1, 1, 1, 1, 0, 1, 0, 0, 1, 0, 0, 1, 0, 0, 1, 0, 0])) []]) (by kernel_rfl) (of_decide_eq_true c163) (of_decide_eq_true c164)) (fun _ _ => trivial) hS ?_
                                          refine RunAny.y 8 (by kernel_rfl) (ld_y (d := some 74) (p := ⟨g3, (x9_5 : Int).toNat, none⟩) (k2 := [.inRegion (opsOf (pl Go.Proofs.Try.f17 [1, 1, 1, 1, 1, 1, 1, 1, 1, 1, 0, 1, 0, 0, 1, 0, 0, 1, 0, 0, 1, 0, 0])) []]) (.int .u8 (rd t145 x9_5)) (by kernel_rfl)) (fun _ hs => hs.cell hcq162 (by simp)) hS ?_
                                          refine RunAny.y 11 (by kernel_rfl) (yl_pure (d := some 77) (v := .int .i64 x8_4) (k2 := [.inRegion (opsOf (pl Go.Proofs.Try.f17 [1, 1, 1, 1, 1, 1, 1, 1, 1, 1, 0, 1, 0, 0, 1, 0, 0, 1, 0, 0, 1, 0, 0])) []]) fun w => by kernel_rfl) (fun _ _ => trivial) hS ?_
                                          refine RunAny.y 12 (by kernel_rfl) (yl_pure (d := some 78) (v := .int .i64 (I64 (8 * x8_4))) (k2 := [.inRegion (opsOf (pl Go.Proofs.Try.f17 [1, 1, 1, 1, 1, 1, 1, 1, 1, 1, 0, 1, 0, 0, 1, 0, 0, 1, 0, 0, 1, 0, 0])) []]) fun w => by kernel_rfl) (fun _ _ => trivial) hS ?_
                                          refine RunAny.y 13 (by kernel_rfl) (yl_pure (d := some 79) (v := .int .u64 (U64 (I64 (8 * x8_4)))) (k2 := [.inRegion (opsOf (pl Go.Proofs.Try.f17 [1, 1, 1, 1, 1, 1, 1, 1, 1, 1, 0, 1, 0, 0, 1, 0, 0, 1, 0, 0, 1, 0, 0])) []]) fun w => by kernel_rfl) (fun _ _ => trivial) hS ?_
                                          obtain ⟨t166, ht166, h⟩ := Option.bind_eq_some_iff.mp h
                                          refine RunAny.call 9 (d := some 75) (g := 41) (args := #[.int .u8 (rd ([1, 239, 91, 91, 91, 239, 239, 1, 239, 91, 1, 239, 239, 1, 239, 91] : List Int) ((x8_4 * (4 : Int)) + x9_5)), .int .u8 (rd t145 x9_5), .int .i64 361]) (by kernel_rfl) (by kernel_rfl) (scrimref3_Mul.calls k (rd ([1, 239, 91, 91, 91, 239, 239, 1, 239, 91, 1, 239, 239, 1, 239, 91] : List Int) ((x8_4 * (4 : Int)) + x9_5)) (rd t145 x9_5) 361 t166 _ ht166) (by rintro _ _ ⟨rfl, hM_⟩; exact hS.below hM_.below) ?_
                                          rintro _ W165 ⟨rfl, hM_⟩
                                          replace hS := hS.below hM_.below
                                          replace hM := hM.call hM_
                                          clear hM_ ht166
                                          refine RunAny.rebase hS ?_
                                          replace hS := Still.refl W165 []
                                          refine RunAny.y 10 (by kernel_rfl) (yl_pure (d := some 76) (v := .int .u32 (U32 (t166))) (k2 := [.inRegion (opsOf (pl Go.Proofs.Try.f17 [1, 1, 1, 1, 1, 1, 1, 1, 1, 1, 0, 1, 0, 0, 1, 0, 0, 1, 0, 0, 1, 0, 0])) []]) fun w => by kernel_rfl) (fun _ _ => trivial) hS ?_
                                          rcases two (decide (0 ≤ (U64 (I64 (8 * x8_4))))) with c167 | c167
                                          · replace h := of_true h c167
                                            refine RunAny.y 14 (by kernel_rfl) (sh_y (d := some 80) (b := true) (kd := .u32) (x := U32 (t166)) (y := U64 (I64 (8 * x8_4))) (k2 := [.inRegion (opsOf (pl Go.Proofs.Try.f17 [1, 1, 1, 1, 1, 1, 1, 1, 1, 1, 0, 1, 0, 0, 1, 0, 0, 1, 0, 0, 1, 0, 0])) []]) (by kernel_rfl) c167) (fun _ _ => trivial) hS ?_
                                            refine RunAny.y 15 (by kernel_rfl) (yl_pure (d := some 81) (v := .int .u32 (bxor .u32 x7_5 (shlv .u32 (U32 (t166)) (U64 (I64 (8 * x8_4)))))) (k2 := [.inRegion (opsOf (pl Go.Proofs.Try.f17 [1, 1, 1, 1, 1, 1, 1, 1, 1, 1, 0, 1, 0, 0, 1, 0, 0, 1, 0, 0, 1, 0, 0])) []]) fun w => by kernel_rfl) (fun _ _ => trivial) hS ?_
                                            refine RunAny.y 16 (by kernel_rfl) (yl_pure (d := some 7) (v := .int .u32 (bxor .u32 x7_5 (shlv .u32 (U32 (t166)) (U64 (I64 (8 * x8_4)))))) (k2 := [.inRegion (opsOf (pl Go.Proofs.Try.f17 [1, 1, 1, 1, 1, 1, 1, 1, 1, 1, 0, 1, 0, 0, 1, 0, 0, 1, 0, 0, 1, 0, 0])) []]) fun w => by kernel_rfl) (fun _ _ => trivial) hS ?_
                                            refine RunAny.done (by kernel_rfl) ?_
                                            clear hS
                                            refine RunF.go 7 [5, 6, 7, 8, 9] (k' := (pl Go.Proofs.Try.f17 [1, 1, 1, 1, 1, 1, 1, 1, 1, 1, 0, 1, 0, 0, 1, 0, 0, 1, 0, 0])) (L' := [(5, .pointer (some ⟨g3, 0, none⟩)), (6, .pointer (some ⟨g147, 0, none⟩)), (7, .int .u32 (bxor .u32 x7_5 (shlv .u32 (U32 (t166)) (U64 (I64 (8 * x8_4)))))), (8, .int .i64 x8_4), (9, .int .i64 (I64 (x9_5 + 1)))]) (w' := W165) (by kernel_rfl) ?_
                                            obtain ⟨y168, hy, h⟩ := Option.bind_eq_some_iff.mp h
                                            rw [show (bxor .u32 x7_5 (shlv .u32 (U32 (t166)) (U64 (I64 (8 * x8_4))))) = y168 from Option.some.inj hy]
                                            clear hy
                                            exact ih5 k (by omega) y168 (I64 (x9_5 + 1)) _ (hM.pick [0, 1] rfl rfl) h
                                          · replace h := of_false h c167
                                            cases h
                                        · replace h := of_false h c164
                                          cases h
                                      · replace h := of_false h c163
                                        cases h
                                    · replace h := of_false h c161
                                      cases h
                                  · replace h := of_false h c160
                                    cases h
                                · replace h := of_false h c157
                                  cases h
                              · replace h := of_false h c156
                                cases h
                            · replace h := of_false h c152
                              refine RunF.know 63 (b := false) (by kernel_rfl) c152 ?_
                              refine RunF.go 9 [5, 6, 7, 8] (k' := (pl Go.Proofs.Try.f17 [1, 1, 1, 1, 1, 1, 1, 1, 1, 1, 0, 1, 0, 0])) (L' := [(5, .pointer (some ⟨g3, 0, none⟩)), (6, .pointer (some ⟨g147, 0, none⟩)), (7, .int .u32 x7_5), (8, .int .i64 (I64 (x8_4 + 1)))]) (w' := W) (by kernel_rfl) ?_
                              exact ih4 k (by omega) x7_5 (I64 (x8_4 + 1)) _ (hM.pick [0, 1] rfl rfl) h
                      exact l5 k (Nat.le_refl _) x7_4 0 _ (hM.pick [0, 1] rfl rfl) h
                    · replace h := of_false h c151
                      refine RunF.know 59 (b := false) (by kernel_rfl) c151 ?_
                      refine RunF.go 7 [4] (k' := (pl Go.Proofs.Try.f17 [1, 1, 1, 1, 1, 1, 1, 1, 1, 1, 1, 1])) (L' := [(4, .int .u32 x7_4)]) (w' := W) (by kernel_rfl) ?_
                      obtain rfl := Option.some.inj h
                      exact RunF.ret1 4 (.int .u32 x7_4) (fn := Go.Proofs.Try.f17) Go.Proofs.Try.func17 (by kernel_rfl) (by kernel_rfl) (by kernel_rfl) ⟨_, rfl, rfl, (hM.pick [] rfl rfl)⟩
              exact l4 k (Nat.le_refl _) 0 0 _ (hM.pick [1, 0] rfl rfl) h
            · replace h := of_false h c138
              cases h
          · replace h := of_false h c129
            cases h
      · replace h := of_false h c119
        cases h
    · replace h := of_false h c115
      refine RunF.know 25 (b := false) (by kernel_rfl) c115 ?_
      refine RunF.go 9 [1, 5, 35] (k' := (pl Go.Proofs.Try.f17 [1, 1, 1, 1, 0, 1])) (L' := [(1, .slice Ap1 a1.length cp1), (5, .pointer (some ⟨g3, 0, none⟩)), (35, .bool (decide ((a1.length : Int) < 2)))]) (w' := W6) (by kernel_rfl) ?_
      rcases two (decide ((a1.length : Int) < 2)) with c169 | c169
      · replace h := of_true h c169
        refine RunF.know 35 (b := true) (by kernel_rfl) c169 ?_
        refine RunF.go 5 [4] (k' := (pl Go.Proofs.Try.f17 [1, 1, 1, 1, 0, 1, 0, 1])) (L' := [(4, .int .u32 0)]) (w' := W6) (by kernel_rfl) ?_
        obtain rfl := Option.some.inj h
        exact RunF.ret1 4 (.int .u32 0) (fn := Go.Proofs.Try.f17) Go.Proofs.Try.func17 (by kernel_rfl) (by kernel_rfl) (by kernel_rfl) ⟨_, rfl, rfl, (hM.pick [] rfl rfl)⟩
      · replace h := of_false h c169
        refine RunF.know 35 (b := false) (by kernel_rfl) c169 ?_
        refine RunF.go 3 [1, 5] (k' := (pl Go.Proofs.Try.f17 [1, 1, 1, 1, 1, 0])) (L' := [(1, .slice Ap1 a1.length cp1), (5, .pointer (some ⟨g3, 0, none⟩))]) (w' := W6) (by kernel_rfl) ?_
        refine RunF.draw (Still ({ W6 with drawn := W6.drawn + 1 } : World) [.pointer (some ⟨g3, 0, none⟩)]) (by kernel_rfl) (by kernel_rfl) ?_
        have hMd171 := hM.drew
        have hS := Still.refl ({ W6 with drawn := W6.drawn + 1 } : World) [.pointer (some ⟨g3, 0, none⟩)]
        generalize ({ W6 with drawn := W6.drawn + 1 } : World) = W170 at hMd171 hS ⊢
        replace hM := hMd171
        refine RunAny.y 1 (by kernel_rfl) (yl_pure (d := some 37) (v := .agg (nums .i64 ([0, 1, 0, 1] : List Int)).toArray) (k2 := [.inRegion (opsOf (pl Go.Proofs.Try.f17 [1, 1, 1, 1, 1, 0])) []]) fun w => by kernel_rfl) (fun _ _ => trivial) hS ?_
        refine RunAny.y 3 (by kernel_rfl) (yl_pure (d := some 39) (v := .slice Ap1 a1.length cp1) (k2 := [.inRegion (opsOf (pl Go.Proofs.Try.f17 [1, 1, 1, 1, 1, 0])) []]) fun w => by kernel_rfl) (fun _ _ => trivial) hS ?_
        rcases two (decide (1 < (a1.length : Int))) with c173 | c173
        · replace h := of_true h c173
          obtain ⟨q172, hAq172, hiq172⟩ := Rd.num hr1 (i := 1) (by omega) (by have h_ := of_decide_eq_true c173; omega)
          have hcq172 := (hM.below.cell (World.block_lt_of_cell? _ _ hiq172)).trans hiq172
          refine RunAny.y 4 (by kernel_rfl) (idx_y (d := some 40) (A := Ap1) (m := a1.length) (i := 1) (k2 := [.inRegion (opsOf (pl Go.Proofs.Try.f17 [1, 1, 1, 1, 1, 0])) []]) (by kernel_rfl) (by omega) (by have h_ := of_decide_eq_true c173; omega) hAq172) (fun _ _ => trivial) hS ?_
          refine RunAny.y 5 (by kernel_rfl) (ld_y (d := some 41) (p := (q172.add (1 : Int).toNat)) (k2 := [.inRegion (opsOf (pl Go.Proofs.Try.f17 [1, 1, 1, 1, 1, 0])) []]) (.int .u32 (rd a1 1)) (by kernel_rfl)) (fun _ hs => hs.cell hcq172 (by intro v hv; simp only [List.mem_cons, List.not_mem_nil, or_false] at hv; rcases hv with rfl; exact (hM.far hiq172 0 rfl))) hS ?_
          refine RunAny.does 0 (by kernel_rfl) ((ldv_y (d := some 36) (g := g3) (N := 4) (ty := 69) (k2 := [.inRegion (opsOf (pl Go.Proofs.Try.f17 [1, 1, 1, 1, 1, 0])) []]) (nums .u8 t2) (by kernel_rfl) (by simp only [nums_length, bools_length, strs_length]; exact hNt2_0)).does (hM.block 0 rfl)) hS ?_
          obtain ⟨t175, ht175, h⟩ := Option.bind_eq_some_iff.mp h
          refine RunAny.call 2 (d := some 38) (g := 40) (args := #[.agg (nums .u8 t2).toArray, .agg (nums .i64 ([0, 1, 0, 1] : List Int)).toArray]) (by kernel_rfl) (by kernel_rfl) (scrimref9_stage.calls k t2 ([0, 1, 0, 1] : List Int) t175 _ hNt2_0 rfl ht175) (by rintro _ _ ⟨rfl, _, hM_⟩; exact hS.below hM_.below) ?_
          rintro _ W174 ⟨rfl, hNt175_0, hM_⟩
          replace hS := hS.below hM_.below
          replace hM := hM.call hM_
          clear hM_ ht175
          refine RunAny.rebase hS ?_
          replace hS := Still.refl W174 [.pointer (some ⟨g3, 0, none⟩)]
          obtain ⟨t177, ht177, h⟩ := Option.bind_eq_some_iff.mp h
          refine RunAny.call 6 (d := some 42) (g := 39) (args := #[.agg (nums .u8 t175).toArray, .int .u32 (rd a1 1)]) (by kernel_rfl) (by kernel_rfl) (scrimref9_laid.calls k t175 (rd a1 1) t177 _ hNt175_0 ht177) (by rintro _ _ ⟨rfl, _, hM_⟩; exact hS.below hM_.below) ?_
          rintro _ W176 ⟨rfl, hNt177_0, hM_⟩
          replace hS := hS.below hM_.below
          replace hM := hM.call hM_
          clear hM_ ht177
          refine RunAny.rebase hS ?_
          replace hS := Still.refl W176 [.pointer (some ⟨g3, 0, none⟩)]
          have hS' := hS.setRow (v := .pointer (some ⟨g3, 0, none⟩)) (g := g3) (by simp) rfl (nums .u8 t177).toArray
          refine RunAny.doesU 7 (by kernel_rfl) (stv_u (N := 4) (cells := (nums .u8 t177).toArray) (old := (nums .u8 t2).toArray) (ty := 69) (k2 := [.inRegion (opsOf (pl Go.Proofs.Try.f17 [1, 1, 1, 1, 1, 0])) []]) (by kernel_rfl) (by rw [List.size_toArray]; simp only [nums_length, bools_length, strs_length]; exact hNt177_0) (hM.block 0 rfl) (by rw [List.size_toArray]; simp only [nums_length, bools_length, strs_length]; exact hNt2_0) (all_nums _ _)) hS' ?_
          replace hM : Mem w (W176.setRow g3 (nums .u8 t177).toArray) [⟨.pointer (some ⟨g3, 0, none⟩), 69, 0, nums .u8 t177⟩] := Mem.setAll [] [] (hM.pick [0] rfl rfl)
          generalize W176.setRow g3 (nums .u8 t177).toArray = W178 at hM hS' ⊢
          replace hS := hS'
          refine RunAny.rebase hS ?_
          replace hS := Still.refl W178 [.pointer (some ⟨g3, 0, none⟩)]
          refine RunAny.done (by kernel_rfl) ?_
          clear hS
          refine RunF.go 1 [1, 5] (k' := (pl Go.Proofs.Try.f17 [1, 1, 1, 1, 1, 1, 0])) (L' := [(1, .slice Ap1 a1.length cp1), (5, .pointer (some ⟨g3, 0, none⟩))]) (w' := W178) (by kernel_rfl) ?_
          refine RunF.draw (Still ({ W178 with drawn := W178.drawn + 1 } : World) [.pointer (some ⟨g3, 0, none⟩)]) (by kernel_rfl) (by kernel_rfl) ?_
          have hMd180 := hM.drew
          have hS := Still.refl ({ W178 with drawn := W178.drawn + 1 } : World) [.pointer (some ⟨g3, 0, none⟩)]
          generalize ({ W178 with drawn := W178.drawn + 1 } : World) = W179 at hMd180 hS ⊢
          replace hM := hMd180
          refine RunAny.y 1 (by kernel_rfl) (yl_pure (d := some 44) (v := .agg (nums .i64 ([0, 0, 1, 1] : List Int)).toArray) (k2 := [.inRegion (opsOf (pl Go.Proofs.Try.f17 [1, 1, 1, 1, 1, 1, 0])) []]) fun w => by kernel_rfl) (fun _ _ => trivial) hS ?_
          refine RunAny.y 3 (by kernel_rfl) (yl_pure (d := some 46) (v := .slice Ap1 a1.length cp1) (k2 := [.inRegion (opsOf (pl Go.Proofs.Try.f17 [1, 1, 1, 1, 1, 1, 0])) []]) fun w => by kernel_rfl) (fun _ _ => trivial) hS ?_
          rcases two (decide (0 < (a1.length : Int))) with c182 | c182
          · replace h := of_true h c182
            obtain ⟨q181, hAq181, hiq181⟩ := Rd.num hr1 (i := 0) (by omega) (by have h_ := of_decide_eq_true c182; omega)
            have hcq181 := (hM.below.cell (World.block_lt_of_cell? _ _ hiq181)).trans hiq181
            refine RunAny.y 4 (by kernel_rfl) (idx_y (d := some 47) (A := Ap1) (m := a1.length) (i := 0) (k2 := [.inRegion (opsOf (pl Go.Proofs.Try.f17 [1, 1, 1, 1, 1, 1, 0])) []]) (by kernel_rfl) (by omega) (by have h_ := of_decide_eq_true c182; omega) hAq181) (fun _ _ => trivial) hS ?_
            refine RunAny.y 5 (by kernel_rfl) (ld_y (d := some 48) (p := (q181.add (0 : Int).toNat)) (k2 := [.inRegion (opsOf (pl Go.Proofs.Try.f17 [1, 1, 1, 1, 1, 1, 0])) []]) (.int .u32 (rd a1 0)) (by kernel_rfl)) (fun _ hs => hs.cell hcq181 (by intro v hv; simp only [List.mem_cons, List.not_mem_nil, or_false] at hv; rcases hv with rfl; exact (hM.far hiq181 0 rfl))) hS ?_
            refine RunAny.does 0 (by kernel_rfl) ((ldv_y (d := some 43) (g := g3) (N := 4) (ty := 69) (k2 := [.inRegion (opsOf (pl Go.Proofs.Try.f17 [1, 1, 1, 1, 1, 1, 0])) []]) (nums .u8 t177) (by kernel_rfl) (by simp only [nums_length, bools_length, strs_length]; exact hNt177_0)).does (hM.block 0 rfl)) hS ?_
            obtain ⟨t184, ht184, h⟩ := Option.bind_eq_some_iff.mp h
            refine RunAny.call 2 (d := some 45) (g := 40) (args := #[.agg (nums .u8 t177).toArray, .agg (nums .i64 ([0, 0, 1, 1] : List Int)).toArray]) (by kernel_rfl) (by kernel_rfl) (scrimref9_stage.calls k t177 ([0, 0, 1, 1] : List Int) t184 _ hNt177_0 rfl ht184) (by rintro _ _ ⟨rfl, _, hM_⟩; exact hS.below hM_.below) ?_
            rintro _ W183 ⟨rfl, hNt184_0, hM_⟩
            replace hS := hS.below hM_.below
            replace hM := hM.call hM_
            clear hM_ ht184
            refine RunAny.rebase hS ?_
            replace hS := Still.refl W183 [.pointer (some ⟨g3, 0, none⟩)]
            obtain ⟨t186, ht186, h⟩ := Option.bind_eq_some_iff.mp h
            refine RunAny.call 6 (d := some 49) (g := 39) (args := #[.agg (nums .u8 t184).toArray, .int .u32 (rd a1 0)]) (by kernel_rfl) (by kernel_rfl) (scrimref9_laid.calls k t184 (rd a1 0) t186 _ hNt184_0 ht186) (by rintro _ _ ⟨rfl, _, hM_⟩; exact hS.below hM_.below) ?_
            rintro _ W185 ⟨rfl, hNt186_0, hM_⟩
            replace hS := hS.below hM_.below
            replace hM := hM.call hM_
            clear hM_ ht186
            refine RunAny.rebase hS ?_
            replace hS := Still.refl W185 [.pointer (some ⟨g3, 0, none⟩)]
            have hS' := hS.setRow (v := .pointer (some ⟨g3, 0, none⟩)) (g := g3) (by simp) rfl (nums .u8 t186).toArray
            refine RunAny.doesU 7 (by kernel_rfl) (stv_u (N := 4) (cells := (nums .u8 t186).toArray) (old := (nums .u8 t177).toArray) (ty := 69) (k2 := [.inRegion (opsOf (pl Go.Proofs.Try.f17 [1, 1, 1, 1, 1, 1, 0])) []]) (by kernel_rfl) (by rw [List.size_toArray]; simp only [nums_length, bools_length, strs_length]; exact hNt186_0) (hM.block 0 rfl) (by rw [List.size_toArray]; simp only [nums_length, bools_length, strs_length]; exact hNt177_0) (all_nums _ _)) hS' ?_
            replace hM : Mem w (W185.setRow g3 (nums .u8 t186).toArray) [⟨.pointer (some ⟨g3, 0, none⟩), 69, 0, nums .u8 t186⟩] := Mem.setAll [] [] (hM.pick [0] rfl rfl)
            generalize W185.setRow g3 (nums .u8 t186).toArray = W187 at hM hS' ⊢
            replace hS := hS'
            refine RunAny.rebase hS ?_
            replace hS := Still.refl W187 [.pointer (some ⟨g3, 0, none⟩)]
            refine RunAny.done (by kernel_rfl) ?_
            clear hS
            refine RunF.go 2 [5] (k' := (pin Go.Proofs.Try.f17 [1, 1, 1, 1, 1, 1, 1, 0] 0)) (L' := [(5, .pointer (some ⟨g3, 0, none⟩))]) (w' := W187) (by kernel_rfl) ?_
            refine RunF.y (ldv_y (d := some 50) (g := g3) (N := 4) (ty := 69) (k2 := (pin Go.Proofs.Try.f17 [1, 1, 1, 1, 1, 1, 1, 0] 1)) (nums .u8 t186) (by kernel_rfl) (by simp only [nums_length, bools_length, strs_length]; exact hNt186_0)) (hM.block 0 rfl) ?_
            refine RunF.go 1 [5, 50, 51] (k' := (pin Go.Proofs.Try.f17 [1, 1, 1, 1, 1, 1, 1, 0] 2)) (L' := [(5, .pointer (some ⟨g3, 0, none⟩)), (50, .agg (nums .u8 t186).toArray), (51, .agg (nums .i64 ([1, 0, 1, 0] : List Int)).toArray)]) (w' := W187) (by kernel_rfl) ?_
            obtain ⟨t189, ht189, h⟩ := Option.bind_eq_some_iff.mp h
            refine RunF.call (d := some 52) (g := 40) (args := #[.agg (nums .u8 t186).toArray, .agg (nums .i64 ([1, 0, 1, 0] : List Int)).toArray]) (k2 := (pin Go.Proofs.Try.f17 [1, 1, 1, 1, 1, 1, 1, 0] 3)) (by kernel_rfl) (scrimref9_stage.calls k t186 ([1, 0, 1, 0] : List Int) t189 _ hNt186_0 rfl ht189) ?_
            rintro _ W188 ⟨rfl, hNt189_0, hM_⟩
            replace hM := hM.call hM_
            clear hM_ ht189
            refine RunF.doesU (stv_u (N := 4) (cells := (nums .u8 t189).toArray) (old := (nums .u8 t186).toArray) (ty := 69) (k2 := (pin Go.Proofs.Try.f17 [1, 1, 1, 1, 1, 1, 1, 0] 4)) (by kernel_rfl) (by rw [List.size_toArray]; simp only [nums_length, bools_length, strs_length]; exact hNt189_0) (hM.block 0 rfl) (by rw [List.size_toArray]; simp only [nums_length, bools_length, strs_length]; exact hNt186_0) (all_nums _ _)) ?_
            replace hM : Mem w (W188.setRow g3 (nums .u8 t189).toArray) [⟨.pointer (some ⟨g3, 0, none⟩), 69, 0, nums .u8 t189⟩] := Mem.setAll [] [] (hM.pick [0] rfl rfl)
            generalize W188.setRow g3 (nums .u8 t189).toArray = W190 at hM ⊢
            refine RunF.go 8 [5, 57] (k' := (pin Go.Proofs.Try.f17 [1, 1, 1, 1, 1, 1, 1, 1, 0] 5)) (L' := [(5, .pointer (some ⟨g3, 0, none⟩)), (57, .agg (nums .u8 ([1, 239, 91, 91, 91, 239, 239, 1, 239, 91, 1, 239, 239, 1, 239, 91] : List Int)).toArray)]) (w' := W190) (by kernel_rfl) ?_
            refine RunF.newVar 76 (nums .u8 (List.replicate 16 (0 : Int))) (d := some 6) (k2 := (pin Go.Proofs.Try.f17 [1, 1, 1, 1, 1, 1, 1, 1, 0] 6)) hM (by kernel_rfl) ?_
            intro g191 W192 hM
            refine RunF.doesU (stv_u (N := 16) (cells := (nums .u8 ([1, 239, 91, 91, 91, 239, 239, 1, 239, 91, 1, 239, 239, 1, 239, 91] : List Int)).toArray) (old := (nums .u8 (List.replicate 16 (0 : Int))).toArray) (ty := 76) (k2 := (pin Go.Proofs.Try.f17 [1, 1, 1, 1, 1, 1, 1, 1, 0] 7)) (by kernel_rfl) (by rw [List.size_toArray]; simp only [nums_length, bools_length, strs_length]; exact rfl) (hM.block 0 rfl) (by rw [List.size_toArray]; simp only [nums_length, bools_length, strs_length]; exact List.length_replicate) (all_nums _ _)) ?_
            replace hM : Mem w (W192.setRow g191 (nums .u8 ([1, 239, 91, 91, 91, 239, 239, 1, 239, 91, 1, 239, 239, 1, 239, 91] : List Int)).toArray) [⟨.pointer (some ⟨g191, 0, none⟩), 76, 0, nums .u8 ([1, 239, 91, 91, 91, 239, 239, 1, 239, 91, 1, 239, 239, 1, 239, 91] : List Int)⟩, ⟨.pointer (some ⟨g3, 0, none⟩), 69, 0, nums .u8 t189⟩] := Mem.setAll [] [⟨.pointer (some ⟨g3, 0, none⟩), 69, 0, nums .u8 t189⟩] (hM.pick [0, 1] rfl rfl)
            generalize W192.setRow g191 (nums .u8 ([1, 239, 91, 91, 91, 239, 239, 1, 239, 91, 1, 239, 239, 1, 239, 91] : List Int)).toArray = W194 at hM ⊢
            refine RunF.go 12 [5, 6, 7, 8] (k' := (pl Go.Proofs.Try.f17 [1, 1, 1, 1, 1, 1, 1, 1, 1, 1, 0, 1, 0, 0])) (L' := [(5, .pointer (some ⟨g3, 0, none⟩)), (6, .pointer (some ⟨g191, 0, none⟩)), (7, .int .u32 0), (8, .int .i64 0)]) (w' := W194) (by kernel_rfl) ?_
            have l6 : ∀ (k_ : Nat), k_ ≤ k → ∀ (x7_6 : Int) (x8_6 : Int) (W : World) (hM : Mem w W [⟨.pointer (some ⟨g3, 0, none⟩), 69, 0, nums .u8 t189⟩, ⟨.pointer (some ⟨g191, 0, none⟩), 76, 0, nums .u8 ([1, 239, 91, 91, 91, 239, 239, 1, 239, 91, 1, 239, 239, 1, 239, 91] : List Int)⟩]) (h : scrimref9_H.l6 k_ t189 x7_6 x8_6 = some r), RunF Go.Proofs.Try.prog (Ret fun v w' => v = .int .u32 r ∧ Mem w w' []) 17 (pl Go.Proofs.Try.f17 [1, 1, 1, 1, 1, 1, 1, 1, 1, 1, 0, 1, 0, 0]) 83 [(5, .pointer (some ⟨g3, 0, none⟩)), (6, .pointer (some ⟨g191, 0, none⟩)), (7, .int .u32 x7_6), (8, .int .i64 x8_6)] W := by
              intro k_
              induction k_ using Nat.strongRecOn with
              | _ k_ ih6 =>
                intro hk x7_6 x8_6 W hM h
                cases k_ with
                | zero => exact absurd h (by simp [scrimref9_H.l6])
                | succ k =>
                  simp only [scrimref9_H.l6] at h
                  replace ih6 : ∀ m, m ≤ k → _ := fun m hm => ih6 m (by omega) (by omega)
                  refine RunF.go 6 [5, 6, 7, 8, 59] (k' := (pl Go.Proofs.Try.f17 [1, 1, 1, 1, 1, 1, 1, 1, 1, 1, 0, 1, 0, 0, 0, 1])) (L' := [(5, .pointer (some ⟨g3, 0, none⟩)), (6, .pointer (some ⟨g191, 0, none⟩)), (7, .int .u32 x7_6), (8, .int .i64 x8_6), (59, .bool (decide (x8_6 < 4)))]) (w' := W) (by kernel_rfl) ?_
                  rcases two (decide (x8_6 < 4)) with c195 | c195
                  · replace h := of_true h c195
                    refine RunF.know 59 (b := true) (by kernel_rfl) c195 ?_
                    refine RunF.go 10 [5, 6, 7, 8, 9] (k' := (pl Go.Proofs.Try.f17 [1, 1, 1, 1, 1, 1, 1, 1, 1, 1, 0, 1, 0, 0, 1, 0, 0, 1, 0, 0])) (L' := [(5, .pointer (some ⟨g3, 0, none⟩)), (6, .pointer (some ⟨g191, 0, none⟩)), (7, .int .u32 x7_6), (8, .int .i64 x8_6), (9, .int .i64 0)]) (w' := W) (by kernel_rfl) ?_
                    have l7 : ∀ (k_ : Nat), k_ ≤ k → ∀ (x7_7 : Int) (x9_7 : Int) (W : World) (hM : Mem w W [⟨.pointer (some ⟨g3, 0, none⟩), 69, 0, nums .u8 t189⟩, ⟨.pointer (some ⟨g191, 0, none⟩), 76, 0, nums .u8 ([1, 239, 91, 91, 91, 239, 239, 1, 239, 91, 1, 239, 239, 1, 239, 91] : List Int)⟩]) (h : scrimref9_H.l7 k_ t189 x8_6 x7_7 x9_7 = some r), RunF Go.Proofs.Try.prog (Ret fun v w' => v = .int .u32 r ∧ Mem w w' []) 17 (pl Go.Proofs.Try.f17 [1, 1, 1, 1, 1, 1, 1, 1, 1, 1, 0, 1, 0, 0, 1, 0, 0, 1, 0, 0]) 83 [(5, .pointer (some ⟨g3, 0, none⟩)), (6, .pointer (some ⟨g191, 0, none⟩)), (7, .int .u32 x7_7), (8, .int .i64 x8_6), (9, .int .i64 x9_7)] W := by
                      intro k_
                      induction k_ using Nat.strongRecOn with
                      | _ k_ ih7 =>
                        intro hk x7_7 x9_7 W hM h
                        cases k_ with
                        | zero => exact absurd h (by simp [scrimref9_H.l7])
                        | succ k =>
                          simp only [scrimref9_H.l7] at h
                          replace ih7 : ∀ m, m ≤ k → _ := fun m hm => ih7 m (by omega) (by omega)
                          replace ih6 : ∀ m, m ≤ k → _ := fun m hm => ih6 m (by omega)
                          refine RunF.go 6 [5, 6, 7, 8, 9, 63] (k' := (pl Go.Proofs.Try.f17 [1, 1, 1, 1, 1, 1, 1, 1, 1, 1, 0, 1, 0, 0, 1, 0, 0, 1, 0, 0, 0, 1])) (L' := [(5, .pointer (some ⟨g3, 0, none⟩)), (6, .pointer (some ⟨g191, 0, none⟩)), (7, .int .u32 x7_7), (8, .int .i64 x8_6), (9, .int .i64 x9_7), (63, .bool (decide (x9_7 < 4)))]) (w' := W) (by kernel_rfl) ?_
                          rcases two (decide (x9_7 < 4)) with c196 | c196
                          · replace h := of_true h c196
                            refine RunF.know 63 (b := true) (by kernel_rfl) c196 ?_
                            refine RunF.go 4 [5, 6, 7, 8, 9] (k' := (pl Go.Proofs.Try.f17 [1, 1, 1, 1, 1, 1, 1, 1, 1, 1, 0, 1, 0, 0, 1, 0, 0, 1, 0, 0, 1, 0, 0])) (L' := [(5, .pointer (some ⟨g3, 0, none⟩)), (6, .pointer (some ⟨g191, 0, none⟩)), (7, .int .u32 x7_7), (8, .int .i64 x8_6), (9, .int .i64 x9_7)]) (w' := W) (by kernel_rfl) ?_
                            refine RunF.draw (Still ({ W with drawn := W.drawn + 1 } : World) []) (by kernel_rfl) (by kernel_rfl) ?_
                            have hMd198 := hM.drew
                            have hS := Still.refl ({ W with drawn := W.drawn + 1 } : World) []
                            generalize ({ W with drawn := W.drawn + 1 } : World) = W197 at hMd198 hS ⊢
                            replace hM := hMd198
                            refine RunAny.y 0 (by kernel_rfl) (yl_pure (d := some 66) (v := .int .u32 x7_7) (k2 := [.inRegion (opsOf (pl Go.Proofs.Try.f17 [1, 1, 1, 1, 1, 1, 1, 1, 1, 1, 0, 1, 0, 0, 1, 0, 0, 1, 0, 0, 1, 0, 0])) []]) fun w => by kernel_rfl) (fun _ _ => trivial) hS ?_
                            refine RunAny.y 1 (by kernel_rfl) (yl_pure (d := some 67) (v := .int .i64 x8_6) (k2 := [.inRegion (opsOf (pl Go.Proofs.Try.f17 [1, 1, 1, 1, 1, 1, 1, 1, 1, 1, 0, 1, 0, 0, 1, 0, 0, 1, 0, 0, 1, 0, 0])) []]) fun w => by kernel_rfl) (fun _ _ => trivial) hS ?_
                            refine RunAny.y 2 (by kernel_rfl) (yl_pure (d := some 68) (v := .int .i64 x9_7) (k2 := [.inRegion (opsOf (pl Go.Proofs.Try.f17 [1, 1, 1, 1, 1, 1, 1, 1, 1, 1, 0, 1, 0, 0, 1, 0, 0, 1, 0, 0, 1, 0, 0])) []]) fun w => by kernel_rfl) (fun _ _ => trivial) hS ?_
                            rcases two (decide (0 ≤ x8_6)) with c200 | c200
                            · replace h := of_true h c200
                              rcases two (decide (x8_6 < (4 : Int))) with c201 | c201
                              · replace h := of_true h c201
                                have hbq202 : 0 ≤ (x8_6 * (4 : Int)) ∧ (x8_6 * (4 : Int)) + 4 ≤ 16 := by have h1_ : 0 ≤ x8_6 := (of_decide_eq_true c200); have h2_ : x8_6 < (4 : Int) := (of_decide_eq_true c201); omega
                                refine RunAny.y 3 (by kernel_rfl) (idxArr_row (d := some 69) (g := g191) (len := 4) (sz := 4) (i := x8_6) (k2 := [.inRegion (opsOf (pl Go.Proofs.Try.f17 [1, 1, 1, 1, 1, 1, 1, 1, 1, 1, 0, 1, 0, 0, 1, 0, 0, 1, 0, 0, 1, 0, 0])) []]) (by kernel_rfl) (of_decide_eq_true c200) (of_decide_eq_true c201)) (fun _ _ => trivial) hS ?_
                                rcases two (decide (0 ≤ x9_7)) with c204 | c204
                                · replace h := of_true h c204
                                  rcases two (decide (x9_7 < (4 : Int))) with c205 | c205
                                  · replace h := of_true h c205
                                    have hiq203 : 0 ≤ (x8_6 * (4 : Int)) + x9_7 ∧ (x8_6 * (4 : Int)) + x9_7 < 16 := by have h1_ : 0 ≤ x9_7 := (of_decide_eq_true c204); have h2_ : x9_7 < (4 : Int) := (of_decide_eq_true c205); omega
                                    obtain ⟨hcq203, hfq203, hlq203⟩ := hM.arr_num 1 rfl (i := (x8_6 * (4 : Int)) + x9_7) hiq203.1 (N := 16) rfl hiq203.2
                                    refine RunAny.y 4 (by kernel_rfl) (idxArr_in (d := some 70) (g := g191) (len := 4) (e := (x8_6 * (4 : Int))) (i := x9_7) (k2 := [.inRegion (opsOf (pl Go.Proofs.Try.f17 [1, 1, 1, 1, 1, 1, 1, 1, 1, 1, 0, 1, 0, 0, 1, 0, 0, 1, 0, 0, 1, 0, 0])) []]) (by kernel_rfl) hbq202.1 (of_decide_eq_true c204) (of_decide_eq_true c205)) (fun _ _ => trivial) hS ?_
                                    refine RunAny.y 5 (by kernel_rfl) (ld_y (d := some 71) (p := ⟨g191, ((x8_6 * (4 : Int)) + x9_7).toNat, none⟩) (k2 := [.inRegion (opsOf (pl Go.Proofs.Try.f17 [1, 1, 1, 1, 1, 1, 1, 1, 1, 1, 0, 1, 0, 0, 1, 0, 0, 1, 0, 0, 1, 0, 0])) []]) (.int .u8 (rd ([1, 239, 91, 91, 91, 239, 239, 1, 239, 91, 1, 239, 239, 1, 239, 91] : List Int) ((x8_6 * (4 : Int)) + x9_7))) (by kernel_rfl)) (fun _ hs => hs.cell hcq203 (by simp)) hS ?_
                                    refine RunAny.y 6 (by kernel_rfl) (yl_pure (d := some 72) (v := .int .i64 x9_7) (k2 := [.inRegion (opsOf (pl Go.Proofs.Try.f17 [1, 1, 1, 1, 1, 1, 1, 1, 1, 1, 0, 1, 0, 0, 1, 0, 0, 1, 0, 0, 1, 0, 0])) []]) fun w => by kernel_rfl) (fun _ _ => trivial) hS ?_
                                    rcases two (decide (0 ≤ x9_7)) with c207 | c207
                                    · replace h := of_true h c207
                                      rcases two (decide (x9_7 < (4 : Int))) with c208 | c208
                                      · replace h := of_true h c208
                                        obtain ⟨hcq206, hfq206, hlq206⟩ := hM.arr_num 0 rfl (i := x9_7) (of_decide_eq_true c207) (N := 4) hNt189_0 (of_decide_eq_true c208)
                                        refine RunAny.y 7 (by kernel_rfl) (idxArr_own (d := some 73) (g := g3) (len := 4) (i := x9_7) (k2 := [.inRegion (opsOf (pl Go.Proofs.Try.f17 [1, 1, 1, 1, 1, 1, 1, 1, 1, 1, 0, 1, 0, 0, 1, 0, 0, 1, 0, 0, 1, 0, 0])) []]) (by kernel_rfl) (of_decide_eq_true c207) (of_decide_eq_true c208)) (fun _ _ => trivial) hS ?_
                                        refine RunAny.y 8 (by kernel_rfl) (ld_y (d := some 74) (p := ⟨g3, (x9_7 : Int).toNat, none⟩) (k2 := [.inRegion (opsOf (pl Go.Proofs.Try.f17 [1, 1, 1, 1, 1, 1, 1, 1, 1, 1, 0, 1, 0, 0, 1, 0, 0, 1, 0, 0, 1, 0, 0])) []]) (.int .u8 (rd t189 x9_7)) (by kernel_rfl)) (fun _ hs => hs.cell hcq206 (by simp)) hS ?_
                                        refine RunAny.y 11 (by kernel_rfl) (yl_pure (d := some 77) (v := .int .i64 x8_6) (k2 := [.inRegion (opsOf (pl Go.Proofs.Try.f17 [1, 1, 1, 1, 1, 1, 1, 1, 1, 1, 0, 1, 0, 0, 1, 0, 0, 1, 0, 0, 1, 0, 0])) []]) fun w => by kernel_rfl) (fun _ _ => trivial) hS ?_
                                        refine RunAny.y 12 (by kernel_rfl) (yl_pure (d := some 78) (v := .int .i64 (I64 (8 * x8_6))) (k2 := [.inRegion (opsOf (pl Go.Proofs.Try.f17 [1, 1, 1, 1, 1, 1, 1, 1, 1, 1, 0, 1, 0, 0, 1, 0, 0, 1, 0, 0, 1, 0, 0])) []]) fun w => by kernel_rfl) (fun _ _ => trivial) hS ?_
                                        refine RunAny.y 13 (by kernel_rfl) (yl_pure (d := some 79) (v := .int .u64 (U64 (I64 (8 * x8_6)))) (k2 := [.inRegion (opsOf (pl Go.Proofs.Try.f17 [1, 1, 1, 1, 1, 1, 1, 1, 1, 1, 0, 1, 0, 0, 1, 0, 0, 1, 0, 0, 1, 0, 0])) []]) fun w => by kernel_rfl) (fun _ _ => trivial) hS ?_
                                        obtain ⟨t210, ht210, h⟩ := Option.bind_eq_some_iff.mp h
                                        refine RunAny.call 9 (d := some 75) (g := 41) (args := #[.int .u8 (rd ([1, 239, 91, 91, 91, 239, 239, 1, 239, 91, 1, 239, 239, 1, 239, 91] : List Int) ((x8_6 * (4 : Int)) + x9_7)), .int .u8 (rd t189 x9_7), .int .i64 361]) (by kernel_rfl) (by kernel_rfl) (scrimref3_Mul.calls k (rd ([1, 239, 91, 91, 91, 239, 239, 1, 239, 91, 1, 239, 239, 1, 239, 91] : List Int) ((x8_6 * (4 : Int)) + x9_7)) (rd t189 x9_7) 361 t210 _ ht210) (by rintro _ _ ⟨rfl, hM_⟩; exact hS.below hM_.below) ?_
                                        rintro _ W209 ⟨rfl, hM_⟩
                                        replace hS := hS.below hM_.below
                                        replace hM := hM.call hM_
                                        clear hM_ ht210
                                        refine RunAny.rebase hS ?_
                                        replace hS := Still.refl W209 []
                                        refine RunAny.y 10 (by kernel_rfl) (yl_pure (d := some 76) (v := .int .u32 (U32 (t210))) (k2 := [.inRegion (opsOf (pl Go.Proofs.Try.f17 [1, 1, 1, 1, 1, 1, 1, 1, 1, 1, 0, 1, 0, 0, 1, 0, 0, 1, 0, 0, 1, 0, 0])) []]) fun w => by kernel_rfl) (fun _ _ => trivial) hS ?_
                                        rcases two (decide (0 ≤ (U64 (I64 (8 * x8_6))))) with c211 | c211
                                        · replace h := of_true h c211
                                          refine RunAny.y 14 (by kernel_rfl) (sh_y (d := some 80) (b := true) (kd := .u32) (x := U32 (t210)) (y := U64 (I64 (8 * x8_6))) (k2 := [.inRegion (opsOf (pl Go.Proofs.Try.f17 [1, 1, 1, 1, 1, 1, 1, 1, 1, 1, 0, 1, 0, 0, 1, 0, 0, 1, 0, 0, 1, 0, 0])) []]) (by kernel_rfl) c211) (fun _ _ => trivial) hS ?_
                                          refine RunAny.y 15 (by kernel_rfl) (yl_pure (d := some 81) (v := .int .u32 (bxor .u32 x7_7 (shlv .u32 (U32 (t210)) (U64 (I64 (8 * x8_6)))))) (k2 := [.inRegion (opsOf (pl Go.Proofs.Try.f17 [1, 1, 1, 1, 1, 1, 1, 1, 1, 1, 0, 1, 0, 0, 1, 0, 0, 1, 0, 0, 1, 0, 0])) []]) fun w => by kernel_rfl) (fun _ _ => trivial) hS ?_
                                          refine RunAny.y 16 (by kernel_rfl) (yl_pure (d := some 7) (v := .int .u32 (bxor .u32 x7_7 (shlv .u32 (U32 (t210)) (U64 (I64 (8 * x8_6)))))) (k2 := [.inRegion (opsOf (pl Go.Proofs.Try.f17 [1, 1, 1, 1, 1, 1, 1, 1, 1, 1, 0, 1, 0, 0, 1, 0, 0, 1, 0, 0, 1, 0, 0])) []]) fun w => by kernel_rfl) (fun _ _ => trivial) hS ?_
                                          refine RunAny.done (by kernel_rfl) ?_
                                          clear hS
                                          refine RunF.go 7 [5, 6, 7, 8, 9] (k' := (pl Go.Proofs.Try.f17 [1, 1, 1, 1, 1, 1, 1, 1, 1, 1, 0, 1, 0, 0, 1, 0, 0, 1, 0, 0])) (L' := [(5, .pointer (some ⟨g3, 0, none⟩)), (6, .pointer (some ⟨g191, 0, none⟩)), (7, .int .u32 (bxor .u32 x7_7 (shlv .u32 (U32 (t210)) (U64 (I64 (8 * x8_6)))))), (8, .int .i64 x8_6), (9, .int .i64 (I64 (x9_7 + 1)))]) (w' := W209) (by kernel_rfl) ?_
                                          obtain ⟨y212, hy, h⟩ := Option.bind_eq_some_iff.mp h
                                          rw [show (bxor .u32 x7_7 (shlv .u32 (U32 (t210)) (U64 (I64 (8 * x8_6))))) = y212 from Option.some.inj hy]
                                          clear hy
                                          exact ih7 k (by omega) y212 (I64 (x9_7 + 1)) _ (hM.pick [0, 1] rfl rfl) h
                                        · replace h := of_false h c211
                                          cases h
                                      · replace h := of_false h c208
                                        cases h
                                    · replace h := of_false h c207
                                      cases h
                                  · replace h := of_false h c205
                                    cases h
                                · replace h := of_false h c204
                                  cases h
                              · replace h := of_false h c201
                                cases h
                            · replace h := of_false h c200
                              cases h
                          · replace h := of_false h c196
                            refine RunF.know 63 (b := false) (by kernel_rfl) c196 ?_
                            refine RunF.go 9 [5, 6, 7, 8] (k' := (pl Go.Proofs.Try.f17 [1, 1, 1, 1, 1, 1, 1, 1, 1, 1, 0, 1, 0, 0])) (L' := [(5, .pointer (some ⟨g3, 0, none⟩)), (6, .pointer (some ⟨g191, 0, none⟩)), (7, .int .u32 x7_7), (8, .int .i64 (I64 (x8_6 + 1)))]) (w' := W) (by kernel_rfl) ?_
                            exact ih6 k (by omega) x7_7 (I64 (x8_6 + 1)) _ (hM.pick [0, 1] rfl rfl) h
                    exact l7 k (Nat.le_refl _) x7_6 0 _ (hM.pick [0, 1] rfl rfl) h
                  · replace h := of_false h c195
                    refine RunF.know 59 (b := false) (by kernel_rfl) c195 ?_
                    refine RunF.go 7 [4] (k' := (pl Go.Proofs.Try.f17 [1, 1, 1, 1, 1, 1, 1, 1, 1, 1, 1, 1])) (L' := [(4, .int .u32 x7_6)]) (w' := W) (by kernel_rfl) ?_
                    obtain rfl := Option.some.inj h
                    exact RunF.ret1 4 (.int .u32 x7_6) (fn := Go.Proofs.Try.f17) Go.Proofs.Try.func17 (by kernel_rfl) (by kernel_rfl) (by kernel_rfl) ⟨_, rfl, rfl, (hM.pick [] rfl rfl)⟩
            exact l6 k (Nat.le_refl _) 0 0 _ (hM.pick [1, 0] rfl rfl) h
          · replace h := of_false h c182
            cases h
        · replace h := of_false h c173
          cases h

/-! ### scrim/scrimlaw9.TwofishH: function 5 -/
def scrimlaw9_TwofishH.f (k : Nat) (a0 : Int) (a1 : Int) (a2 : List Int) (a3 : Int) (a4 : Int) : Option (Bool) := (scrimlaw9_known.f k).bind fun t2 => (if (!t2) = true then (some false) else (if (decide (([a3, a4] : List Int).length + a2.length ≤ 35184372088832)) = true then ((some (mn ((([a3, a4] : List Int) ++ a2).length : Int) 4 : Int)).bind fun y13 => (if (decide (0 ≤ y13)) = true then (if (decide (y13 ≤ ((([a3, a4] : List Int) ++ a2).length : Int))) = true then ((twofish_H.f k a0 (((([a3, a4] : List Int) ++ a2).take (y13 : Int).toNat).drop (0 : Int).toNat)).bind fun t22 => ((twofish_H.f k a1 (((([a3, a4] : List Int) ++ a2).take (y13 : Int).toNat).drop (0 : Int).toNat)).bind fun t24 => ((scrimref9_H.f k a0 (((([a3, a4] : List Int) ++ a2).take (y13 : Int).toNat).drop (0 : Int).toNat)).bind fun t26 => (if (t22 == t26) = true then ((scrimref9_H.f k a1 (((([a3, a4] : List Int) ++ a2).take (y13 : Int).toNat).drop (0 : Int).toNat)).bind fun t29 => (if (t24 == t29) = true then (some ((t22 == t24) == (a0 == a1))) else (some false))) else (some false))))) else (none)) else (none))) else (none)))
set_option maxRecDepth 100000 in
theorem scrimlaw9_TwofishH.calls (k : Nat) (a0 : Int) (a1 : Int) (Ap2 : Option Addr) (np2 cp2 : Nat) (a2 : List Int) (a3 : Int) (a4 : Int) (r : Bool) (w : World) (hr2 : Rd w (.slice Ap2 np2 cp2) (nums .u32 a2)) (h : scrimlaw9_TwofishH.f k a0 a1 a2 a3 a4 = some r) :
    Calls Go.Proofs.Try.prog 5 #[.int .u32 a0, .int .u32 a1, (.slice Ap2 np2 cp2), .int .u32 a3, .int .u32 a4] w (Ret fun v w' => v = .bool r ∧ Mem w w' []) := by
  obtain rfl : a2.length = np2 := by have h_ := hr2.1; simpa [nums_length, bools_length, strs_length] using h_
  unfold scrimlaw9_TwofishH.f at h
  refine calls_of [.int .u32 a0, .int .u32 a1, .slice Ap2 a2.length cp2, .int .u32 a3, .int .u32 a4] (fn := Go.Proofs.Try.f5) Go.Proofs.Try.func5 (by kernel_rfl) (by kernel_rfl) ?_
  have hM := Mem.refl w
  refine RunF.go 7 [0, 1, 2, 3, 4] (k' := (pin Go.Proofs.Try.f5 [1, 0, 0] 0)) (L' := [(0, .int .u32 a0), (1, .int .u32 a1), (2, .slice Ap2 a2.length cp2), (3, .int .u32 a3), (4, .int .u32 a4)]) (w' := w) (by kernel_rfl) ?_
  obtain ⟨t2, ht2, h⟩ := Option.bind_eq_some_iff.mp h
  refine RunF.call (d := some 14) (g := 8) (args := #[]) (k2 := (pin Go.Proofs.Try.f5 [1, 0, 0] 1)) (by kernel_rfl) (scrimlaw9_known.calls k t2 _ ht2) ?_
  rintro _ W1 ⟨rfl, hM_⟩
  replace hM := hM.call hM_
  clear hM_ ht2
  refine RunF.go 2 [0, 1, 2, 3, 4, 15] (k' := (pl Go.Proofs.Try.f5 [1, 0, 1])) (L' := [(0, .int .u32 a0), (1, .int .u32 a1), (2, .slice Ap2 a2.length cp2), (3, .int .u32 a3), (4, .int .u32 a4), (15, .bool (!t2))]) (w' := W1) (by kernel_rfl) ?_
  rcases two (!t2) with c3 | c3
  · replace h := of_true h c3
    refine RunF.know 15 (b := true) (by kernel_rfl) c3 ?_
    refine RunF.go 5 [10] (k' := (pl Go.Proofs.Try.f5 [1, 0, 1, 0, 1])) (L' := [(10, .bool false)]) (w' := W1) (by kernel_rfl) ?_
    obtain rfl := Option.some.inj h
    exact RunF.ret1 10 (.bool false) (fn := Go.Proofs.Try.f5) Go.Proofs.Try.func5 (by kernel_rfl) (by kernel_rfl) (by kernel_rfl) ⟨_, rfl, rfl, (hM.pick [] rfl rfl)⟩
  · replace h := of_false h c3
    refine RunF.know 15 (b := false) (by kernel_rfl) c3 ?_
    refine RunF.go 6 [0, 1, 2, 16, 17] (k' := (pin Go.Proofs.Try.f5 [1, 1, 0] 2)) (L' := [(0, .int .u32 a0), (1, .int .u32 a1), (2, .slice Ap2 a2.length cp2), (16, .int .u32 a3), (17, .int .u32 a4)]) (w' := W1) (by kernel_rfl) ?_
    refine RunF.new 37 1 2 (nums .u32 [a3, a4]) (d := some 18) (k2 := (pin Go.Proofs.Try.f5 [1, 1, 0] 3)) hM (by simp [nums, bools, strs]) (by kernel_rfl) (by kernel_rfl) ?_
    replace hM := hM
    intro g4 W5 hM
    refine RunF.go 1 [0, 1, 18, 19] (k' := (pin Go.Proofs.Try.f5 [1, 1, 0] 4)) (L' := [(0, .int .u32 a0), (1, .int .u32 a1), (18, .slice (some ⟨g4, 0, none⟩) 2 2), (19, .slice Ap2 a2.length cp2)]) (w' := W5) (by kernel_rfl) ?_
    rcases two (decide (([a3, a4] : List Int).length + a2.length ≤ 35184372088832)) with c11 | c11
    · replace h := of_true h c11
      have h_ := of_decide_eq_true c11
      obtain ⟨A7, n8, c9, W10, hD, hM', hS_⟩ := app_doesW (P := Go.Proofs.Try.prog) (n := 53) (k := (pin Go.Proofs.Try.f5 [1, 1, 0] 4)) (L := [(0, .int .u32 a0), (1, .int .u32 a1), (18, .slice (some ⟨g4, 0, none⟩) 2 2), (19, .slice Ap2 a2.length cp2)]) (d := some 20) (e := 37) (A := (some ⟨g4, 0, none⟩)) (m := 2) (c := 2) (A2 := Ap2) (m2 := a2.length) (c2 := cp2) (cs := nums .u32 ([a3, a4] : List Int)) (ys := nums .u32 a2) (k2 := (pin Go.Proofs.Try.f5 [1, 1, 0] 5)) [] [] (by kernel_rfl) (hM.pick [0] rfl rfl) (hr2.mono hM.below) (one_nums _ _) (by omega) (by kernel_rfl)
      rw [nums_append] at hM'
      replace hM := hM'; clear h_ hM'
      obtain rfl : (([a3, a4] : List Int) ++ a2).length = n8 := by have h_ := (hM.rd 0 rfl).1; simpa only [nums_length, bools_length, strs_length] using h_
      refine RunF.does hD ?_
      clear hD hS_
      refine RunF.go 8 [0, 1, 21, 24] (k' := (pin Go.Proofs.Try.f5 [1, 1, 1, 0] 4)) (L' := [(0, .int .u32 a0), (1, .int .u32 a1), (21, .slice A7 ((([a3, a4] : List Int) ++ a2).length) c9), (24, .int .i64 (mn ((([a3, a4] : List Int) ++ a2).length : Int) 4))]) (w' := W10) (by kernel_rfl) ?_
      obtain ⟨y13, hy, h⟩ := Option.bind_eq_some_iff.mp h
      rw [show (mn ((([a3, a4] : List Int) ++ a2).length : Int) 4) = y13 from Option.some.inj hy]
      clear hy
      rcases two (decide (0 ≤ y13)) with c14 | c14
      · replace h := of_true h c14
        rcases two (decide (y13 ≤ ((([a3, a4] : List Int) ++ a2).length : Int))) with c15 | c15
        · replace h := of_true h c15
          have zc14 := of_decide_eq_true c14
          have zc15 := of_decide_eq_true c15
          obtain ⟨A16, n17, c18, hy19, rfl, hs20⟩ := cut (P := Go.Proofs.Try.prog) (n := 53) (k := (pin Go.Proofs.Try.f5 [1, 1, 1, 0] 4)) (L := [(0, .int .u32 a0), (1, .int .u32 a1), (21, .slice A7 ((([a3, a4] : List Int) ++ a2).length) c9), (24, .int .i64 y13)]) (d := some 25) (A := A7) (m := (([a3, a4] : List Int) ++ a2).length) (c := c9) (l := 0) (h := y13) (k2 := (pin Go.Proofs.Try.f5 [1, 1, 1, 0] 5)) .u32 (([a3, a4] : List Int) ++ a2) (by kernel_rfl) (by omega) (by omega) (by omega) (hM.rd 0 rfl)
          clear zc14
          clear zc15
          refine RunF.y hy19 trivial ?_
          refine RunF.go 6 [0, 1, 11, 26, 27] (k' := (pin Go.Proofs.Try.f5 [1, 1, 1, 1, 0] 2)) (L' := [(0, .int .u32 a0), (1, .int .u32 a1), (11, .slice A16 ((((([a3, a4] : List Int) ++ a2).take (y13 : Int).toNat).drop (0 : Int).toNat).length) c18), (26, .int .u32 a0), (27, .slice A16 ((((([a3, a4] : List Int) ++ a2).take (y13 : Int).toNat).drop (0 : Int).toNat).length) c18)]) (w' := W10) (by kernel_rfl) ?_
          obtain ⟨t22, ht22, h⟩ := Option.bind_eq_some_iff.mp h
          refine RunF.call (d := some 28) (g := 16) (args := #[.int .u32 a0, .slice A16 ((((([a3, a4] : List Int) ++ a2).take (y13 : Int).toNat).drop (0 : Int).toNat).length) c18]) (k2 := (pin Go.Proofs.Try.f5 [1, 1, 1, 1, 0] 3)) (by kernel_rfl) (twofish_H.calls k a0 A16 ((((([a3, a4] : List Int) ++ a2).take (y13 : Int).toNat).drop (0 : Int).toNat).length) c18 (((([a3, a4] : List Int) ++ a2).take (y13 : Int).toNat).drop (0 : Int).toNat) t22 _ (hs20 _ (hM.rd 0 rfl)) ht22) ?_
          rintro _ W21 ⟨rfl, hM_⟩
          replace hM := hM.call hM_
          clear hM_ ht22
          refine RunF.go 2 [0, 1, 11, 28, 29, 30] (k' := (pin Go.Proofs.Try.f5 [1, 1, 1, 1, 0] 5)) (L' := [(0, .int .u32 a0), (1, .int .u32 a1), (11, .slice A16 ((((([a3, a4] : List Int) ++ a2).take (y13 : Int).toNat).drop (0 : Int).toNat).length) c18), (28, .int .u32 t22), (29, .int .u32 a1), (30, .slice A16 ((((([a3, a4] : List Int) ++ a2).take (y13 : Int).toNat).drop (0 : Int).toNat).length) c18)]) (w' := W21) (by kernel_rfl) ?_
          obtain ⟨t24, ht24, h⟩ := Option.bind_eq_some_iff.mp h
          refine RunF.call (d := some 31) (g := 16) (args := #[.int .u32 a1, .slice A16 ((((([a3, a4] : List Int) ++ a2).take (y13 : Int).toNat).drop (0 : Int).toNat).length) c18]) (k2 := (pin Go.Proofs.Try.f5 [1, 1, 1, 1, 0] 6)) (by kernel_rfl) (twofish_H.calls k a1 A16 ((((([a3, a4] : List Int) ++ a2).take (y13 : Int).toNat).drop (0 : Int).toNat).length) c18 (((([a3, a4] : List Int) ++ a2).take (y13 : Int).toNat).drop (0 : Int).toNat) t24 _ (hs20 _ (hM.rd 0 rfl)) ht24) ?_
          rintro _ W23 ⟨rfl, hM_⟩
          replace hM := hM.call hM_
          clear hM_ ht24
          refine RunF.go 8 [0, 1, 11, 12, 13, 32, 33, 34] (k' := (pin Go.Proofs.Try.f5 [1, 1, 1, 1, 1, 0] 3)) (L' := [(0, .int .u32 a0), (1, .int .u32 a1), (11, .slice A16 ((((([a3, a4] : List Int) ++ a2).take (y13 : Int).toNat).drop (0 : Int).toNat).length) c18), (12, .int .u32 t22), (13, .int .u32 t24), (32, .int .u32 t22), (33, .int .u32 a0), (34, .slice A16 ((((([a3, a4] : List Int) ++ a2).take (y13 : Int).toNat).drop (0 : Int).toNat).length) c18)]) (w' := W23) (by kernel_rfl) ?_
          obtain ⟨t26, ht26, h⟩ := Option.bind_eq_some_iff.mp h
          refine RunF.call (d := some 35) (g := 17) (args := #[.int .u32 a0, .slice A16 ((((([a3, a4] : List Int) ++ a2).take (y13 : Int).toNat).drop (0 : Int).toNat).length) c18]) (k2 := (pin Go.Proofs.Try.f5 [1, 1, 1, 1, 1, 0] 4)) (by kernel_rfl) (scrimref9_H.calls k a0 A16 ((((([a3, a4] : List Int) ++ a2).take (y13 : Int).toNat).drop (0 : Int).toNat).length) c18 (((([a3, a4] : List Int) ++ a2).take (y13 : Int).toNat).drop (0 : Int).toNat) t26 _ (hs20 _ (hM.rd 0 rfl)) ht26) ?_
          rintro _ W25 ⟨rfl, hM_⟩
          replace hM := hM.call hM_
          clear hM_ ht26
          refine RunF.go 2 [0, 1, 11, 12, 13, 37] (k' := (pin Go.Proofs.Try.f5 [1, 1, 1, 1, 1, 0] 6)) (L' := [(0, .int .u32 a0), (1, .int .u32 a1), (11, .slice A16 ((((([a3, a4] : List Int) ++ a2).take (y13 : Int).toNat).drop (0 : Int).toNat).length) c18), (12, .int .u32 t22), (13, .int .u32 t24), (37, .bool (t22 == t26))]) (w' := W25) (by kernel_rfl) ?_
          rcases two ((t22 == t26)) with c27 | c27
          · replace h := of_true h c27
            refine RunF.know 37 (b := true) (by kernel_rfl) c27 ?_
            refine RunF.go 3 [0, 1, 12, 13, 37, 38, 39, 40] (k' := (pin Go.Proofs.Try.f5 [1, 1, 1, 1, 1, 0] 9)) (L' := [(0, .int .u32 a0), (1, .int .u32 a1), (12, .int .u32 t22), (13, .int .u32 t24), (37, .bool true), (38, .int .u32 t24), (39, .int .u32 a1), (40, .slice A16 ((((([a3, a4] : List Int) ++ a2).take (y13 : Int).toNat).drop (0 : Int).toNat).length) c18)]) (w' := W25) (by kernel_rfl) ?_
            obtain ⟨t29, ht29, h⟩ := Option.bind_eq_some_iff.mp h
            refine RunF.call (d := some 41) (g := 17) (args := #[.int .u32 a1, .slice A16 ((((([a3, a4] : List Int) ++ a2).take (y13 : Int).toNat).drop (0 : Int).toNat).length) c18]) (k2 := (pin Go.Proofs.Try.f5 [1, 1, 1, 1, 1, 0] 10)) (by kernel_rfl) (scrimref9_H.calls k a1 A16 ((((([a3, a4] : List Int) ++ a2).take (y13 : Int).toNat).drop (0 : Int).toNat).length) c18 (((([a3, a4] : List Int) ++ a2).take (y13 : Int).toNat).drop (0 : Int).toNat) t29 _ (hs20 _ (hM.rd 0 rfl)) ht29) ?_
            rintro _ W28 ⟨rfl, hM_⟩
            replace hM := hM.call hM_
            clear hM_ ht29
            refine RunF.go 3 [0, 1, 12, 13, 44] (k' := (pin Go.Proofs.Try.f5 [1, 1, 1, 1, 1, 0] 13)) (L' := [(0, .int .u32 a0), (1, .int .u32 a1), (12, .int .u32 t22), (13, .int .u32 t24), (44, .bool (t24 == t29))]) (w' := W28) (by kernel_rfl) ?_
            rcases two ((t24 == t29)) with c30 | c30
            · replace h := of_true h c30
              refine RunF.know 44 (b := true) (by kernel_rfl) c30 ?_
              refine RunF.go 10 [10] (k' := (pl Go.Proofs.Try.f5 [1, 1, 1, 1, 1, 1])) (L' := [(10, .bool ((t22 == t24) == (a0 == a1)))]) (w' := W28) (by kernel_rfl) ?_
              obtain rfl := Option.some.inj h
              exact RunF.ret1 10 (.bool ((t22 == t24) == (a0 == a1))) (fn := Go.Proofs.Try.f5) Go.Proofs.Try.func5 (by kernel_rfl) (by kernel_rfl) (by kernel_rfl) ⟨_, rfl, rfl, (hM.pick [] rfl rfl)⟩
            · replace h := of_false h c30
              refine RunF.know 44 (b := false) (by kernel_rfl) c30 ?_
              refine RunF.go 10 [10] (k' := (pl Go.Proofs.Try.f5 [1, 1, 1, 1, 1, 1])) (L' := [(10, .bool false)]) (w' := W28) (by kernel_rfl) ?_
              obtain rfl := Option.some.inj h
              exact RunF.ret1 10 (.bool false) (fn := Go.Proofs.Try.f5) Go.Proofs.Try.func5 (by kernel_rfl) (by kernel_rfl) (by kernel_rfl) ⟨_, rfl, rfl, (hM.pick [] rfl rfl)⟩
          · replace h := of_false h c27
            refine RunF.know 37 (b := false) (by kernel_rfl) c27 ?_
            refine RunF.go 17 [10] (k' := (pl Go.Proofs.Try.f5 [1, 1, 1, 1, 1, 1])) (L' := [(10, .bool false)]) (w' := W25) (by kernel_rfl) ?_
            obtain rfl := Option.some.inj h
            exact RunF.ret1 10 (.bool false) (fn := Go.Proofs.Try.f5) Go.Proofs.Try.func5 (by kernel_rfl) (by kernel_rfl) (by kernel_rfl) ⟨_, rfl, rfl, (hM.pick [] rfl rfl)⟩
        · replace h := of_false h c15
          cases h
      · replace h := of_false h c14
        cases h
    · replace h := of_false h c11
      cases h


end Go.Scr.S
