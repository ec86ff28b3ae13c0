/- The functions that the law TwofishQ reaches, as plain functions, and that each call answers so. -/
import Derived.Test.YtngagagokcnnaaaProg
import Derived.Test.YtngagagokcnnaaaFnTwofishQ2
set_option linter.unusedVariables false
set_option linter.unusedSimpArgs false
set_option linter.unnecessarySimpa false
namespace Go.Scr.S
open Go.RowKit (Below)
/-! ### scrim/scrimref9.Q: function 15 -/
def scrimref9_Q.l0 : Nat → (List ByteArray) → Int → Int → Int → Option (Int)
  | 0, _, _, _, _ => none
  | k + 1, t2, x6_0, x7_0, x8_0 => if (decide (x8_0 < 2)) = true then ((some (bxor .i64 (bxor .i64 x6_0 (bor .i64 (shr x7_0 1) (band .i64 (shl .i64 x7_0 3) 8))) (Int.tmod (I64 (8 * x6_0)) 16) : Int)).bind fun y8 => (if (decide (0 ≤ (I64 (2 * x8_0)))) = true then (if (decide ((I64 (2 * x8_0)) < (t2.length : Int))) = true then (if (decide (0 ≤ (I64 ((I64 (2 * x8_0)) + 1)))) = true then (if (decide ((I64 ((I64 (2 * x8_0)) + 1)) < (t2.length : Int))) = true then ((scrimref6_At.f k (rds t2 (I64 (2 * x8_0))) (bxor .i64 x6_0 x7_0)).bind fun t18 => ((scrimref6_At.f k (rds t2 (I64 ((I64 (2 * x8_0)) + 1))) y8).bind fun t20 => (scrimref9_Q.l0 k t2 t18 t20 (I64 (x8_0 + 1))))) else (none)) else (none)) else (none)) else (none))) else (some (U8 (I64 ((I64 (16 * x7_0)) + x6_0))))
def scrimref9_Q.f (k : Nat) (a0 : Int) (a1 : Int) : Option (Int) := (scrimref9_rows.f k a0).bind fun t2 => (scrimref9_Q.l0 k t2 (I64 (shr a1 4)) (I64 (band .u8 a1 15)) 0)
set_option maxRecDepth 100000 in
theorem scrimref9_Q.calls (k : Nat) (a0 : Int) (a1 : Int) (r : Int) (w : World) (h : scrimref9_Q.f k a0 a1 = some r) :
    Calls Go.Proofs.Try.prog 15 #[.int .i64 a0, .int .u8 a1] w (Ret fun v w' => v = .int .u8 r ∧ Mem w w' []) := by
  unfold scrimref9_Q.f at h
  refine calls_of [.int .i64 a0, .int .u8 a1] (fn := Go.Proofs.Try.f15) Go.Proofs.Try.func15 (by kernel_rfl) (by kernel_rfl) ?_
  have hM := Mem.refl w
  refine RunF.go 7 [1, 11] (k' := (pin Go.Proofs.Try.f15 [1, 0] 1)) (L' := [(1, .int .u8 a1), (11, .int .i64 a0)]) (w' := w) (by kernel_rfl) ?_
  obtain ⟨t2, ht2, h⟩ := Option.bind_eq_some_iff.mp h
  refine RunF.call (d := some 12) (g := 32) (args := #[.int .i64 a0]) (k2 := (pin Go.Proofs.Try.f15 [1, 0] 2)) (by kernel_rfl) (scrimref9_rows.calls k a0 t2 _ ht2) ?_
  rintro _ W1 ⟨A3, n4, c5, rfl, hM_⟩
  obtain rfl : t2.length = n4 := by have h_ := (hM_.rd 0 rfl).1; simpa [nums_length, bools_length, strs_length] using h_
  replace hM := hM.call hM_
  clear hM_ ht2
  refine RunF.go 20 [5, 6, 7, 8] (k' := (pl Go.Proofs.Try.f15 [1, 1, 1, 0, 1, 0, 0])) (L' := [(5, .slice A3 t2.length c5), (6, .int .i64 (I64 (shr a1 4))), (7, .int .i64 (I64 (band .u8 a1 15))), (8, .int .i64 0)]) (w' := W1) (by kernel_rfl) ?_
  have l0 : ∀ (k_ : Nat), k_ ≤ k → ∀ (x6_0 : Int) (x7_0 : Int) (x8_0 : Int) (W : World) (hM : Mem w W [⟨.slice A3 t2.length c5, 9, 1, strs t2⟩]) (h : scrimref9_Q.l0 k_ t2 x6_0 x7_0 x8_0 = some r), RunF Go.Proofs.Try.prog (Ret fun v w' => v = .int .u8 r ∧ Mem w w' []) 15 (pl Go.Proofs.Try.f15 [1, 1, 1, 0, 1, 0, 0]) 58 [(5, .slice A3 t2.length c5), (6, .int .i64 x6_0), (7, .int .i64 x7_0), (8, .int .i64 x8_0)] W := by
    intro k_
    induction k_ using Nat.strongRecOn with
    | _ k_ ih0 =>
      intro hk x6_0 x7_0 x8_0 W hM h
      cases k_ with
      | zero => exact absurd h (by simp [scrimref9_Q.l0])
      | succ k =>
        simp only [scrimref9_Q.l0] at h
        replace ih0 : ∀ m, m ≤ k → _ := fun m hm => ih0 m (by omega) (by omega)
        refine RunF.go 6 [5, 6, 7, 8, 20] (k' := (pl Go.Proofs.Try.f15 [1, 1, 1, 0, 1, 0, 0, 0, 1])) (L' := [(5, .slice A3 t2.length c5), (6, .int .i64 x6_0), (7, .int .i64 x7_0), (8, .int .i64 x8_0), (20, .bool (decide (x8_0 < 2)))]) (w' := W) (by kernel_rfl) ?_
        rcases two (decide (x8_0 < 2)) with c7 | c7
        · replace h := of_true h c7
          refine RunF.know 20 (b := true) (by kernel_rfl) c7 ?_
          refine RunF.go 27 [5, 8, 9, 10] (k' := (pl Go.Proofs.Try.f15 [1, 1, 1, 0, 1, 0, 0, 1, 0, 0, 1, 1])) (L' := [(5, .slice A3 t2.length c5), (8, .int .i64 x8_0), (9, .int .i64 (bxor .i64 x6_0 x7_0)), (10, .int .i64 (bxor .i64 (bxor .i64 x6_0 (bor .i64 (shr x7_0 1) (band .i64 (shl .i64 x7_0 3) 8))) (Int.tmod (I64 (8 * x6_0)) 16)))]) (w' := W) (by kernel_rfl) ?_
          obtain ⟨y8, hy, h⟩ := Option.bind_eq_some_iff.mp h
          rw [show (bxor .i64 (bxor .i64 x6_0 (bor .i64 (shr x7_0 1) (band .i64 (shl .i64 x7_0 3) 8))) (Int.tmod (I64 (8 * x6_0)) 16)) = y8 from Option.some.inj hy]
          clear hy
          refine RunF.draw (Still ({ W with drawn := W.drawn + 1 } : World) []) (by kernel_rfl) (by kernel_rfl) ?_
          have hMd10 := hM.drew
          have hS := Still.refl ({ W with drawn := W.drawn + 1 } : World) []
          generalize ({ W with drawn := W.drawn + 1 } : World) = W9 at hMd10 hS ⊢
          replace hM := hMd10
          refine RunAny.y 0 (by kernel_rfl) (yl_pure (d := some 38) (v := .slice A3 t2.length c5) (k2 := [.inRegion (opsOf (pl Go.Proofs.Try.f15 [1, 1, 1, 0, 1, 0, 0, 1, 0, 0, 1, 1])) []]) fun w => by kernel_rfl) (fun _ _ => trivial) hS ?_
          refine RunAny.y 1 (by kernel_rfl) (yl_pure (d := some 39) (v := .int .i64 x8_0) (k2 := [.inRegion (opsOf (pl Go.Proofs.Try.f15 [1, 1, 1, 0, 1, 0, 0, 1, 0, 0, 1, 1])) []]) fun w => by kernel_rfl) (fun _ _ => trivial) hS ?_
          refine RunAny.y 2 (by kernel_rfl) (yl_pure (d := some 40) (v := .int .i64 (I64 (2 * x8_0))) (k2 := [.inRegion (opsOf (pl Go.Proofs.Try.f15 [1, 1, 1, 0, 1, 0, 0, 1, 0, 0, 1, 1])) []]) fun w => by kernel_rfl) (fun _ _ => trivial) hS ?_
          rcases two (decide (0 ≤ (I64 (2 * x8_0)))) with c12 | c12
          · replace h := of_true h c12
            rcases two (decide ((I64 (2 * x8_0)) < (t2.length : Int))) with c13 | c13
            · replace h := of_true h c13
              obtain ⟨q11, hAq11, hcq11, hfq11, hlq11⟩ := hM.str_at 0 rfl (i := I64 (2 * x8_0)) (of_decide_eq_true c12) (by have h_ := of_decide_eq_true c13; omega)
              refine RunAny.y 3 (by kernel_rfl) (idx_own (d := some 41) (A := A3) (m := t2.length) (i := I64 (2 * x8_0)) (k2 := [.inRegion (opsOf (pl Go.Proofs.Try.f15 [1, 1, 1, 0, 1, 0, 0, 1, 0, 0, 1, 1])) []]) (by kernel_rfl) (of_decide_eq_true c12) (by have h_ := of_decide_eq_true c13; omega) hAq11) (fun _ _ => trivial) hS ?_
              refine RunAny.y 4 (by kernel_rfl) (ld_y (d := some 42) (p := ⟨q11, (I64 (2 * x8_0) : Int).toNat, none⟩) (k2 := [.inRegion (opsOf (pl Go.Proofs.Try.f15 [1, 1, 1, 0, 1, 0, 0, 1, 0, 0, 1, 1])) []]) (.string (rds t2 (I64 (2 * x8_0)))) (by kernel_rfl)) (fun _ hs => hs.cell hcq11 (by simp)) hS ?_
              refine RunAny.y 5 (by kernel_rfl) (yl_pure (d := some 43) (v := .int .i64 (bxor .i64 x6_0 x7_0)) (k2 := [.inRegion (opsOf (pl Go.Proofs.Try.f15 [1, 1, 1, 0, 1, 0, 0, 1, 0, 0, 1, 1])) []]) fun w => by kernel_rfl) (fun _ _ => trivial) hS ?_
              refine RunAny.y 7 (by kernel_rfl) (yl_pure (d := some 45) (v := .slice A3 t2.length c5) (k2 := [.inRegion (opsOf (pl Go.Proofs.Try.f15 [1, 1, 1, 0, 1, 0, 0, 1, 0, 0, 1, 1])) []]) fun w => by kernel_rfl) (fun _ _ => trivial) hS ?_
              refine RunAny.y 8 (by kernel_rfl) (yl_pure (d := some 46) (v := .int .i64 x8_0) (k2 := [.inRegion (opsOf (pl Go.Proofs.Try.f15 [1, 1, 1, 0, 1, 0, 0, 1, 0, 0, 1, 1])) []]) fun w => by kernel_rfl) (fun _ _ => trivial) hS ?_
              refine RunAny.y 9 (by kernel_rfl) (yl_pure (d := some 47) (v := .int .i64 (I64 (2 * x8_0))) (k2 := [.inRegion (opsOf (pl Go.Proofs.Try.f15 [1, 1, 1, 0, 1, 0, 0, 1, 0, 0, 1, 1])) []]) fun w => by kernel_rfl) (fun _ _ => trivial) hS ?_
              refine RunAny.y 10 (by kernel_rfl) (yl_pure (d := some 48) (v := .int .i64 (I64 ((I64 (2 * x8_0)) + 1))) (k2 := [.inRegion (opsOf (pl Go.Proofs.Try.f15 [1, 1, 1, 0, 1, 0, 0, 1, 0, 0, 1, 1])) []]) fun w => by kernel_rfl) (fun _ _ => trivial) hS ?_
              rcases two (decide (0 ≤ (I64 ((I64 (2 * x8_0)) + 1)))) with c15 | c15
              · replace h := of_true h c15
                rcases two (decide ((I64 ((I64 (2 * x8_0)) + 1)) < (t2.length : Int))) with c16 | c16
                · replace h := of_true h c16
                  obtain ⟨q14, hAq14, hcq14, hfq14, hlq14⟩ := hM.str_at 0 rfl (i := I64 ((I64 (2 * x8_0)) + 1)) (of_decide_eq_true c15) (by have h_ := of_decide_eq_true c16; omega)
                  refine RunAny.y 11 (by kernel_rfl) (idx_own (d := some 49) (A := A3) (m := t2.length) (i := I64 ((I64 (2 * x8_0)) + 1)) (k2 := [.inRegion (opsOf (pl Go.Proofs.Try.f15 [1, 1, 1, 0, 1, 0, 0, 1, 0, 0, 1, 1])) []]) (by kernel_rfl) (of_decide_eq_true c15) (by have h_ := of_decide_eq_true c16; omega) hAq14) (fun _ _ => trivial) hS ?_
                  refine RunAny.y 12 (by kernel_rfl) (ld_y (d := some 50) (p := ⟨q14, (I64 ((I64 (2 * x8_0)) + 1) : Int).toNat, none⟩) (k2 := [.inRegion (opsOf (pl Go.Proofs.Try.f15 [1, 1, 1, 0, 1, 0, 0, 1, 0, 0, 1, 1])) []]) (.string (rds t2 (I64 ((I64 (2 * x8_0)) + 1)))) (by kernel_rfl)) (fun _ hs => hs.cell hcq14 (by simp)) hS ?_
                  refine RunAny.y 13 (by kernel_rfl) (yl_pure (d := some 51) (v := .int .i64 y8) (k2 := [.inRegion (opsOf (pl Go.Proofs.Try.f15 [1, 1, 1, 0, 1, 0, 0, 1, 0, 0, 1, 1])) []]) fun w => by kernel_rfl) (fun _ _ => trivial) hS ?_
                  obtain ⟨t18, ht18, h⟩ := Option.bind_eq_some_iff.mp h
                  refine RunAny.call 6 (d := some 44) (g := 33) (args := #[.string (rds t2 (I64 (2 * x8_0))), .int .i64 (bxor .i64 x6_0 x7_0)]) (by kernel_rfl) (by kernel_rfl) (scrimref6_At.calls k (rds t2 (I64 (2 * x8_0))) (bxor .i64 x6_0 x7_0) t18 _ ht18) (by rintro _ _ ⟨rfl, hM_⟩; exact hS.below hM_.below) ?_
                  rintro _ W17 ⟨rfl, hM_⟩
                  replace hS := hS.below hM_.below
                  replace hM := hM.call hM_
                  clear hM_ ht18
                  refine RunAny.rebase hS ?_
                  replace hS := Still.refl W17 []
                  obtain ⟨t20, ht20, h⟩ := Option.bind_eq_some_iff.mp h
                  refine RunAny.call 14 (d := some 52) (g := 33) (args := #[.string (rds t2 (I64 ((I64 (2 * x8_0)) + 1))), .int .i64 y8]) (by kernel_rfl) (by kernel_rfl) (scrimref6_At.calls k (rds t2 (I64 ((I64 (2 * x8_0)) + 1))) y8 t20 _ ht20) (by rintro _ _ ⟨rfl, hM_⟩; exact hS.below hM_.below) ?_
                  rintro _ W19 ⟨rfl, hM_⟩
                  replace hS := hS.below hM_.below
                  replace hM := hM.call hM_
                  clear hM_ ht20
                  refine RunAny.rebase hS ?_
                  replace hS := Still.refl W19 []
                  refine RunAny.y 15 (by kernel_rfl) (yl_pure (d := some 6) (v := .int .i64 t18) (k2 := [.inRegion (opsOf (pl Go.Proofs.Try.f15 [1, 1, 1, 0, 1, 0, 0, 1, 0, 0, 1, 1])) []]) fun w => by kernel_rfl) (fun _ _ => trivial) hS ?_
                  refine RunAny.y 16 (by kernel_rfl) (yl_pure (d := some 7) (v := .int .i64 t20) (k2 := [.inRegion (opsOf (pl Go.Proofs.Try.f15 [1, 1, 1, 0, 1, 0, 0, 1, 0, 0, 1, 1])) []]) fun w => by kernel_rfl) (fun _ _ => trivial) hS ?_
                  refine RunAny.done (by kernel_rfl) ?_
                  clear hS
                  refine RunF.go 7 [5, 6, 7, 8] (k' := (pl Go.Proofs.Try.f15 [1, 1, 1, 0, 1, 0, 0])) (L' := [(5, .slice A3 t2.length c5), (6, .int .i64 t18), (7, .int .i64 t20), (8, .int .i64 (I64 (x8_0 + 1)))]) (w' := W19) (by kernel_rfl) ?_
                  exact ih0 k (by omega) t18 t20 (I64 (x8_0 + 1)) _ (hM.pick [0] rfl rfl) h
                · replace h := of_false h c16
                  cases h
              · replace h := of_false h c15
                cases h
            · replace h := of_false h c13
              cases h
          · replace h := of_false h c12
            cases h
        · replace h := of_false h c7
          refine RunF.know 20 (b := false) (by kernel_rfl) c7 ?_
          refine RunF.go 11 [4] (k' := (pl Go.Proofs.Try.f15 [1, 1, 1, 1, 1])) (L' := [(4, .int .u8 (U8 (I64 ((I64 (16 * x7_0)) + x6_0))))]) (w' := W) (by kernel_rfl) ?_
          obtain rfl := Option.some.inj h
          exact RunF.ret1 4 (.int .u8 (U8 (I64 ((I64 (16 * x7_0)) + x6_0)))) (fn := Go.Proofs.Try.f15) Go.Proofs.Try.func15 (by kernel_rfl) (by kernel_rfl) (by kernel_rfl) ⟨_, rfl, rfl, (hM.pick [] rfl rfl)⟩
  exact l0 k (Nat.le_refl _) (I64 (shr a1 4)) (I64 (band .u8 a1 15)) 0 _ (hM.pick [0] rfl rfl) h

/-! ### scrim/scrimlaw9.TwofishQ: function 4 -/
def scrimlaw9_TwofishQ.l0 : Nat → Int → Int → (List Bool) → Int → Option (Bool)
  | 0, _, _, _, _ => none
  | k + 1, a0, t5, x6_0, x7_0 => if (decide (x7_0 < 256)) = true then ((twofish_Q.f k t5 (U8 (x7_0))).bind fun t11 => (if (decide (0 ≤ t11)) = true then (if (decide (t11 < (256 : Int))) = true then (if (rdb x6_0 t11) = true then (some false) else ((scrimref9_Q.f k t5 (U8 (x7_0))).bind fun t17 => (if (t11 != t17) = true then (some false) else (if (decide (0 ≤ t11)) = true then (if (decide (t11 < (256 : Int))) = true then (scrimlaw9_TwofishQ.l0 k a0 t5 (x6_0.set (t11 : Int).toNat true) (I64 (x7_0 + 1))) else (none)) else (none))))) else (none)) else (none))) else ((twofish_Q.f k 0 a0).bind fun t24 => ((scrimref9_Q.f k 0 a0).bind fun t26 => (if (t24 == t26) = true then ((twofish_Q.f k 1 a0).bind fun t29 => ((scrimref9_Q.f k 1 a0).bind fun t31 => (some (t29 == t31)))) else (some false))))
def scrimlaw9_TwofishQ.f (k : Nat) (a0 : Int) (a1 : Int) : Option (Bool) := (scrimlaw9_known.f k).bind fun t2 => (if (!t2) = true then (some false) else ((scrimlaw9_within.f k a1 2).bind fun t5 => (scrimlaw9_TwofishQ.l0 k a0 t5 (List.replicate 256 false) 0)))
set_option maxRecDepth 100000 in
theorem scrimlaw9_TwofishQ.calls (k : Nat) (a0 : Int) (a1 : Int) (r : Bool) (w : World) (h : scrimlaw9_TwofishQ.f k a0 a1 = some r) :
    Calls Go.Proofs.Try.prog 4 #[.int .u8 a0, .int .i64 a1] w (Ret fun v w' => v = .bool r ∧ Mem w w' []) := by
  unfold scrimlaw9_TwofishQ.f at h
  refine calls_of [.int .u8 a0, .int .i64 a1] (fn := Go.Proofs.Try.f4) Go.Proofs.Try.func4 (by kernel_rfl) (by kernel_rfl) ?_
  have hM := Mem.refl w
  refine RunF.go 7 [0, 1] (k' := (pin Go.Proofs.Try.f4 [1, 0, 0] 0)) (L' := [(0, .int .u8 a0), (1, .int .i64 a1)]) (w' := w) (by kernel_rfl) ?_
  obtain ⟨t2, ht2, h⟩ := Option.bind_eq_some_iff.mp h
  refine RunF.call (d := some 9) (g := 8) (args := #[]) (k2 := (pin Go.Proofs.Try.f4 [1, 0, 0] 1)) (by kernel_rfl) (scrimlaw9_known.calls k t2 _ ht2) ?_
  rintro _ W1 ⟨rfl, hM_⟩
  replace hM := hM.call hM_
  clear hM_ ht2
  refine RunF.go 2 [0, 1, 10] (k' := (pl Go.Proofs.Try.f4 [1, 0, 1])) (L' := [(0, .int .u8 a0), (1, .int .i64 a1), (10, .bool (!t2))]) (w' := W1) (by kernel_rfl) ?_
  rcases two (!t2) with c3 | c3
  · replace h := of_true h c3
    refine RunF.know 10 (b := true) (by kernel_rfl) c3 ?_
    refine RunF.go 5 [4] (k' := (pl Go.Proofs.Try.f4 [1, 0, 1, 0, 1])) (L' := [(4, .bool false)]) (w' := W1) (by kernel_rfl) ?_
    obtain rfl := Option.some.inj h
    exact RunF.ret1 4 (.bool false) (fn := Go.Proofs.Try.f4) Go.Proofs.Try.func4 (by kernel_rfl) (by kernel_rfl) (by kernel_rfl) ⟨_, rfl, rfl, (hM.pick [] rfl rfl)⟩
  · replace h := of_false h c3
    refine RunF.know 10 (b := false) (by kernel_rfl) c3 ?_
    refine RunF.go 5 [0, 11] (k' := (pin Go.Proofs.Try.f4 [1, 1, 0] 1)) (L' := [(0, .int .u8 a0), (11, .int .i64 a1)]) (w' := W1) (by kernel_rfl) ?_
    obtain ⟨t5, ht5, h⟩ := Option.bind_eq_some_iff.mp h
    refine RunF.call (d := some 12) (g := 13) (args := #[.int .i64 a1, .int .i64 2]) (k2 := (pin Go.Proofs.Try.f4 [1, 1, 0] 2)) (by kernel_rfl) (scrimlaw9_within.calls k a1 2 t5 _ ht5) ?_
    rintro _ W4 ⟨rfl, hM_⟩
    replace hM := hM.call hM_
    clear hM_ ht5
    refine RunF.go 4 [0, 5] (k' := (pin Go.Proofs.Try.f4 [1, 1, 1, 0] 0)) (L' := [(0, .int .u8 a0), (5, .int .i64 t5)]) (w' := W4) (by kernel_rfl) ?_
    obtain ⟨W6, hD, hM', hB_⟩ := mk_does (P := Go.Proofs.Try.prog) (n := 49) (k := (pin Go.Proofs.Try.f4 [1, 1, 1, 0] 0)) (L := [(0, .int .u8 a0), (5, .int .i64 t5)]) (d := some 13) (e := 4) (z := .bool false) (l := 256) (c := 256) (k2 := (pin Go.Proofs.Try.f4 [1, 1, 1, 0] 1)) (by kernel_rfl) (by omega) (by omega) (by omega) hM
    rw [rep_bools] at hM'
    refine RunF.does hD ?_
    replace hM := hM'; clear hD hM'
    generalize W4.heap.size = g7 at hM ⊢
    refine RunF.go 9 [0, 5, 6, 7] (k' := (pl Go.Proofs.Try.f4 [1, 1, 1, 1, 0, 1, 0, 0])) (L' := [(0, .int .u8 a0), (5, .int .i64 t5), (6, .slice (some ⟨g7, 0, none⟩) 256 256), (7, .int .i64 0)]) (w' := W6) (by kernel_rfl) ?_
    have l0 : ∀ (k_ : Nat), k_ ≤ k → ∀ (x6_0 : List Bool) (x7_0 : Int) (W : World) (hM : Mem w W [⟨.slice (some ⟨g7, 0, none⟩) 256 256, 4, 1, bools x6_0⟩]) (h : scrimlaw9_TwofishQ.l0 k_ a0 t5 x6_0 x7_0 = some r), RunF Go.Proofs.Try.prog (Ret fun v w' => v = .bool r ∧ Mem w w' []) 4 (pl Go.Proofs.Try.f4 [1, 1, 1, 1, 0, 1, 0, 0]) 49 [(0, .int .u8 a0), (5, .int .i64 t5), (6, .slice (some ⟨g7, 0, none⟩) 256 256), (7, .int .i64 x7_0)] W := by
      intro k_
      induction k_ using Nat.strongRecOn with
      | _ k_ ih0 =>
        intro hk x6_0 x7_0 W hM h
        cases k_ with
        | zero => exact absurd h (by simp [scrimlaw9_TwofishQ.l0])
        | succ k =>
          simp only [scrimlaw9_TwofishQ.l0] at h
          replace ih0 : ∀ m, m ≤ k → _ := fun m hm => ih0 m (by omega) (by omega)
          refine RunF.go 6 [0, 5, 6, 7, 15] (k' := (pl Go.Proofs.Try.f4 [1, 1, 1, 1, 0, 1, 0, 0, 0, 1])) (L' := [(0, .int .u8 a0), (5, .int .i64 t5), (6, .slice (some ⟨g7, 0, none⟩) 256 256), (7, .int .i64 x7_0), (15, .bool (decide (x7_0 < 256)))]) (w' := W) (by kernel_rfl) ?_
          rcases two (decide (x7_0 < 256)) with c9 | c9
          · replace h := of_true h c9
            refine RunF.know 15 (b := true) (by kernel_rfl) c9 ?_
            refine RunF.go 9 [0, 5, 6, 7, 18, 20] (k' := (pin Go.Proofs.Try.f4 [1, 1, 1, 1, 0, 1, 0, 0, 1, 0, 0, 0] 3)) (L' := [(0, .int .u8 a0), (5, .int .i64 t5), (6, .slice (some ⟨g7, 0, none⟩) 256 256), (7, .int .i64 x7_0), (18, .int .i64 t5), (20, .int .u8 (U8 (x7_0)))]) (w' := W) (by kernel_rfl) ?_
            obtain ⟨t11, ht11, h⟩ := Option.bind_eq_some_iff.mp h
            refine RunF.call (d := some 21) (g := 14) (args := #[.int .i64 t5, .int .u8 (U8 (x7_0))]) (k2 := (pin Go.Proofs.Try.f4 [1, 1, 1, 1, 0, 1, 0, 0, 1, 0, 0, 0] 4)) (by kernel_rfl) (twofish_Q.calls k t5 (U8 (x7_0)) t11 _ ht11) ?_
            rintro _ W10 ⟨rfl, hM_⟩
            replace hM := hM.call hM_
            clear hM_ ht11
            refine RunF.go 7 [0, 5, 6, 7, 8, 22, 23] (k' := (pin Go.Proofs.Try.f4 [1, 1, 1, 1, 0, 1, 0, 0, 1, 0, 0, 1, 0, 0] 2)) (L' := [(0, .int .u8 a0), (5, .int .i64 t5), (6, .slice (some ⟨g7, 0, none⟩) 256 256), (7, .int .i64 x7_0), (8, .int .u8 t11), (22, .slice (some ⟨g7, 0, none⟩) 256 256), (23, .int .u8 t11)]) (w' := W10) (by kernel_rfl) ?_
            rcases two (decide (0 ≤ t11)) with c13 | c13
            · replace h := of_true h c13
              rcases two (decide (t11 < (256 : Int))) with c14 | c14
              · replace h := of_true h c14
                obtain ⟨q12, hAq12, hcq12, hfq12, hlq12⟩ := hM.bool_at 0 rfl (i := t11) (of_decide_eq_true c13) (by have h_ := of_decide_eq_true c14; omega)
                refine RunF.y (idx_own (d := some 24) (A := (some ⟨g7, 0, none⟩)) (m := 256) (i := t11) (k2 := (pin Go.Proofs.Try.f4 [1, 1, 1, 1, 0, 1, 0, 0, 1, 0, 0, 1, 0, 0] 3)) (by kernel_rfl) (of_decide_eq_true c13) (by have h_ := of_decide_eq_true c14; omega) hAq12) trivial ?_
                refine RunF.y (ld_y (d := some 25) (p := ⟨q12, (t11 : Int).toNat, none⟩) (k2 := (pin Go.Proofs.Try.f4 [1, 1, 1, 1, 0, 1, 0, 0, 1, 0, 0, 1, 0, 0] 4)) (.bool (rdb x6_0 t11)) (by kernel_rfl)) hcq12 ?_
                refine RunF.go 1 [0, 5, 6, 7, 8, 26] (k' := (pin Go.Proofs.Try.f4 [1, 1, 1, 1, 0, 1, 0, 0, 1, 0, 0, 1, 0, 0] 5)) (L' := [(0, .int .u8 a0), (5, .int .i64 t5), (6, .slice (some ⟨g7, 0, none⟩) 256 256), (7, .int .i64 x7_0), (8, .int .u8 t11), (26, .bool (rdb x6_0 t11))]) (w' := W10) (by kernel_rfl) ?_
                rcases two (rdb x6_0 t11) with c15 | c15
                · replace h := of_true h c15
                  refine RunF.know 26 (b := true) (by kernel_rfl) c15 ?_
                  refine RunF.go 13 [4] (k' := (pl Go.Proofs.Try.f4 [1, 1, 1, 1, 0, 1, 0, 0, 1, 0, 0, 1, 0, 1, 0, 1])) (L' := [(4, .bool false)]) (w' := W10) (by kernel_rfl) ?_
                  obtain rfl := Option.some.inj h
                  exact RunF.ret1 4 (.bool false) (fn := Go.Proofs.Try.f4) Go.Proofs.Try.func4 (by kernel_rfl) (by kernel_rfl) (by kernel_rfl) ⟨_, rfl, rfl, (hM.pick [] rfl rfl)⟩
                · replace h := of_false h c15
                  refine RunF.know 26 (b := false) (by kernel_rfl) c15 ?_
                  refine RunF.go 4 [0, 5, 6, 7, 8, 26, 27, 28, 30] (k' := (pin Go.Proofs.Try.f4 [1, 1, 1, 1, 0, 1, 0, 0, 1, 0, 0, 1, 0, 0] 9)) (L' := [(0, .int .u8 a0), (5, .int .i64 t5), (6, .slice (some ⟨g7, 0, none⟩) 256 256), (7, .int .i64 x7_0), (8, .int .u8 t11), (26, .bool false), (27, .int .u8 t11), (28, .int .i64 t5), (30, .int .u8 (U8 (x7_0)))]) (w' := W10) (by kernel_rfl) ?_
                  obtain ⟨t17, ht17, h⟩ := Option.bind_eq_some_iff.mp h
                  refine RunF.call (d := some 31) (g := 15) (args := #[.int .i64 t5, .int .u8 (U8 (x7_0))]) (k2 := (pin Go.Proofs.Try.f4 [1, 1, 1, 1, 0, 1, 0, 0, 1, 0, 0, 1, 0, 0] 10)) (by kernel_rfl) (scrimref9_Q.calls k t5 (U8 (x7_0)) t17 _ ht17) ?_
                  rintro _ W16 ⟨rfl, hM_⟩
                  replace hM := hM.call hM_
                  clear hM_ ht17
                  refine RunF.go 3 [0, 5, 6, 7, 8, 33] (k' := (pl Go.Proofs.Try.f4 [1, 1, 1, 1, 0, 1, 0, 0, 1, 0, 0, 1, 0, 1])) (L' := [(0, .int .u8 a0), (5, .int .i64 t5), (6, .slice (some ⟨g7, 0, none⟩) 256 256), (7, .int .i64 x7_0), (8, .int .u8 t11), (33, .bool (t11 != t17))]) (w' := W16) (by kernel_rfl) ?_
                  rcases two ((t11 != t17)) with c18 | c18
                  · replace h := of_true h c18
                    refine RunF.know 33 (b := true) (by kernel_rfl) c18 ?_
                    refine RunF.go 5 [4] (k' := (pl Go.Proofs.Try.f4 [1, 1, 1, 1, 0, 1, 0, 0, 1, 0, 0, 1, 0, 1, 0, 1])) (L' := [(4, .bool false)]) (w' := W16) (by kernel_rfl) ?_
                    obtain rfl := Option.some.inj h
                    exact RunF.ret1 4 (.bool false) (fn := Go.Proofs.Try.f4) Go.Proofs.Try.func4 (by kernel_rfl) (by kernel_rfl) (by kernel_rfl) ⟨_, rfl, rfl, (hM.pick [] rfl rfl)⟩
                  · replace h := of_false h c18
                    refine RunF.know 33 (b := false) (by kernel_rfl) c18 ?_
                    refine RunF.go 5 [0, 5, 6, 7, 34, 35] (k' := (pin Go.Proofs.Try.f4 [1, 1, 1, 1, 0, 1, 0, 0, 1, 0, 0, 1, 1] 2)) (L' := [(0, .int .u8 a0), (5, .int .i64 t5), (6, .slice (some ⟨g7, 0, none⟩) 256 256), (7, .int .i64 x7_0), (34, .slice (some ⟨g7, 0, none⟩) 256 256), (35, .int .u8 t11)]) (w' := W16) (by kernel_rfl) ?_
                    rcases two (decide (0 ≤ t11)) with c20 | c20
                    · replace h := of_true h c20
                      rcases two (decide (t11 < (256 : Int))) with c21 | c21
                      · replace h := of_true h c21
                        obtain ⟨q19, hAq19, hcq19, hfq19, hlq19⟩ := hM.bool_at 0 rfl (i := t11) (of_decide_eq_true c20) (by have h_ := of_decide_eq_true c21; omega)
                        refine RunF.y (idx_own (d := some 36) (A := (some ⟨g7, 0, none⟩)) (m := 256) (i := t11) (k2 := (pin Go.Proofs.Try.f4 [1, 1, 1, 1, 0, 1, 0, 0, 1, 0, 0, 1, 1] 3)) (by kernel_rfl) (of_decide_eq_true c20) (by have h_ := of_decide_eq_true c21; omega) hAq19) trivial ?_
                        obtain ⟨g_, hA_, hc_, hf_, hl_⟩ := hM.bool_at 0 rfl (i := t11) (of_decide_eq_true c20) (by have h_ := of_decide_eq_true c21; omega)
                        obtain rfl : q19 = g_ := by rw [hAq19] at hA_; injection hA_ with hA_; injection hA_
                        refine RunF.doesU (st_u (p := (⟨q19, (t11 : Int).toNat, none⟩ : Addr)) (v := .bool true) (k2 := (pin Go.Proofs.Try.f4 [1, 1, 1, 1, 0, 1, 0, 0, 1, 0, 0, 1, 1] 4)) (by kernel_rfl) hc_ hf_) ?_
                        replace hM : Mem w (W16.setCell (⟨q19, (t11 : Int).toNat, none⟩ : Addr) (.bool true)) [⟨.slice (some ⟨g7, 0, none⟩) 256 256, 4, 1, bools (x6_0.set (t11 : Int).toNat true)⟩] := Mem.put_bool [] [] (hM.pick [0] rfl rfl) hAq19 _ hl_ _
                        generalize W16.setCell (⟨q19, (t11 : Int).toNat, none⟩ : Addr) (.bool true) = W22 at hM ⊢
                        clear hc_ hf_ hl_ hA_ hcq19
                        refine RunF.go 8 [0, 5, 6, 7] (k' := (pl Go.Proofs.Try.f4 [1, 1, 1, 1, 0, 1, 0, 0])) (L' := [(0, .int .u8 a0), (5, .int .i64 t5), (6, .slice (some ⟨g7, 0, none⟩) 256 256), (7, .int .i64 (I64 (x7_0 + 1)))]) (w' := W22) (by kernel_rfl) ?_
                        exact ih0 k (by omega) (x6_0.set (t11 : Int).toNat true) (I64 (x7_0 + 1)) _ (hM.pick [0] rfl rfl) h
                      · replace h := of_false h c21
                        cases h
                    · replace h := of_false h c20
                      cases h
              · replace h := of_false h c14
                cases h
            · replace h := of_false h c13
              cases h
          · replace h := of_false h c9
            refine RunF.know 15 (b := false) (by kernel_rfl) c9 ?_
            refine RunF.go 5 [0, 37] (k' := (pin Go.Proofs.Try.f4 [1, 1, 1, 1, 1, 0] 1)) (L' := [(0, .int .u8 a0), (37, .int .u8 a0)]) (w' := W) (by kernel_rfl) ?_
            obtain ⟨t24, ht24, h⟩ := Option.bind_eq_some_iff.mp h
            refine RunF.call (d := some 38) (g := 14) (args := #[.int .i64 0, .int .u8 a0]) (k2 := (pin Go.Proofs.Try.f4 [1, 1, 1, 1, 1, 0] 2)) (by kernel_rfl) (twofish_Q.calls k 0 a0 t24 _ ht24) ?_
            rintro _ W23 ⟨rfl, hM_⟩
            replace hM := hM.call hM_
            clear hM_ ht24
            refine RunF.go 1 [0, 38, 39] (k' := (pin Go.Proofs.Try.f4 [1, 1, 1, 1, 1, 0] 3)) (L' := [(0, .int .u8 a0), (38, .int .u8 t24), (39, .int .u8 a0)]) (w' := W23) (by kernel_rfl) ?_
            obtain ⟨t26, ht26, h⟩ := Option.bind_eq_some_iff.mp h
            refine RunF.call (d := some 40) (g := 15) (args := #[.int .i64 0, .int .u8 a0]) (k2 := (pin Go.Proofs.Try.f4 [1, 1, 1, 1, 1, 0] 4)) (by kernel_rfl) (scrimref9_Q.calls k 0 a0 t26 _ ht26) ?_
            rintro _ W25 ⟨rfl, hM_⟩
            replace hM := hM.call hM_
            clear hM_ ht26
            refine RunF.go 2 [0, 42] (k' := (pin Go.Proofs.Try.f4 [1, 1, 1, 1, 1, 0] 6)) (L' := [(0, .int .u8 a0), (42, .bool (t24 == t26))]) (w' := W25) (by kernel_rfl) ?_
            rcases two ((t24 == t26)) with c27 | c27
            · replace h := of_true h c27
              refine RunF.know 42 (b := true) (by kernel_rfl) c27 ?_
              refine RunF.go 1 [0, 42, 43] (k' := (pin Go.Proofs.Try.f4 [1, 1, 1, 1, 1, 0] 7)) (L' := [(0, .int .u8 a0), (42, .bool true), (43, .int .u8 a0)]) (w' := W25) (by kernel_rfl) ?_
              obtain ⟨t29, ht29, h⟩ := Option.bind_eq_some_iff.mp h
              refine RunF.call (d := some 44) (g := 14) (args := #[.int .i64 1, .int .u8 a0]) (k2 := (pin Go.Proofs.Try.f4 [1, 1, 1, 1, 1, 0] 8)) (by kernel_rfl) (twofish_Q.calls k 1 a0 t29 _ ht29) ?_
              rintro _ W28 ⟨rfl, hM_⟩
              replace hM := hM.call hM_
              clear hM_ ht29
              refine RunF.go 1 [42, 44, 45] (k' := (pin Go.Proofs.Try.f4 [1, 1, 1, 1, 1, 0] 9)) (L' := [(42, .bool true), (44, .int .u8 t29), (45, .int .u8 a0)]) (w' := W28) (by kernel_rfl) ?_
              obtain ⟨t31, ht31, h⟩ := Option.bind_eq_some_iff.mp h
              refine RunF.call (d := some 46) (g := 15) (args := #[.int .i64 1, .int .u8 a0]) (k2 := (pin Go.Proofs.Try.f4 [1, 1, 1, 1, 1, 0] 10)) (by kernel_rfl) (scrimref9_Q.calls k 1 a0 t31 _ ht31) ?_
              rintro _ W30 ⟨rfl, hM_⟩
              replace hM := hM.call hM_
              clear hM_ ht31
              refine RunF.go 4 [4] (k' := (pl Go.Proofs.Try.f4 [1, 1, 1, 1, 1, 1])) (L' := [(4, .bool (t29 == t31))]) (w' := W30) (by kernel_rfl) ?_
              obtain rfl := Option.some.inj h
              exact RunF.ret1 4 (.bool (t29 == t31)) (fn := Go.Proofs.Try.f4) Go.Proofs.Try.func4 (by kernel_rfl) (by kernel_rfl) (by kernel_rfl) ⟨_, rfl, rfl, (hM.pick [] rfl rfl)⟩
            · replace h := of_false h c27
              refine RunF.know 42 (b := false) (by kernel_rfl) c27 ?_
              refine RunF.go 8 [4] (k' := (pl Go.Proofs.Try.f4 [1, 1, 1, 1, 1, 1])) (L' := [(4, .bool false)]) (w' := W25) (by kernel_rfl) ?_
              obtain rfl := Option.some.inj h
              exact RunF.ret1 4 (.bool false) (fn := Go.Proofs.Try.f4) Go.Proofs.Try.func4 (by kernel_rfl) (by kernel_rfl) (by kernel_rfl) ⟨_, rfl, rfl, (hM.pick [] rfl rfl)⟩
    exact l0 k (Nat.le_refl _) (List.replicate 256 false) 0 _ (hM.pick [0] rfl rfl) h


end Go.Scr.S
