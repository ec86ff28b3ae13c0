/- The functions that the law FieldKnown reaches, as plain functions, and that each call answers so. -/
import Derived.Test.YtlmfmbbkhmnipaaProg
import Derived.Test.YtlmfmbbkhmnipaaXDeep3
set_option linter.unusedVariables false
set_option linter.unusedSimpArgs false
set_option linter.unnecessarySimpa false
namespace Go.Scr.S
open Go.RowKit (Below)

/-! ### scrim/field.Mul: function 15 -/
def field_Mul.l0 : Nat → Int → Int → Int → Int → Option (Int)
  | 0, _, _, _, _ => none
  | k + 1, a2, x7_0, x8_0, x9_0 => if (x9_0 == 0) = true then (some (U8 (x7_0))) else (if (decide ((band .i64 x9_0 1) > 0)) = true then (if (decide ((shl .i64 x8_0 1) ≥ 256)) = true then ((some (band .i64 (bxor .i64 (shl .i64 x8_0 1) a2) 255 : Int)).bind fun y4 => (field_Mul.l0 k a2 (bxor .i64 x7_0 x8_0) y4 (shr x9_0 1))) else (field_Mul.l0 k a2 (bxor .i64 x7_0 x8_0) (band .i64 (shl .i64 x8_0 1) 255) (shr x9_0 1))) else (if (decide ((shl .i64 x8_0 1) ≥ 256)) = true then ((some (band .i64 (bxor .i64 (shl .i64 x8_0 1) a2) 255 : Int)).bind fun y6 => (field_Mul.l0 k a2 x7_0 y6 (shr x9_0 1))) else (field_Mul.l0 k a2 x7_0 (band .i64 (shl .i64 x8_0 1) 255) (shr x9_0 1))))
def field_Mul.f (k : Nat) (a0 : Int) (a1 : Int) (a2 : Int) : Option (Int) := field_Mul.l0 k a2 0 (I64 (a0)) (I64 (a1))
set_option maxRecDepth 100000 in
theorem field_Mul.calls (k : Nat) (a0 : Int) (a1 : Int) (a2 : Int) (r : Int) (w : World) (h : field_Mul.f k a0 a1 a2 = some r) :
    Calls Go.Proofs.Try.prog 15 #[.int .u8 a0, .int .u8 a1, .int .i64 a2] w (Ret fun v w' => v = .int .u8 r ∧ Mem w w' []) := by
  unfold field_Mul.f at h
  refine calls_of [.int .u8 a0, .int .u8 a1, .int .i64 a2] (fn := Go.Proofs.Try.f15) Go.Proofs.Try.func15 (by kernel_rfl) (by kernel_rfl) ?_
  have hM := Mem.refl w
  refine RunF.go 17 [2, 7, 8, 9] (k' := (pl Go.Proofs.Try.f15 [1, 0, 1, 1])) (L' := [(2, .int .i64 a2), (7, .int .i64 0), (8, .int .i64 (I64 (a0))), (9, .int .i64 (I64 (a1)))]) (w' := w) (by kernel_rfl) ?_
  have l0 : ∀ (k_ : Nat), k_ ≤ k → ∀ (x7_0 : Int) (x8_0 : Int) (x9_0 : Int) (W : World) (hM : Mem w W []) (h : field_Mul.l0 k_ a2 x7_0 x8_0 x9_0 = some r), RunF Go.Proofs.Try.prog (Ret fun v w' => v = .int .u8 r ∧ Mem w w' []) 15 (pl Go.Proofs.Try.f15 [1, 0, 1, 1]) 35 [(2, .int .i64 a2), (7, .int .i64 x7_0), (8, .int .i64 x8_0), (9, .int .i64 x9_0)] W := by
    intro k_
    induction k_ using Nat.strongRecOn with
    | _ k_ ih0 =>
      intro hk x7_0 x8_0 x9_0 W hM h
      cases k_ with
      | zero => exact absurd h (by simp [field_Mul.l0])
      | succ k =>
        simp only [field_Mul.l0] at h
        replace ih0 : ∀ m, m ≤ k → _ := fun m hm => ih0 m (by omega) (by omega)
        refine RunF.go 6 [2, 7, 8, 9, 15] (k' := (pl Go.Proofs.Try.f15 [1, 0, 1, 1, 0, 1])) (L' := [(2, .int .i64 a2), (7, .int .i64 x7_0), (8, .int .i64 x8_0), (9, .int .i64 x9_0), (15, .bool (x9_0 == 0))]) (w' := W) (by kernel_rfl) ?_
        rcases two ((x9_0 == 0)) with c1 | c1
        · replace h := of_true h c1
          refine RunF.know 15 (b := true) (by kernel_rfl) c1 ?_
          refine RunF.go 7 [6] (k' := (pl Go.Proofs.Try.f15 [1, 0, 1, 1, 0, 1, 0, 1])) (L' := [(6, .int .u8 (U8 (x7_0)))]) (w' := W) (by kernel_rfl) ?_
          obtain rfl := Option.some.inj h
          exact RunF.ret1 6 (.int .u8 (U8 (x7_0))) (fn := Go.Proofs.Try.f15) Go.Proofs.Try.func15 (by kernel_rfl) (by kernel_rfl) (by kernel_rfl) ⟨_, rfl, rfl, (hM.pick [] rfl rfl)⟩
        · replace h := of_false h c1
          refine RunF.know 15 (b := false) (by kernel_rfl) c1 ?_
          refine RunF.go 9 [2, 7, 8, 9, 20] (k' := (pl Go.Proofs.Try.f15 [1, 0, 1, 1, 1, 0, 1])) (L' := [(2, .int .i64 a2), (7, .int .i64 x7_0), (8, .int .i64 x8_0), (9, .int .i64 x9_0), (20, .bool (decide ((band .i64 x9_0 1) > 0)))]) (w' := W) (by kernel_rfl) ?_
          rcases two (decide ((band .i64 x9_0 1) > 0)) with c2 | c2
          · replace h := of_true h c2
            refine RunF.know 20 (b := true) (by kernel_rfl) c2 ?_
            refine RunF.go 22 [2, 7, 8, 9, 29] (k' := (pl Go.Proofs.Try.f15 [1, 0, 1, 1, 1, 1, 0, 1, 1])) (L' := [(2, .int .i64 a2), (7, .int .i64 (bxor .i64 x7_0 x8_0)), (8, .int .i64 (shl .i64 x8_0 1)), (9, .int .i64 (shr x9_0 1)), (29, .bool (decide ((shl .i64 x8_0 1) ≥ 256)))]) (w' := W) (by kernel_rfl) ?_
            rcases two (decide ((shl .i64 x8_0 1) ≥ 256)) with c3 | c3
            · replace h := of_true h c3
              refine RunF.know 29 (b := true) (by kernel_rfl) c3 ?_
              refine RunF.go 16 [2, 7, 8, 9] (k' := (pl Go.Proofs.Try.f15 [1, 0, 1, 1])) (L' := [(2, .int .i64 a2), (7, .int .i64 (bxor .i64 x7_0 x8_0)), (8, .int .i64 (band .i64 (bxor .i64 (shl .i64 x8_0 1) a2) 255)), (9, .int .i64 (shr x9_0 1))]) (w' := W) (by kernel_rfl) ?_
              obtain ⟨y4, hy, h⟩ := Option.bind_eq_some_iff.mp h
              rw [show (band .i64 (bxor .i64 (shl .i64 x8_0 1) a2) 255) = y4 from Option.some.inj hy]
              clear hy
              exact ih0 k (by omega) (bxor .i64 x7_0 x8_0) y4 (shr x9_0 1) _ (hM.pick [] rfl rfl) h
            · replace h := of_false h c3
              refine RunF.know 29 (b := false) (by kernel_rfl) c3 ?_
              refine RunF.go 11 [2, 7, 8, 9] (k' := (pl Go.Proofs.Try.f15 [1, 0, 1, 1])) (L' := [(2, .int .i64 a2), (7, .int .i64 (bxor .i64 x7_0 x8_0)), (8, .int .i64 (band .i64 (shl .i64 x8_0 1) 255)), (9, .int .i64 (shr x9_0 1))]) (w' := W) (by kernel_rfl) ?_
              exact ih0 k (by omega) (bxor .i64 x7_0 x8_0) (band .i64 (shl .i64 x8_0 1) 255) (shr x9_0 1) _ (hM.pick [] rfl rfl) h
          · replace h := of_false h c2
            refine RunF.know 20 (b := false) (by kernel_rfl) c2 ?_
            refine RunF.go 17 [2, 7, 8, 9, 29] (k' := (pl Go.Proofs.Try.f15 [1, 0, 1, 1, 1, 1, 0, 1, 1])) (L' := [(2, .int .i64 a2), (7, .int .i64 x7_0), (8, .int .i64 (shl .i64 x8_0 1)), (9, .int .i64 (shr x9_0 1)), (29, .bool (decide ((shl .i64 x8_0 1) ≥ 256)))]) (w' := W) (by kernel_rfl) ?_
            rcases two (decide ((shl .i64 x8_0 1) ≥ 256)) with c5 | c5
            · replace h := of_true h c5
              refine RunF.know 29 (b := true) (by kernel_rfl) c5 ?_
              refine RunF.go 16 [2, 7, 8, 9] (k' := (pl Go.Proofs.Try.f15 [1, 0, 1, 1])) (L' := [(2, .int .i64 a2), (7, .int .i64 x7_0), (8, .int .i64 (band .i64 (bxor .i64 (shl .i64 x8_0 1) a2) 255)), (9, .int .i64 (shr x9_0 1))]) (w' := W) (by kernel_rfl) ?_
              obtain ⟨y6, hy, h⟩ := Option.bind_eq_some_iff.mp h
              rw [show (band .i64 (bxor .i64 (shl .i64 x8_0 1) a2) 255) = y6 from Option.some.inj hy]
              clear hy
              exact ih0 k (by omega) x7_0 y6 (shr x9_0 1) _ (hM.pick [] rfl rfl) h
            · replace h := of_false h c5
              refine RunF.know 29 (b := false) (by kernel_rfl) c5 ?_
              refine RunF.go 11 [2, 7, 8, 9] (k' := (pl Go.Proofs.Try.f15 [1, 0, 1, 1])) (L' := [(2, .int .i64 a2), (7, .int .i64 x7_0), (8, .int .i64 (band .i64 (shl .i64 x8_0 1) 255)), (9, .int .i64 (shr x9_0 1))]) (w' := W) (by kernel_rfl) ?_
              exact ih0 k (by omega) x7_0 (band .i64 (shl .i64 x8_0 1) 255) (shr x9_0 1) _ (hM.pick [] rfl rfl) h
  exact l0 k (Nat.le_refl _) 0 (I64 (a0)) (I64 (a1)) _ (hM.pick [] rfl rfl) h

/-! ### scrim/field.Pow: function 17 -/
def field_Pow.l0 : Nat → Int → Int → Int → Int → Option (Int)
  | 0, _, _, _, _ => none
  | k + 1, a2, x0_0, x1_0, x7_0 => if (decide (x1_0 ≤ 0)) = true then (some x7_0) else (if (decide ((band .i64 x1_0 1) > 0)) = true then ((field_Mul.f k x7_0 x0_0 a2).bind fun t4 => ((field_Mul.f k x0_0 x0_0 a2).bind fun t6 => (field_Pow.l0 k a2 t6 (shr x1_0 1) t4))) else ((field_Mul.f k x0_0 x0_0 a2).bind fun t8 => (field_Pow.l0 k a2 t8 (shr x1_0 1) x7_0)))
def field_Pow.f (k : Nat) (a0 : Int) (a1 : Int) (a2 : Int) : Option (Int) := field_Pow.l0 k a2 a0 a1 1
set_option maxRecDepth 100000 in
theorem field_Pow.calls (k : Nat) (a0 : Int) (a1 : Int) (a2 : Int) (r : Int) (w : World) (h : field_Pow.f k a0 a1 a2 = some r) :
    Calls Go.Proofs.Try.prog 17 #[.int .u8 a0, .int .i64 a1, .int .i64 a2] w (Ret fun v w' => v = .int .u8 r ∧ Mem w w' []) := by
  unfold field_Pow.f at h
  refine calls_of [.int .u8 a0, .int .i64 a1, .int .i64 a2] (fn := Go.Proofs.Try.f17) Go.Proofs.Try.func17 (by kernel_rfl) (by kernel_rfl) ?_
  have hM := Mem.refl w
  refine RunF.go 11 [0, 1, 2, 7] (k' := (pl Go.Proofs.Try.f17 [1, 0, 1, 1])) (L' := [(0, .int .u8 a0), (1, .int .i64 a1), (2, .int .i64 a2), (7, .int .u8 1)]) (w' := w) (by kernel_rfl) ?_
  have l0 : ∀ (k_ : Nat), k_ ≤ k → ∀ (x0_0 : Int) (x1_0 : Int) (x7_0 : Int) (W : World) (hM : Mem w W []) (h : field_Pow.l0 k_ a2 x0_0 x1_0 x7_0 = some r), RunF Go.Proofs.Try.prog (Ret fun v w' => v = .int .u8 r ∧ Mem w w' []) 17 (pl Go.Proofs.Try.f17 [1, 0, 1, 1]) 24 [(0, .int .u8 x0_0), (1, .int .i64 x1_0), (2, .int .i64 a2), (7, .int .u8 x7_0)] W := by
    intro k_
    induction k_ using Nat.strongRecOn with
    | _ k_ ih0 =>
      intro hk x0_0 x1_0 x7_0 W hM h
      cases k_ with
      | zero => exact absurd h (by simp [field_Pow.l0])
      | succ k =>
        simp only [field_Pow.l0] at h
        replace ih0 : ∀ m, m ≤ k → _ := fun m hm => ih0 m (by omega) (by omega)
        refine RunF.go 6 [0, 1, 2, 7, 9] (k' := (pl Go.Proofs.Try.f17 [1, 0, 1, 1, 0, 1])) (L' := [(0, .int .u8 x0_0), (1, .int .i64 x1_0), (2, .int .i64 a2), (7, .int .u8 x7_0), (9, .bool (decide (x1_0 ≤ 0)))]) (w' := W) (by kernel_rfl) ?_
        rcases two (decide (x1_0 ≤ 0)) with c1 | c1
        · replace h := of_true h c1
          refine RunF.know 9 (b := true) (by kernel_rfl) c1 ?_
          refine RunF.go 6 [6] (k' := (pl Go.Proofs.Try.f17 [1, 0, 1, 1, 0, 1, 0, 1])) (L' := [(6, .int .u8 x7_0)]) (w' := W) (by kernel_rfl) ?_
          obtain rfl := Option.some.inj h
          exact RunF.ret1 6 (.int .u8 x7_0) (fn := Go.Proofs.Try.f17) Go.Proofs.Try.func17 (by kernel_rfl) (by kernel_rfl) (by kernel_rfl) ⟨_, rfl, rfl, (hM.pick [] rfl rfl)⟩
        · replace h := of_false h c1
          refine RunF.know 9 (b := false) (by kernel_rfl) c1 ?_
          refine RunF.go 9 [0, 1, 2, 7, 13] (k' := (pl Go.Proofs.Try.f17 [1, 0, 1, 1, 1, 0, 1])) (L' := [(0, .int .u8 x0_0), (1, .int .i64 x1_0), (2, .int .i64 a2), (7, .int .u8 x7_0), (13, .bool (decide ((band .i64 x1_0 1) > 0)))]) (w' := W) (by kernel_rfl) ?_
          rcases two (decide ((band .i64 x1_0 1) > 0)) with c2 | c2
          · replace h := of_true h c2
            refine RunF.know 13 (b := true) (by kernel_rfl) c2 ?_
            refine RunF.go 5 [0, 1, 2, 14, 15, 16] (k' := (pin Go.Proofs.Try.f17 [1, 0, 1, 1, 1, 0, 1, 0] 3)) (L' := [(0, .int .u8 x0_0), (1, .int .i64 x1_0), (2, .int .i64 a2), (14, .int .u8 x7_0), (15, .int .u8 x0_0), (16, .int .i64 a2)]) (w' := W) (by kernel_rfl) ?_
            obtain ⟨t4, ht4, h⟩ := Option.bind_eq_some_iff.mp h
            refine RunF.call (d := some 17) (g := 15) (args := #[.int .u8 x7_0, .int .u8 x0_0, .int .i64 a2]) (k2 := (pin Go.Proofs.Try.f17 [1, 0, 1, 1, 1, 0, 1, 0] 4)) (by kernel_rfl) (field_Mul.calls k x7_0 x0_0 a2 t4 _ ht4) ?_
            rintro _ W3 ⟨rfl, hM_⟩
            replace hM := hM.call hM_
            clear hM_ ht4
            refine RunF.go 7 [1, 2, 7, 18, 19, 20] (k' := (pin Go.Proofs.Try.f17 [1, 0, 1, 1, 1, 1, 0] 3)) (L' := [(1, .int .i64 x1_0), (2, .int .i64 a2), (7, .int .u8 t4), (18, .int .u8 x0_0), (19, .int .u8 x0_0), (20, .int .i64 a2)]) (w' := W3) (by kernel_rfl) ?_
            obtain ⟨t6, ht6, h⟩ := Option.bind_eq_some_iff.mp h
            refine RunF.call (d := some 21) (g := 15) (args := #[.int .u8 x0_0, .int .u8 x0_0, .int .i64 a2]) (k2 := (pin Go.Proofs.Try.f17 [1, 0, 1, 1, 1, 1, 0] 4)) (by kernel_rfl) (field_Mul.calls k x0_0 x0_0 a2 t6 _ ht6) ?_
            rintro _ W5 ⟨rfl, hM_⟩
            replace hM := hM.call hM_
            clear hM_ ht6
            refine RunF.go 8 [0, 1, 2, 7] (k' := (pl Go.Proofs.Try.f17 [1, 0, 1, 1])) (L' := [(0, .int .u8 t6), (1, .int .i64 (shr x1_0 1)), (2, .int .i64 a2), (7, .int .u8 t4)]) (w' := W5) (by kernel_rfl) ?_
            exact ih0 k (by omega) t6 (shr x1_0 1) t4 _ (hM.pick [] rfl rfl) h
          · replace h := of_false h c2
            refine RunF.know 13 (b := false) (by kernel_rfl) c2 ?_
            refine RunF.go 7 [1, 2, 7, 18, 19, 20] (k' := (pin Go.Proofs.Try.f17 [1, 0, 1, 1, 1, 1, 0] 3)) (L' := [(1, .int .i64 x1_0), (2, .int .i64 a2), (7, .int .u8 x7_0), (18, .int .u8 x0_0), (19, .int .u8 x0_0), (20, .int .i64 a2)]) (w' := W) (by kernel_rfl) ?_
            obtain ⟨t8, ht8, h⟩ := Option.bind_eq_some_iff.mp h
            refine RunF.call (d := some 21) (g := 15) (args := #[.int .u8 x0_0, .int .u8 x0_0, .int .i64 a2]) (k2 := (pin Go.Proofs.Try.f17 [1, 0, 1, 1, 1, 1, 0] 4)) (by kernel_rfl) (field_Mul.calls k x0_0 x0_0 a2 t8 _ ht8) ?_
            rintro _ W7 ⟨rfl, hM_⟩
            replace hM := hM.call hM_
            clear hM_ ht8
            refine RunF.go 8 [0, 1, 2, 7] (k' := (pl Go.Proofs.Try.f17 [1, 0, 1, 1])) (L' := [(0, .int .u8 t8), (1, .int .i64 (shr x1_0 1)), (2, .int .i64 a2), (7, .int .u8 x7_0)]) (w' := W7) (by kernel_rfl) ?_
            exact ih0 k (by omega) t8 (shr x1_0 1) x7_0 _ (hM.pick [] rfl rfl) h
  exact l0 k (Nat.le_refl _) a0 a1 1 _ (hM.pick [] rfl rfl) h

/-! ### scrim/field.Inv: function 19 -/
def field_Inv.l0 : Nat → Int → Int → Int → Option (Int)
  | 0, _, _, _ => none
  | k + 1, a0, a1, x6_0 => if (decide (x6_0 < 256)) = true then ((field_Mul.f k a0 (U8 (x6_0)) a1).bind fun t3 => (if (t3 == 1) = true then (some (U8 (x6_0))) else (field_Inv.l0 k a0 a1 (I64 (x6_0 + 1))))) else (some 0)
def field_Inv.f (k : Nat) (a0 : Int) (a1 : Int) : Option (Int) := field_Inv.l0 k a0 a1 0
set_option maxRecDepth 100000 in
theorem field_Inv.calls (k : Nat) (a0 : Int) (a1 : Int) (r : Int) (w : World) (h : field_Inv.f k a0 a1 = some r) :
    Calls Go.Proofs.Try.prog 19 #[.int .u8 a0, .int .i64 a1] w (Ret fun v w' => v = .int .u8 r ∧ Mem w w' []) := by
  unfold field_Inv.f at h
  refine calls_of [.int .u8 a0, .int .i64 a1] (fn := Go.Proofs.Try.f19) Go.Proofs.Try.func19 (by kernel_rfl) (by kernel_rfl) ?_
  have hM := Mem.refl w
  refine RunF.go 11 [0, 1, 6] (k' := (pl Go.Proofs.Try.f19 [1, 0, 1, 0, 0])) (L' := [(0, .int .u8 a0), (1, .int .i64 a1), (6, .int .i64 0)]) (w' := w) (by kernel_rfl) ?_
  have l0 : ∀ (k_ : Nat), k_ ≤ k → ∀ (x6_0 : Int) (W : World) (hM : Mem w W []) (h : field_Inv.l0 k_ a0 a1 x6_0 = some r), RunF Go.Proofs.Try.prog (Ret fun v w' => v = .int .u8 r ∧ Mem w w' []) 19 (pl Go.Proofs.Try.f19 [1, 0, 1, 0, 0]) 18 [(0, .int .u8 a0), (1, .int .i64 a1), (6, .int .i64 x6_0)] W := by
    intro k_
    induction k_ using Nat.strongRecOn with
    | _ k_ ih0 =>
      intro hk x6_0 W hM h
      cases k_ with
      | zero => exact absurd h (by simp [field_Inv.l0])
      | succ k =>
        simp only [field_Inv.l0] at h
        replace ih0 : ∀ m, m ≤ k → _ := fun m hm => ih0 m (by omega) (by omega)
        refine RunF.go 5 [0, 1, 6, 7] (k' := (pl Go.Proofs.Try.f19 [1, 0, 1, 0, 0, 1, 0])) (L' := [(0, .int .u8 a0), (1, .int .i64 a1), (6, .int .i64 x6_0), (7, .bool (decide (x6_0 < 256)))]) (w' := W) (by kernel_rfl) ?_
        rcases two (decide (x6_0 < 256)) with c1 | c1
        · replace h := of_true h c1
          refine RunF.know 7 (b := true) (by kernel_rfl) c1 ?_
          refine RunF.go 15 [0, 1, 5, 6, 9, 11, 12] (k' := (pin Go.Proofs.Try.f19 [1, 0, 1, 0, 0, 1, 1, 0, 0, 1, 0] 4)) (L' := [(0, .int .u8 a0), (1, .int .i64 a1), (5, .int .i64 x6_0), (6, .int .i64 x6_0), (9, .int .u8 a0), (11, .int .u8 (U8 (x6_0))), (12, .int .i64 a1)]) (w' := W) (by kernel_rfl) ?_
          obtain ⟨t3, ht3, h⟩ := Option.bind_eq_some_iff.mp h
          refine RunF.call (d := some 13) (g := 15) (args := #[.int .u8 a0, .int .u8 (U8 (x6_0)), .int .i64 a1]) (k2 := (pin Go.Proofs.Try.f19 [1, 0, 1, 0, 0, 1, 1, 0, 0, 1, 0] 5)) (by kernel_rfl) (field_Mul.calls k a0 (U8 (x6_0)) a1 t3 _ ht3) ?_
          rintro _ W2 ⟨rfl, hM_⟩
          replace hM := hM.call hM_
          clear hM_ ht3
          refine RunF.go 2 [0, 1, 5, 6, 14] (k' := (pl Go.Proofs.Try.f19 [1, 0, 1, 0, 0, 1, 1, 0, 0, 1, 1])) (L' := [(0, .int .u8 a0), (1, .int .i64 a1), (5, .int .i64 x6_0), (6, .int .i64 x6_0), (14, .bool (t3 == 1))]) (w' := W2) (by kernel_rfl) ?_
          rcases two ((t3 == 1)) with c4 | c4
          · replace h := of_true h c4
            refine RunF.know 14 (b := true) (by kernel_rfl) c4 ?_
            refine RunF.go 7 [4] (k' := (pl Go.Proofs.Try.f19 [1, 0, 1, 0, 0, 1, 1, 0, 0, 1, 1, 0, 1])) (L' := [(4, .int .u8 (U8 (x6_0)))]) (w' := W2) (by kernel_rfl) ?_
            obtain rfl := Option.some.inj h
            exact RunF.ret1 4 (.int .u8 (U8 (x6_0))) (fn := Go.Proofs.Try.f19) Go.Proofs.Try.func19 (by kernel_rfl) (by kernel_rfl) (by kernel_rfl) ⟨_, rfl, rfl, (hM.pick [] rfl rfl)⟩
          · replace h := of_false h c4
            refine RunF.know 14 (b := false) (by kernel_rfl) c4 ?_
            refine RunF.go 8 [0, 1, 6] (k' := (pl Go.Proofs.Try.f19 [1, 0, 1, 0, 0])) (L' := [(0, .int .u8 a0), (1, .int .i64 a1), (6, .int .i64 (I64 (x6_0 + 1)))]) (w' := W2) (by kernel_rfl) ?_
            exact ih0 k (by omega) (I64 (x6_0 + 1)) _ (hM.pick [] rfl rfl) h
        · replace h := of_false h c1
          refine RunF.know 7 (b := false) (by kernel_rfl) c1 ?_
          refine RunF.go 6 [4] (k' := (pl Go.Proofs.Try.f19 [1, 1, 1])) (L' := [(4, .int .u8 0)]) (w' := W) (by kernel_rfl) ?_
          obtain rfl := Option.some.inj h
          exact RunF.ret1 4 (.int .u8 0) (fn := Go.Proofs.Try.f19) Go.Proofs.Try.func19 (by kernel_rfl) (by kernel_rfl) (by kernel_rfl) ⟨_, rfl, rfl, (hM.pick [] rfl rfl)⟩
  exact l0 k (Nat.le_refl _) 0 _ (hM.pick [] rfl rfl) h

/-! ### scrim/scrimlaw3.known: function 12 -/
def scrimlaw3_known.f (k : Nat)  : Option (Bool) := (field_Mul.f k 2 128 283).bind fun t2 => (if (t2 == 27) = true then ((field_Pow.f k 3 0 283).bind fun t5 => (if (t5 == 1) = true then ((field_Inv.f k 1 283).bind fun t8 => (some (t8 == 1))) else (some false))) else (some false))
set_option maxRecDepth 100000 in
theorem scrimlaw3_known.calls (k : Nat)  (r : Bool) (w : World) (h : scrimlaw3_known.f k = some r) :
    Calls Go.Proofs.Try.prog 12 #[] w (Ret fun v w' => v = .bool r ∧ Mem w w' []) := by
  unfold scrimlaw3_known.f at h
  refine calls_of [] (fn := Go.Proofs.Try.f12) Go.Proofs.Try.func12 (by kernel_rfl) (by kernel_rfl) ?_
  have hM := Mem.refl w
  refine RunF.go 6 [] (k' := (pin Go.Proofs.Try.f12 [1, 0] 0)) (L' := []) (w' := w) (by kernel_rfl) ?_
  obtain ⟨t2, ht2, h⟩ := Option.bind_eq_some_iff.mp h
  refine RunF.call (d := some 1) (g := 15) (args := #[.int .u8 2, .int .u8 128, .int .i64 283]) (k2 := (pin Go.Proofs.Try.f12 [1, 0] 1)) (by kernel_rfl) (field_Mul.calls k 2 128 283 t2 _ ht2) ?_
  rintro _ W1 ⟨rfl, hM_⟩
  replace hM := hM.call hM_
  clear hM_ ht2
  refine RunF.go 2 [3] (k' := (pin Go.Proofs.Try.f12 [1, 0] 3)) (L' := [(3, .bool (t2 == 27))]) (w' := W1) (by kernel_rfl) ?_
  rcases two ((t2 == 27)) with c3 | c3
  · replace h := of_true h c3
    refine RunF.know 3 (b := true) (by kernel_rfl) c3 ?_
    obtain ⟨t5, ht5, h⟩ := Option.bind_eq_some_iff.mp h
    refine RunF.call (d := some 4) (g := 17) (args := #[.int .u8 3, .int .i64 0, .int .i64 283]) (k2 := (pin Go.Proofs.Try.f12 [1, 0] 4)) (by kernel_rfl) (field_Pow.calls k 3 0 283 t5 _ ht5) ?_
    rintro _ W4 ⟨rfl, hM_⟩
    replace hM := hM.call hM_
    clear hM_ ht5
    refine RunF.go 3 [7] (k' := (pin Go.Proofs.Try.f12 [1, 0] 7)) (L' := [(7, .bool (t5 == 1))]) (w' := W4) (by kernel_rfl) ?_
    rcases two ((t5 == 1)) with c6 | c6
    · replace h := of_true h c6
      refine RunF.know 7 (b := true) (by kernel_rfl) c6 ?_
      obtain ⟨t8, ht8, h⟩ := Option.bind_eq_some_iff.mp h
      refine RunF.call (d := some 8) (g := 19) (args := #[.int .u8 1, .int .i64 283]) (k2 := (pin Go.Proofs.Try.f12 [1, 0] 8)) (by kernel_rfl) (field_Inv.calls k 1 283 t8 _ ht8) ?_
      rintro _ W7 ⟨rfl, hM_⟩
      replace hM := hM.call hM_
      clear hM_ ht8
      refine RunF.go 4 [0] (k' := (pl Go.Proofs.Try.f12 [1, 1])) (L' := [(0, .bool (t8 == 1))]) (w' := W7) (by kernel_rfl) ?_
      obtain rfl := Option.some.inj h
      exact RunF.ret1 0 (.bool (t8 == 1)) (fn := Go.Proofs.Try.f12) Go.Proofs.Try.func12 (by kernel_rfl) (by kernel_rfl) (by kernel_rfl) ⟨_, rfl, rfl, (hM.pick [] rfl rfl)⟩
    · replace h := of_false h c6
      refine RunF.know 7 (b := false) (by kernel_rfl) c6 ?_
      refine RunF.go 5 [0] (k' := (pl Go.Proofs.Try.f12 [1, 1])) (L' := [(0, .bool false)]) (w' := W4) (by kernel_rfl) ?_
      obtain rfl := Option.some.inj h
      exact RunF.ret1 0 (.bool false) (fn := Go.Proofs.Try.f12) Go.Proofs.Try.func12 (by kernel_rfl) (by kernel_rfl) (by kernel_rfl) ⟨_, rfl, rfl, (hM.pick [] rfl rfl)⟩
  · replace h := of_false h c3
    refine RunF.know 3 (b := false) (by kernel_rfl) c3 ?_
    refine RunF.go 9 [0] (k' := (pl Go.Proofs.Try.f12 [1, 1])) (L' := [(0, .bool false)]) (w' := W1) (by kernel_rfl) ?_
    obtain rfl := Option.some.inj h
    exact RunF.ret1 0 (.bool false) (fn := Go.Proofs.Try.f12) Go.Proofs.Try.func12 (by kernel_rfl) (by kernel_rfl) (by kernel_rfl) ⟨_, rfl, rfl, (hM.pick [] rfl rfl)⟩

/-! ### scrim/scrimlaw3.within: function 14 -/
def scrimlaw3_within.f (k : Nat) (a0 : Int) (a1 : Int) : Option (Int) := if (decide (a1 = 0)) = true then (none) else (if (decide ((Int.tmod a0 a1) < 0)) = true then (some (I64 ((Int.tmod a0 a1) + a1))) else (some (Int.tmod a0 a1)))
set_option maxRecDepth 100000 in
theorem scrimlaw3_within.calls (k : Nat) (a0 : Int) (a1 : Int) (r : Int) (w : World) (h : scrimlaw3_within.f k a0 a1 = some r) :
    Calls Go.Proofs.Try.prog 14 #[.int .i64 a0, .int .i64 a1] w (Ret fun v w' => v = .int .i64 r ∧ Mem w w' []) := by
  unfold scrimlaw3_within.f at h
  refine calls_of [.int .i64 a0, .int .i64 a1] (fn := Go.Proofs.Try.f14) Go.Proofs.Try.func14 (by kernel_rfl) (by kernel_rfl) ?_
  have hM := Mem.refl w
  refine RunF.go 8 [1, 6, 7] (k' := (pin Go.Proofs.Try.f14 [1, 0] 2)) (L' := [(1, .int .i64 a1), (6, .int .i64 a0), (7, .int .i64 a1)]) (w' := w) (by kernel_rfl) ?_
  rcases two (decide (a1 = 0)) with c1 | c1
  · replace h := of_true h c1
    cases h
  · replace h := of_false h c1
    refine RunF.y (div_y (d := some 8) (b := false) (kd := .i64) (x := a0) (y := a1) (k2 := (pin Go.Proofs.Try.f14 [1, 0] 3)) (by kernel_rfl) c1) trivial ?_
    refine RunF.go 8 [1, 5, 10] (k' := (pl Go.Proofs.Try.f14 [1, 1, 0, 1])) (L' := [(1, .int .i64 a1), (5, .int .i64 (Int.tmod a0 a1)), (10, .bool (decide ((Int.tmod a0 a1) < 0)))]) (w' := w) (by kernel_rfl) ?_
    rcases two (decide ((Int.tmod a0 a1) < 0)) with c2 | c2
    · replace h := of_true h c2
      refine RunF.know 10 (b := true) (by kernel_rfl) c2 ?_
      refine RunF.go 12 [4] (k' := (pl Go.Proofs.Try.f14 [1, 1, 1, 1])) (L' := [(4, .int .i64 (I64 ((Int.tmod a0 a1) + a1)))]) (w' := w) (by kernel_rfl) ?_
      obtain rfl := Option.some.inj h
      exact RunF.ret1 4 (.int .i64 (I64 ((Int.tmod a0 a1) + a1))) (fn := Go.Proofs.Try.f14) Go.Proofs.Try.func14 (by kernel_rfl) (by kernel_rfl) (by kernel_rfl) ⟨_, rfl, rfl, (hM.pick [] rfl rfl)⟩
    · replace h := of_false h c2
      refine RunF.know 10 (b := false) (by kernel_rfl) c2 ?_
      refine RunF.go 7 [4] (k' := (pl Go.Proofs.Try.f14 [1, 1, 1, 1])) (L' := [(4, .int .i64 (Int.tmod a0 a1))]) (w' := w) (by kernel_rfl) ?_
      obtain rfl := Option.some.inj h
      exact RunF.ret1 4 (.int .i64 (Int.tmod a0 a1)) (fn := Go.Proofs.Try.f14) Go.Proofs.Try.func14 (by kernel_rfl) (by kernel_rfl) (by kernel_rfl) ⟨_, rfl, rfl, (hM.pick [] rfl rfl)⟩

/-! ### scrim/scrimlaw3.FieldKnown: function 9 -/
def scrimlaw3_FieldKnown.f (k : Nat) (a0 : Int) : Option (Bool) := (scrimlaw3_known.f k).bind fun t2 => (if (!t2) = true then (some false) else ((scrimlaw3_within.f k a0 10).bind fun t8 => (if (decide (0 ≤ t8)) = true then (if (decide (t8 < (10 : Int))) = true then (if (decide (0 ≤ t8)) = true then (if (decide (t8 < (10 : Int))) = true then (if (decide (0 ≤ t8)) = true then (if (decide (t8 < (10 : Int))) = true then (if (decide (0 ≤ t8)) = true then (if (decide (t8 < (10 : Int))) = true then ((field_Mul.f k (U8 (rd ([87, 131, 283, 193, 87, 19, 283, 254, 2, 128, 283, 27, 2, 128, 361, 105, 2, 128, 333, 77, 83, 202, 283, 1, 16, 16, 256, 0, 15, 15, 256, 85, 255, 1, 511, 255, 128, 2, 285, 29] : List Int) ((t8 * (4 : Int)) + 0))) (U8 (rd ([87, 131, 283, 193, 87, 19, 283, 254, 2, 128, 283, 27, 2, 128, 361, 105, 2, 128, 333, 77, 83, 202, 283, 1, 16, 16, 256, 0, 15, 15, 256, 85, 255, 1, 511, 255, 128, 2, 285, 29] : List Int) ((t8 * (4 : Int)) + 1))) (rd ([87, 131, 283, 193, 87, 19, 283, 254, 2, 128, 283, 27, 2, 128, 361, 105, 2, 128, 333, 77, 83, 202, 283, 1, 16, 16, 256, 0, 15, 15, 256, 85, 255, 1, 511, 255, 128, 2, 285, 29] : List Int) ((t8 * (4 : Int)) + 2))).bind fun t32 => (some ((I64 (t32)) == (rd ([87, 131, 283, 193, 87, 19, 283, 254, 2, 128, 283, 27, 2, 128, 361, 105, 2, 128, 333, 77, 83, 202, 283, 1, 16, 16, 256, 0, 15, 15, 256, 85, 255, 1, 511, 255, 128, 2, 285, 29] : List Int) ((t8 * (4 : Int)) + 3))))) else (none)) else (none)) else (none)) else (none)) else (none)) else (none)) else (none)) else (none))))
set_option maxRecDepth 100000 in
theorem scrimlaw3_FieldKnown.calls (k : Nat) (a0 : Int) (r : Bool) (w : World) (h : scrimlaw3_FieldKnown.f k a0 = some r) :
    Calls Go.Proofs.Try.prog 9 #[.int .i64 a0] w (Ret fun v w' => v = .bool r ∧ Mem w w' []) := by
  unfold scrimlaw3_FieldKnown.f at h
  refine calls_of [.int .i64 a0] (fn := Go.Proofs.Try.f9) Go.Proofs.Try.func9 (by kernel_rfl) (by kernel_rfl) ?_
  have hM := Mem.refl w
  refine RunF.go 7 [0] (k' := (pin Go.Proofs.Try.f9 [1, 0, 0] 0)) (L' := [(0, .int .i64 a0)]) (w' := w) (by kernel_rfl) ?_
  obtain ⟨t2, ht2, h⟩ := Option.bind_eq_some_iff.mp h
  refine RunF.call (d := some 5) (g := 12) (args := #[]) (k2 := (pin Go.Proofs.Try.f9 [1, 0, 0] 1)) (by kernel_rfl) (scrimlaw3_known.calls k t2 _ ht2) ?_
  rintro _ W1 ⟨rfl, hM_⟩
  replace hM := hM.call hM_
  clear hM_ ht2
  refine RunF.go 2 [0, 6] (k' := (pl Go.Proofs.Try.f9 [1, 0, 1])) (L' := [(0, .int .i64 a0), (6, .bool (!t2))]) (w' := W1) (by kernel_rfl) ?_
  rcases two (!t2) with c3 | c3
  · replace h := of_true h c3
    refine RunF.know 6 (b := true) (by kernel_rfl) c3 ?_
    refine RunF.go 5 [2] (k' := (pl Go.Proofs.Try.f9 [1, 0, 1, 0, 1])) (L' := [(2, .bool false)]) (w' := W1) (by kernel_rfl) ?_
    obtain rfl := Option.some.inj h
    exact RunF.ret1 2 (.bool false) (fn := Go.Proofs.Try.f9) Go.Proofs.Try.func9 (by kernel_rfl) (by kernel_rfl) (by kernel_rfl) ⟨_, rfl, rfl, (hM.pick [] rfl rfl)⟩
  · replace h := of_false h c3
    refine RunF.know 6 (b := false) (by kernel_rfl) c3 ?_
    refine RunF.go 14 [0, 7, 8, 9, 10, 11, 12, 13, 14, 15, 16] (k' := (pin Go.Proofs.Try.f9 [1, 1, 0] 10)) (L' := [(0, .int .i64 a0), (7, .agg (nums .i64 ([87, 131, 283, 193] : List Int)).toArray), (8, .agg (nums .i64 ([87, 19, 283, 254] : List Int)).toArray), (9, .agg (nums .i64 ([2, 128, 283, 27] : List Int)).toArray), (10, .agg (nums .i64 ([2, 128, 361, 105] : List Int)).toArray), (11, .agg (nums .i64 ([2, 128, 333, 77] : List Int)).toArray), (12, .agg (nums .i64 ([83, 202, 283, 1] : List Int)).toArray), (13, .agg (nums .i64 ([16, 16, 256, 0] : List Int)).toArray), (14, .agg (nums .i64 ([15, 15, 256, 85] : List Int)).toArray), (15, .agg (nums .i64 ([255, 1, 511, 255] : List Int)).toArray), (16, .agg (nums .i64 ([128, 2, 285, 29] : List Int)).toArray)]) (w' := W1) (by kernel_rfl) ?_
    refine RunF.new 34 4 10 (nums .i64 ([87, 131, 283, 193, 87, 19, 283, 254, 2, 128, 283, 27, 2, 128, 361, 105, 2, 128, 333, 77, 83, 202, 283, 1, 16, 16, 256, 0, 15, 15, 256, 85, 255, 1, 511, 255, 128, 2, 285, 29] : List Int)) (d := some 17) (k2 := (pin Go.Proofs.Try.f9 [1, 1, 0] 11)) hM (by simp [nums, bools, strs]) (by kernel_rfl) (by kernel_rfl) ?_
    replace hM := hM
    intro g4 W5 hM
    refine RunF.go 7 [3, 18, 20] (k' := (pin Go.Proofs.Try.f9 [1, 1, 1, 0] 3)) (L' := [(3, .slice (some ⟨g4, 0, none⟩) 10 10), (18, .int .i64 a0), (20, .int .i64 10)]) (w' := W5) (by kernel_rfl) ?_
    obtain ⟨t8, ht8, h⟩ := Option.bind_eq_some_iff.mp h
    refine RunF.call (d := some 21) (g := 14) (args := #[.int .i64 a0, .int .i64 10]) (k2 := (pin Go.Proofs.Try.f9 [1, 1, 1, 0] 4)) (by kernel_rfl) (scrimlaw3_within.calls k a0 10 t8 _ ht8) ?_
    rintro _ W7 ⟨rfl, hM_⟩
    replace hM := hM.call hM_
    clear hM_ ht8
    refine RunF.go 3 [3, 4] (k' := (pl Go.Proofs.Try.f9 [1, 1, 1, 1, 0])) (L' := [(3, .slice (some ⟨g4, 0, none⟩) 10 10), (4, .int .i64 t8)]) (w' := W7) (by kernel_rfl) ?_
    refine RunF.draw (Still ({ W7 with drawn := W7.drawn + 1 } : World) []) (by kernel_rfl) (by kernel_rfl) ?_
    have hMd10 := hM.drew
    have hS := Still.refl ({ W7 with drawn := W7.drawn + 1 } : World) []
    generalize ({ W7 with drawn := W7.drawn + 1 } : World) = W9 at hMd10 hS ⊢
    replace hM := hMd10
    refine RunAny.y 0 (by kernel_rfl) (yl_pure (d := some 22) (v := .slice (some ⟨g4, 0, none⟩) 10 10) (k2 := [.inRegion (opsOf (pl Go.Proofs.Try.f9 [1, 1, 1, 1, 0])) []]) fun w => by kernel_rfl) (fun _ _ => trivial) hS ?_
    refine RunAny.y 1 (by kernel_rfl) (yl_pure (d := some 23) (v := .int .i64 t8) (k2 := [.inRegion (opsOf (pl Go.Proofs.Try.f9 [1, 1, 1, 1, 0])) []]) fun w => by kernel_rfl) (fun _ _ => trivial) hS ?_
    rcases two (decide (0 ≤ t8)) with c13 | c13
    · replace h := of_true h c13
      rcases two (decide (t8 < (10 : Int))) with c14 | c14
      · replace h := of_true h c14
        obtain ⟨q12, hAq12⟩ := hM.row_some 0 rfl (by decide)
        have hbq12 : 0 ≤ (t8 * (4 : Int)) ∧ (t8 * (4 : Int)) + 4 ≤ 40 := by have h1_ : 0 ≤ t8 := (of_decide_eq_true c13); have h2_ : t8 < (10 : Int) := (of_decide_eq_true c14); omega
        refine RunAny.y 2 (by kernel_rfl) (idxS_y (d := some 24) (A := (some ⟨g4, 0, none⟩)) (m := 10) (sz := 4) (i := t8) (k2 := [.inRegion (opsOf (pl Go.Proofs.Try.f9 [1, 1, 1, 1, 0])) []]) (by kernel_rfl) (of_decide_eq_true c13) (of_decide_eq_true c14) hAq12) (fun _ _ => trivial) hS ?_
        have hiq15 : 0 ≤ (t8 * (4 : Int)) + 0 ∧ (t8 * (4 : Int)) + 0 < 40 := by have h1_ : 0 ≤ 0 := (by omega); have h2_ : 0 < (4 : Int) := (by decide); omega
        obtain ⟨q15, hAq15, hcq15, hfq15, hlq15⟩ := hM.cell_num 0 rfl (i := (t8 * (4 : Int)) + 0) hiq15.1 (by simpa using hiq15.2)
        obtain rfl : q12 = q15 := by have h_ := hAq12.symm.trans hAq15; injection h_ with h_; injection h_
        refine RunAny.y 3 (by kernel_rfl) (idxArr_in (d := some 25) (g := q12) (len := 4) (e := (t8 * (4 : Int))) (i := 0) (k2 := [.inRegion (opsOf (pl Go.Proofs.Try.f9 [1, 1, 1, 1, 0])) []]) (by kernel_rfl) hbq12.1 (by omega) (by decide)) (fun _ _ => trivial) hS ?_
        refine RunAny.y 4 (by kernel_rfl) (ld_y (d := some 26) (p := ⟨q12, ((t8 * (4 : Int)) + 0).toNat, none⟩) (k2 := [.inRegion (opsOf (pl Go.Proofs.Try.f9 [1, 1, 1, 1, 0])) []]) (.int .i64 (rd ([87, 131, 283, 193, 87, 19, 283, 254, 2, 128, 283, 27, 2, 128, 361, 105, 2, 128, 333, 77, 83, 202, 283, 1, 16, 16, 256, 0, 15, 15, 256, 85, 255, 1, 511, 255, 128, 2, 285, 29] : List Int) ((t8 * (4 : Int)) + 0))) (by kernel_rfl)) (fun _ hs => hs.cell hcq15 (by simp)) hS ?_
        refine RunAny.y 5 (by kernel_rfl) (yl_pure (d := some 27) (v := .int .u8 (U8 (rd ([87, 131, 283, 193, 87, 19, 283, 254, 2, 128, 283, 27, 2, 128, 361, 105, 2, 128, 333, 77, 83, 202, 283, 1, 16, 16, 256, 0, 15, 15, 256, 85, 255, 1, 511, 255, 128, 2, 285, 29] : List Int) ((t8 * (4 : Int)) + 0)))) (k2 := [.inRegion (opsOf (pl Go.Proofs.Try.f9 [1, 1, 1, 1, 0])) []]) fun w => by kernel_rfl) (fun _ _ => trivial) hS ?_
        refine RunAny.y 6 (by kernel_rfl) (yl_pure (d := some 28) (v := .slice (some ⟨g4, 0, none⟩) 10 10) (k2 := [.inRegion (opsOf (pl Go.Proofs.Try.f9 [1, 1, 1, 1, 0])) []]) fun w => by kernel_rfl) (fun _ _ => trivial) hS ?_
        refine RunAny.y 7 (by kernel_rfl) (yl_pure (d := some 29) (v := .int .i64 t8) (k2 := [.inRegion (opsOf (pl Go.Proofs.Try.f9 [1, 1, 1, 1, 0])) []]) fun w => by kernel_rfl) (fun _ _ => trivial) hS ?_
        rcases two (decide (0 ≤ t8)) with c18 | c18
        · replace h := of_true h c18
          rcases two (decide (t8 < (10 : Int))) with c19 | c19
          · replace h := of_true h c19
            obtain ⟨q17, hAq17⟩ := hM.row_some 0 rfl (by decide)
            have hbq17 : 0 ≤ (t8 * (4 : Int)) ∧ (t8 * (4 : Int)) + 4 ≤ 40 := by have h1_ : 0 ≤ t8 := (of_decide_eq_true c18); have h2_ : t8 < (10 : Int) := (of_decide_eq_true c19); omega
            refine RunAny.y 8 (by kernel_rfl) (idxS_y (d := some 30) (A := (some ⟨g4, 0, none⟩)) (m := 10) (sz := 4) (i := t8) (k2 := [.inRegion (opsOf (pl Go.Proofs.Try.f9 [1, 1, 1, 1, 0])) []]) (by kernel_rfl) (of_decide_eq_true c18) (of_decide_eq_true c19) hAq17) (fun _ _ => trivial) hS ?_
            have hiq20 : 0 ≤ (t8 * (4 : Int)) + 1 ∧ (t8 * (4 : Int)) + 1 < 40 := by have h1_ : 0 ≤ 1 := (by omega); have h2_ : 1 < (4 : Int) := (by decide); omega
            obtain ⟨q20, hAq20, hcq20, hfq20, hlq20⟩ := hM.cell_num 0 rfl (i := (t8 * (4 : Int)) + 1) hiq20.1 (by simpa using hiq20.2)
            obtain rfl : q17 = q20 := by have h_ := hAq17.symm.trans hAq20; injection h_ with h_; injection h_
            refine RunAny.y 9 (by kernel_rfl) (idxArr_in (d := some 31) (g := q17) (len := 4) (e := (t8 * (4 : Int))) (i := 1) (k2 := [.inRegion (opsOf (pl Go.Proofs.Try.f9 [1, 1, 1, 1, 0])) []]) (by kernel_rfl) hbq17.1 (by omega) (by decide)) (fun _ _ => trivial) hS ?_
            refine RunAny.y 10 (by kernel_rfl) (ld_y (d := some 32) (p := ⟨q17, ((t8 * (4 : Int)) + 1).toNat, none⟩) (k2 := [.inRegion (opsOf (pl Go.Proofs.Try.f9 [1, 1, 1, 1, 0])) []]) (.int .i64 (rd ([87, 131, 283, 193, 87, 19, 283, 254, 2, 128, 283, 27, 2, 128, 361, 105, 2, 128, 333, 77, 83, 202, 283, 1, 16, 16, 256, 0, 15, 15, 256, 85, 255, 1, 511, 255, 128, 2, 285, 29] : List Int) ((t8 * (4 : Int)) + 1))) (by kernel_rfl)) (fun _ hs => hs.cell hcq20 (by simp)) hS ?_
            refine RunAny.y 11 (by kernel_rfl) (yl_pure (d := some 33) (v := .int .u8 (U8 (rd ([87, 131, 283, 193, 87, 19, 283, 254, 2, 128, 283, 27, 2, 128, 361, 105, 2, 128, 333, 77, 83, 202, 283, 1, 16, 16, 256, 0, 15, 15, 256, 85, 255, 1, 511, 255, 128, 2, 285, 29] : List Int) ((t8 * (4 : Int)) + 1)))) (k2 := [.inRegion (opsOf (pl Go.Proofs.Try.f9 [1, 1, 1, 1, 0])) []]) fun w => by kernel_rfl) (fun _ _ => trivial) hS ?_
            refine RunAny.y 12 (by kernel_rfl) (yl_pure (d := some 34) (v := .slice (some ⟨g4, 0, none⟩) 10 10) (k2 := [.inRegion (opsOf (pl Go.Proofs.Try.f9 [1, 1, 1, 1, 0])) []]) fun w => by kernel_rfl) (fun _ _ => trivial) hS ?_
            refine RunAny.y 13 (by kernel_rfl) (yl_pure (d := some 35) (v := .int .i64 t8) (k2 := [.inRegion (opsOf (pl Go.Proofs.Try.f9 [1, 1, 1, 1, 0])) []]) fun w => by kernel_rfl) (fun _ _ => trivial) hS ?_
            rcases two (decide (0 ≤ t8)) with c23 | c23
            · replace h := of_true h c23
              rcases two (decide (t8 < (10 : Int))) with c24 | c24
              · replace h := of_true h c24
                obtain ⟨q22, hAq22⟩ := hM.row_some 0 rfl (by decide)
                have hbq22 : 0 ≤ (t8 * (4 : Int)) ∧ (t8 * (4 : Int)) + 4 ≤ 40 := by have h1_ : 0 ≤ t8 := (of_decide_eq_true c23); have h2_ : t8 < (10 : Int) := (of_decide_eq_true c24); omega
                refine RunAny.y 14 (by kernel_rfl) (idxS_y (d := some 36) (A := (some ⟨g4, 0, none⟩)) (m := 10) (sz := 4) (i := t8) (k2 := [.inRegion (opsOf (pl Go.Proofs.Try.f9 [1, 1, 1, 1, 0])) []]) (by kernel_rfl) (of_decide_eq_true c23) (of_decide_eq_true c24) hAq22) (fun _ _ => trivial) hS ?_
                have hiq25 : 0 ≤ (t8 * (4 : Int)) + 2 ∧ (t8 * (4 : Int)) + 2 < 40 := by have h1_ : 0 ≤ 2 := (by omega); have h2_ : 2 < (4 : Int) := (by decide); omega
                obtain ⟨q25, hAq25, hcq25, hfq25, hlq25⟩ := hM.cell_num 0 rfl (i := (t8 * (4 : Int)) + 2) hiq25.1 (by simpa using hiq25.2)
                obtain rfl : q22 = q25 := by have h_ := hAq22.symm.trans hAq25; injection h_ with h_; injection h_
                refine RunAny.y 15 (by kernel_rfl) (idxArr_in (d := some 37) (g := q22) (len := 4) (e := (t8 * (4 : Int))) (i := 2) (k2 := [.inRegion (opsOf (pl Go.Proofs.Try.f9 [1, 1, 1, 1, 0])) []]) (by kernel_rfl) hbq22.1 (by omega) (by decide)) (fun _ _ => trivial) hS ?_
                refine RunAny.y 16 (by kernel_rfl) (ld_y (d := some 38) (p := ⟨q22, ((t8 * (4 : Int)) + 2).toNat, none⟩) (k2 := [.inRegion (opsOf (pl Go.Proofs.Try.f9 [1, 1, 1, 1, 0])) []]) (.int .i64 (rd ([87, 131, 283, 193, 87, 19, 283, 254, 2, 128, 283, 27, 2, 128, 361, 105, 2, 128, 333, 77, 83, 202, 283, 1, 16, 16, 256, 0, 15, 15, 256, 85, 255, 1, 511, 255, 128, 2, 285, 29] : List Int) ((t8 * (4 : Int)) + 2))) (by kernel_rfl)) (fun _ hs => hs.cell hcq25 (by simp)) hS ?_
                refine RunAny.y 19 (by kernel_rfl) (yl_pure (d := some 41) (v := .slice (some ⟨g4, 0, none⟩) 10 10) (k2 := [.inRegion (opsOf (pl Go.Proofs.Try.f9 [1, 1, 1, 1, 0])) []]) fun w => by kernel_rfl) (fun _ _ => trivial) hS ?_
                refine RunAny.y 20 (by kernel_rfl) (yl_pure (d := some 42) (v := .int .i64 t8) (k2 := [.inRegion (opsOf (pl Go.Proofs.Try.f9 [1, 1, 1, 1, 0])) []]) fun w => by kernel_rfl) (fun _ _ => trivial) hS ?_
                rcases two (decide (0 ≤ t8)) with c28 | c28
                · replace h := of_true h c28
                  rcases two (decide (t8 < (10 : Int))) with c29 | c29
                  · replace h := of_true h c29
                    obtain ⟨q27, hAq27⟩ := hM.row_some 0 rfl (by decide)
                    have hbq27 : 0 ≤ (t8 * (4 : Int)) ∧ (t8 * (4 : Int)) + 4 ≤ 40 := by have h1_ : 0 ≤ t8 := (of_decide_eq_true c28); have h2_ : t8 < (10 : Int) := (of_decide_eq_true c29); omega
                    refine RunAny.y 21 (by kernel_rfl) (idxS_y (d := some 43) (A := (some ⟨g4, 0, none⟩)) (m := 10) (sz := 4) (i := t8) (k2 := [.inRegion (opsOf (pl Go.Proofs.Try.f9 [1, 1, 1, 1, 0])) []]) (by kernel_rfl) (of_decide_eq_true c28) (of_decide_eq_true c29) hAq27) (fun _ _ => trivial) hS ?_
                    have hiq30 : 0 ≤ (t8 * (4 : Int)) + 3 ∧ (t8 * (4 : Int)) + 3 < 40 := by have h1_ : 0 ≤ 3 := (by omega); have h2_ : 3 < (4 : Int) := (by decide); omega
                    obtain ⟨q30, hAq30, hcq30, hfq30, hlq30⟩ := hM.cell_num 0 rfl (i := (t8 * (4 : Int)) + 3) hiq30.1 (by simpa using hiq30.2)
                    obtain rfl : q27 = q30 := by have h_ := hAq27.symm.trans hAq30; injection h_ with h_; injection h_
                    refine RunAny.y 22 (by kernel_rfl) (idxArr_in (d := some 44) (g := q27) (len := 4) (e := (t8 * (4 : Int))) (i := 3) (k2 := [.inRegion (opsOf (pl Go.Proofs.Try.f9 [1, 1, 1, 1, 0])) []]) (by kernel_rfl) hbq27.1 (by omega) (by decide)) (fun _ _ => trivial) hS ?_
                    refine RunAny.y 23 (by kernel_rfl) (ld_y (d := some 45) (p := ⟨q27, ((t8 * (4 : Int)) + 3).toNat, none⟩) (k2 := [.inRegion (opsOf (pl Go.Proofs.Try.f9 [1, 1, 1, 1, 0])) []]) (.int .i64 (rd ([87, 131, 283, 193, 87, 19, 283, 254, 2, 128, 283, 27, 2, 128, 361, 105, 2, 128, 333, 77, 83, 202, 283, 1, 16, 16, 256, 0, 15, 15, 256, 85, 255, 1, 511, 255, 128, 2, 285, 29] : List Int) ((t8 * (4 : Int)) + 3))) (by kernel_rfl)) (fun _ hs => hs.cell hcq30 (by simp)) hS ?_
                    obtain ⟨t32, ht32, h⟩ := Option.bind_eq_some_iff.mp h
                    refine RunAny.call 17 (d := some 39) (g := 15) (args := #[.int .u8 (U8 (rd ([87, 131, 283, 193, 87, 19, 283, 254, 2, 128, 283, 27, 2, 128, 361, 105, 2, 128, 333, 77, 83, 202, 283, 1, 16, 16, 256, 0, 15, 15, 256, 85, 255, 1, 511, 255, 128, 2, 285, 29] : List Int) ((t8 * (4 : Int)) + 0))), .int .u8 (U8 (rd ([87, 131, 283, 193, 87, 19, 283, 254, 2, 128, 283, 27, 2, 128, 361, 105, 2, 128, 333, 77, 83, 202, 283, 1, 16, 16, 256, 0, 15, 15, 256, 85, 255, 1, 511, 255, 128, 2, 285, 29] : List Int) ((t8 * (4 : Int)) + 1))), .int .i64 (rd ([87, 131, 283, 193, 87, 19, 283, 254, 2, 128, 283, 27, 2, 128, 361, 105, 2, 128, 333, 77, 83, 202, 283, 1, 16, 16, 256, 0, 15, 15, 256, 85, 255, 1, 511, 255, 128, 2, 285, 29] : List Int) ((t8 * (4 : Int)) + 2))]) (by kernel_rfl) (by kernel_rfl) (field_Mul.calls k (U8 (rd ([87, 131, 283, 193, 87, 19, 283, 254, 2, 128, 283, 27, 2, 128, 361, 105, 2, 128, 333, 77, 83, 202, 283, 1, 16, 16, 256, 0, 15, 15, 256, 85, 255, 1, 511, 255, 128, 2, 285, 29] : List Int) ((t8 * (4 : Int)) + 0))) (U8 (rd ([87, 131, 283, 193, 87, 19, 283, 254, 2, 128, 283, 27, 2, 128, 361, 105, 2, 128, 333, 77, 83, 202, 283, 1, 16, 16, 256, 0, 15, 15, 256, 85, 255, 1, 511, 255, 128, 2, 285, 29] : List Int) ((t8 * (4 : Int)) + 1))) (rd ([87, 131, 283, 193, 87, 19, 283, 254, 2, 128, 283, 27, 2, 128, 361, 105, 2, 128, 333, 77, 83, 202, 283, 1, 16, 16, 256, 0, 15, 15, 256, 85, 255, 1, 511, 255, 128, 2, 285, 29] : List Int) ((t8 * (4 : Int)) + 2)) t32 _ ht32) (by rintro _ _ ⟨rfl, hM_⟩; exact hS.below hM_.below) ?_
                    rintro _ W31 ⟨rfl, hM_⟩
                    replace hS := hS.below hM_.below
                    replace hM := hM.call hM_
                    clear hM_ ht32
                    refine RunAny.rebase hS ?_
                    replace hS := Still.refl W31 []
                    refine RunAny.y 18 (by kernel_rfl) (yl_pure (d := some 40) (v := .int .i64 (I64 (t32))) (k2 := [.inRegion (opsOf (pl Go.Proofs.Try.f9 [1, 1, 1, 1, 0])) []]) fun w => by kernel_rfl) (fun _ _ => trivial) hS ?_
                    refine RunAny.y 24 (by kernel_rfl) (yl_pure (d := some 46) (v := .bool ((I64 (t32)) == (rd ([87, 131, 283, 193, 87, 19, 283, 254, 2, 128, 283, 27, 2, 128, 361, 105, 2, 128, 333, 77, 83, 202, 283, 1, 16, 16, 256, 0, 15, 15, 256, 85, 255, 1, 511, 255, 128, 2, 285, 29] : List Int) ((t8 * (4 : Int)) + 3)))) (k2 := [.inRegion (opsOf (pl Go.Proofs.Try.f9 [1, 1, 1, 1, 0])) []]) fun w => by kernel_rfl) (fun _ _ => trivial) hS ?_
                    refine RunAny.y 25 (by kernel_rfl) (yl_pure (d := some 2) (v := .bool ((I64 (t32)) == (rd ([87, 131, 283, 193, 87, 19, 283, 254, 2, 128, 283, 27, 2, 128, 361, 105, 2, 128, 333, 77, 83, 202, 283, 1, 16, 16, 256, 0, 15, 15, 256, 85, 255, 1, 511, 255, 128, 2, 285, 29] : List Int) ((t8 * (4 : Int)) + 3)))) (k2 := [.inRegion (opsOf (pl Go.Proofs.Try.f9 [1, 1, 1, 1, 0])) []]) fun w => by kernel_rfl) (fun _ _ => trivial) hS ?_
                    refine RunAny.done (by kernel_rfl) ?_
                    clear hS
                    obtain rfl := Option.some.inj h
                    exact RunF.ret1 2 (.bool ((I64 (t32)) == (rd ([87, 131, 283, 193, 87, 19, 283, 254, 2, 128, 283, 27, 2, 128, 361, 105, 2, 128, 333, 77, 83, 202, 283, 1, 16, 16, 256, 0, 15, 15, 256, 85, 255, 1, 511, 255, 128, 2, 285, 29] : List Int) ((t8 * (4 : Int)) + 3)))) (fn := Go.Proofs.Try.f9) Go.Proofs.Try.func9 (by kernel_rfl) (by kernel_rfl) (by kernel_rfl) ⟨_, rfl, rfl, (hM.pick [] rfl rfl)⟩
                  · replace h := of_false h c29
                    cases h
                · replace h := of_false h c28
                  cases h
              · replace h := of_false h c24
                cases h
            · replace h := of_false h c23
              cases h
          · replace h := of_false h c19
            cases h
        · replace h := of_false h c18
          cases h
      · replace h := of_false h c14
        cases h
    · replace h := of_false h c13
      cases h


end Go.Scr.S
