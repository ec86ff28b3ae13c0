/- The functions that the law FieldOnce reaches, as plain functions, and that each call answers so. -/
import Derived.Test.YtlmfmbbkhmnipaaProg
import Derived.Test.YtlmfmbbkhmnipaaXPure
set_option linter.unusedVariables false
set_option linter.unusedSimpArgs false
set_option linter.unnecessarySimpa false
namespace Go.Scr.S
/-! ### scrim/field.Mul: function 15 -/
def field_Mul.l0 : Nat → Int → Int → Int → Int → Option (Int)
  | 0, _, _, _, _ => none
  | k + 1, a2, x7_0, x8_0, x9_0 => if (x9_0 == 0) = true then (some (U8 (x7_0))) else (if (decide ((band .i64 x9_0 1) > 0)) = true then (if (decide ((shl .i64 x8_0 1) ≥ 256)) = true then ((some (band .i64 (bxor .i64 (shl .i64 x8_0 1) a2) 255 : Int)).bind fun y4 => (field_Mul.l0 k a2 (bxor .i64 x7_0 x8_0) y4 (shr x9_0 1))) else (field_Mul.l0 k a2 (bxor .i64 x7_0 x8_0) (band .i64 (shl .i64 x8_0 1) 255) (shr x9_0 1))) else (if (decide ((shl .i64 x8_0 1) ≥ 256)) = true then ((some (band .i64 (bxor .i64 (shl .i64 x8_0 1) a2) 255 : Int)).bind fun y6 => (field_Mul.l0 k a2 x7_0 y6 (shr x9_0 1))) else (field_Mul.l0 k a2 x7_0 (band .i64 (shl .i64 x8_0 1) 255) (shr x9_0 1))))
def field_Mul.f (k : Nat) (a0 : Int) (a1 : Int) (a2 : Int) : Option (Int) := field_Mul.l0 k a2 0 (I64 (a0)) (I64 (a1))
set_option maxRecDepth 100000 in
theorem field_Mul.calls (k : Nat) (a0 : Int) (a1 : Int) (a2 : Int) (r : Int) (w : World) (h : field_Mul.f k a0 a1 a2 = some r) :
    Calls Go.Proofs.Try.prog 15 #[.int .u8 a0, .int .u8 a1, .int .i64 a2] w (Ret fun v w' => v = .int .u8 r ∧ Mem w w' []) := by
  unfold field_Mul.f at h
  refine calls_of [.int .u8 a0, .int .u8 a1, .int .i64 a2] (fn := Go.Proofs.Try.f15) Go.Proofs.Try.func15 (by kernel_rfl) (by kernel_rfl) ?_
  have hM := Mem.refl w
  refine RunF.go 17 [2, 7, 8, 9] (k' := (pl Go.Proofs.Try.f15 [1, 0, 1, 1])) (L' := [(2, .int .i64 a2), (7, .int .i64 0), (8, .int .i64 (I64 (a0))), (9, .int .i64 (I64 (a1)))]) (w' := w) (by kernel_rfl) ?_
  have l0 : ∀ (k_ : Nat), k_ ≤ k → ∀ (x7_0 : Int) (x8_0 : Int) (x9_0 : Int) (W : World) (hM : Mem w W []) (h : field_Mul.l0 k_ a2 x7_0 x8_0 x9_0 = some r), RunF Go.Proofs.Try.prog (Ret fun v w' => v = .int .u8 r ∧ Mem w w' []) 15 (pl Go.Proofs.Try.f15 [1, 0, 1, 1]) 35 [(2, .int .i64 a2), (7, .int .i64 x7_0), (8, .int .i64 x8_0), (9, .int .i64 x9_0)] W := by
    intro k_
    induction k_ using Nat.strongRecOn with
    | _ k_ ih0 =>
      intro hk x7_0 x8_0 x9_0 W hM h
      cases k_ with
      | zero => exact absurd h (by simp [field_Mul.l0])
      | succ k =>
        simp only [field_Mul.l0] at h
        replace ih0 : ∀ m, m ≤ k → _ := fun m hm => ih0 m (by omega) (by omega)
        refine RunF.go 6 [2, 7, 8, 9, 15] (k' := (pl Go.Proofs.Try.f15 [1, 0, 1, 1, 0, 1])) (L' := [(2, .int .i64 a2), (7, .int .i64 x7_0), (8, .int .i64 x8_0), (9, .int .i64 x9_0), (15, .bool (x9_0 == 0))]) (w' := W) (by kernel_rfl) ?_
        rcases two ((x9_0 == 0)) with c1 | c1
        · replace h := of_true h c1
          refine RunF.know 15 (b := true) (by kernel_rfl) c1 ?_
          refine RunF.go 7 [6] (k' := (pl Go.Proofs.Try.f15 [1, 0, 1, 1, 0, 1, 0, 1])) (L' := [(6, .int .u8 (U8 (x7_0)))]) (w' := W) (by kernel_rfl) ?_
          obtain rfl := Option.some.inj h
          exact RunF.ret1 6 (.int .u8 (U8 (x7_0))) (fn := Go.Proofs.Try.f15) Go.Proofs.Try.func15 (by kernel_rfl) (by kernel_rfl) (by kernel_rfl) ⟨_, rfl, rfl, (hM.pick [] rfl rfl)⟩
        · replace h := of_false h c1
          refine RunF.know 15 (b := false) (by kernel_rfl) c1 ?_
          refine RunF.go 9 [2, 7, 8, 9, 20] (k' := (pl Go.Proofs.Try.f15 [1, 0, 1, 1, 1, 0, 1])) (L' := [(2, .int .i64 a2), (7, .int .i64 x7_0), (8, .int .i64 x8_0), (9, .int .i64 x9_0), (20, .bool (decide ((band .i64 x9_0 1) > 0)))]) (w' := W) (by kernel_rfl) ?_
          rcases two (decide ((band .i64 x9_0 1) > 0)) with c2 | c2
          · replace h := of_true h c2
            refine RunF.know 20 (b := true) (by kernel_rfl) c2 ?_
            refine RunF.go 22 [2, 7, 8, 9, 29] (k' := (pl Go.Proofs.Try.f15 [1, 0, 1, 1, 1, 1, 0, 1, 1])) (L' := [(2, .int .i64 a2), (7, .int .i64 (bxor .i64 x7_0 x8_0)), (8, .int .i64 (shl .i64 x8_0 1)), (9, .int .i64 (shr x9_0 1)), (29, .bool (decide ((shl .i64 x8_0 1) ≥ 256)))]) (w' := W) (by kernel_rfl) ?_
            rcases two (decide ((shl .i64 x8_0 1) ≥ 256)) with c3 | c3
            · replace h := of_true h c3
              refine RunF.know 29 (b := true) (by kernel_rfl) c3 ?_
              refine RunF.go 16 [2, 7, 8, 9] (k' := (pl Go.Proofs.Try.f15 [1, 0, 1, 1])) (L' := [(2, .int .i64 a2), (7, .int .i64 (bxor .i64 x7_0 x8_0)), (8, .int .i64 (band .i64 (bxor .i64 (shl .i64 x8_0 1) a2) 255)), (9, .int .i64 (shr x9_0 1))]) (w' := W) (by kernel_rfl) ?_
              obtain ⟨y4, hy, h⟩ := Option.bind_eq_some_iff.mp h
              rw [show (band .i64 (bxor .i64 (shl .i64 x8_0 1) a2) 255) = y4 from Option.some.inj hy]
              clear hy
              exact ih0 k (by omega) (bxor .i64 x7_0 x8_0) y4 (shr x9_0 1) _ (hM.pick [] rfl rfl) h
            · replace h := of_false h c3
              refine RunF.know 29 (b := false) (by kernel_rfl) c3 ?_
              refine RunF.go 11 [2, 7, 8, 9] (k' := (pl Go.Proofs.Try.f15 [1, 0, 1, 1])) (L' := [(2, .int .i64 a2), (7, .int .i64 (bxor .i64 x7_0 x8_0)), (8, .int .i64 (band .i64 (shl .i64 x8_0 1) 255)), (9, .int .i64 (shr x9_0 1))]) (w' := W) (by kernel_rfl) ?_
              exact ih0 k (by omega) (bxor .i64 x7_0 x8_0) (band .i64 (shl .i64 x8_0 1) 255) (shr x9_0 1) _ (hM.pick [] rfl rfl) h
          · replace h := of_false h c2
            refine RunF.know 20 (b := false) (by kernel_rfl) c2 ?_
            refine RunF.go 17 [2, 7, 8, 9, 29] (k' := (pl Go.Proofs.Try.f15 [1, 0, 1, 1, 1, 1, 0, 1, 1])) (L' := [(2, .int .i64 a2), (7, .int .i64 x7_0), (8, .int .i64 (shl .i64 x8_0 1)), (9, .int .i64 (shr x9_0 1)), (29, .bool (decide ((shl .i64 x8_0 1) ≥ 256)))]) (w' := W) (by kernel_rfl) ?_
            rcases two (decide ((shl .i64 x8_0 1) ≥ 256)) with c5 | c5
            · replace h := of_true h c5
              refine RunF.know 29 (b := true) (by kernel_rfl) c5 ?_
              refine RunF.go 16 [2, 7, 8, 9] (k' := (pl Go.Proofs.Try.f15 [1, 0, 1, 1])) (L' := [(2, .int .i64 a2), (7, .int .i64 x7_0), (8, .int .i64 (band .i64 (bxor .i64 (shl .i64 x8_0 1) a2) 255)), (9, .int .i64 (shr x9_0 1))]) (w' := W) (by kernel_rfl) ?_
              obtain ⟨y6, hy, h⟩ := Option.bind_eq_some_iff.mp h
              rw [show (band .i64 (bxor .i64 (shl .i64 x8_0 1) a2) 255) = y6 from Option.some.inj hy]
              clear hy
              exact ih0 k (by omega) x7_0 y6 (shr x9_0 1) _ (hM.pick [] rfl rfl) h
            · replace h := of_false h c5
              refine RunF.know 29 (b := false) (by kernel_rfl) c5 ?_
              refine RunF.go 11 [2, 7, 8, 9] (k' := (pl Go.Proofs.Try.f15 [1, 0, 1, 1])) (L' := [(2, .int .i64 a2), (7, .int .i64 x7_0), (8, .int .i64 (band .i64 (shl .i64 x8_0 1) 255)), (9, .int .i64 (shr x9_0 1))]) (w' := W) (by kernel_rfl) ?_
              exact ih0 k (by omega) x7_0 (band .i64 (shl .i64 x8_0 1) 255) (shr x9_0 1) _ (hM.pick [] rfl rfl) h
  exact l0 k (Nat.le_refl _) 0 (I64 (a0)) (I64 (a1)) _ (hM.pick [] rfl rfl) h

/-! ### scrim/field.Pow: function 17 -/
def field_Pow.l0 : Nat → Int → Int → Int → Int → Option (Int)
  | 0, _, _, _, _ => none
  | k + 1, a2, x0_0, x1_0, x7_0 => if (decide (x1_0 ≤ 0)) = true then (some x7_0) else (if (decide ((band .i64 x1_0 1) > 0)) = true then ((field_Mul.f k x7_0 x0_0 a2).bind fun t3 => ((field_Mul.f k x0_0 x0_0 a2).bind fun t5 => (field_Pow.l0 k a2 t5 (shr x1_0 1) t3))) else ((field_Mul.f k x0_0 x0_0 a2).bind fun t7 => (field_Pow.l0 k a2 t7 (shr x1_0 1) x7_0)))
def field_Pow.f (k : Nat) (a0 : Int) (a1 : Int) (a2 : Int) : Option (Int) := field_Pow.l0 k a2 a0 a1 1
set_option maxRecDepth 100000 in
theorem field_Pow.calls (k : Nat) (a0 : Int) (a1 : Int) (a2 : Int) (r : Int) (w : World) (h : field_Pow.f k a0 a1 a2 = some r) :
    Calls Go.Proofs.Try.prog 17 #[.int .u8 a0, .int .i64 a1, .int .i64 a2] w (Ret fun v w' => v = .int .u8 r ∧ Mem w w' []) := by
  unfold field_Pow.f at h
  refine calls_of [.int .u8 a0, .int .i64 a1, .int .i64 a2] (fn := Go.Proofs.Try.f17) Go.Proofs.Try.func17 (by kernel_rfl) (by kernel_rfl) ?_
  have hM := Mem.refl w
  refine RunF.go 11 [0, 1, 2, 7] (k' := (pl Go.Proofs.Try.f17 [1, 0, 1, 1])) (L' := [(0, .int .u8 a0), (1, .int .i64 a1), (2, .int .i64 a2), (7, .int .u8 1)]) (w' := w) (by kernel_rfl) ?_
  have l0 : ∀ (k_ : Nat), k_ ≤ k → ∀ (x0_0 : Int) (x1_0 : Int) (x7_0 : Int) (W : World) (hM : Mem w W []) (h : field_Pow.l0 k_ a2 x0_0 x1_0 x7_0 = some r), RunF Go.Proofs.Try.prog (Ret fun v w' => v = .int .u8 r ∧ Mem w w' []) 17 (pl Go.Proofs.Try.f17 [1, 0, 1, 1]) 24 [(0, .int .u8 x0_0), (1, .int .i64 x1_0), (2, .int .i64 a2), (7, .int .u8 x7_0)] W := by
    intro k_
    induction k_ using Nat.strongRecOn with
    | _ k_ ih0 =>
      intro hk x0_0 x1_0 x7_0 W hM h
      cases k_ with
      | zero => exact absurd h (by simp [field_Pow.l0])
      | succ k =>
        simp only [field_Pow.l0] at h
        replace ih0 : ∀ m, m ≤ k → _ := fun m hm => ih0 m (by omega) (by omega)
        refine RunF.go 6 [0, 1, 2, 7, 9] (k' := (pl Go.Proofs.Try.f17 [1, 0, 1, 1, 0, 1])) (L' := [(0, .int .u8 x0_0), (1, .int .i64 x1_0), (2, .int .i64 a2), (7, .int .u8 x7_0), (9, .bool (decide (x1_0 ≤ 0)))]) (w' := W) (by kernel_rfl) ?_
        rcases two (decide (x1_0 ≤ 0)) with c1 | c1
        · replace h := of_true h c1
          refine RunF.know 9 (b := true) (by kernel_rfl) c1 ?_
          refine RunF.go 6 [6] (k' := (pl Go.Proofs.Try.f17 [1, 0, 1, 1, 0, 1, 0, 1])) (L' := [(6, .int .u8 x7_0)]) (w' := W) (by kernel_rfl) ?_
          obtain rfl := Option.some.inj h
          exact RunF.ret1 6 (.int .u8 x7_0) (fn := Go.Proofs.Try.f17) Go.Proofs.Try.func17 (by kernel_rfl) (by kernel_rfl) (by kernel_rfl) ⟨_, rfl, rfl, (hM.pick [] rfl rfl)⟩
        · replace h := of_false h c1
          refine RunF.know 9 (b := false) (by kernel_rfl) c1 ?_
          refine RunF.go 9 [0, 1, 2, 7, 13] (k' := (pl Go.Proofs.Try.f17 [1, 0, 1, 1, 1, 0, 1])) (L' := [(0, .int .u8 x0_0), (1, .int .i64 x1_0), (2, .int .i64 a2), (7, .int .u8 x7_0), (13, .bool (decide ((band .i64 x1_0 1) > 0)))]) (w' := W) (by kernel_rfl) ?_
          rcases two (decide ((band .i64 x1_0 1) > 0)) with c2 | c2
          · replace h := of_true h c2
            refine RunF.know 13 (b := true) (by kernel_rfl) c2 ?_
            refine RunF.go 5 [0, 1, 2, 14, 15, 16] (k' := (pin Go.Proofs.Try.f17 [1, 0, 1, 1, 1, 0, 1, 0] 3)) (L' := [(0, .int .u8 x0_0), (1, .int .i64 x1_0), (2, .int .i64 a2), (14, .int .u8 x7_0), (15, .int .u8 x0_0), (16, .int .i64 a2)]) (w' := W) (by kernel_rfl) ?_
            obtain ⟨t3, ht3, h⟩ := Option.bind_eq_some_iff.mp h
            refine RunF.call (d := some 17) (g := 15) (args := #[.int .u8 x7_0, .int .u8 x0_0, .int .i64 a2]) (k2 := (pin Go.Proofs.Try.f17 [1, 0, 1, 1, 1, 0, 1, 0] 4)) (by kernel_rfl) (field_Mul.calls k x7_0 x0_0 a2 t3 _ ht3) ?_
            rintro _ W4 ⟨rfl, hM_⟩
            replace hM := hM.call hM_
            clear hM_ ht3
            refine RunF.go 7 [1, 2, 7, 18, 19, 20] (k' := (pin Go.Proofs.Try.f17 [1, 0, 1, 1, 1, 1, 0] 3)) (L' := [(1, .int .i64 x1_0), (2, .int .i64 a2), (7, .int .u8 t3), (18, .int .u8 x0_0), (19, .int .u8 x0_0), (20, .int .i64 a2)]) (w' := W4) (by kernel_rfl) ?_
            obtain ⟨t5, ht5, h⟩ := Option.bind_eq_some_iff.mp h
            refine RunF.call (d := some 21) (g := 15) (args := #[.int .u8 x0_0, .int .u8 x0_0, .int .i64 a2]) (k2 := (pin Go.Proofs.Try.f17 [1, 0, 1, 1, 1, 1, 0] 4)) (by kernel_rfl) (field_Mul.calls k x0_0 x0_0 a2 t5 _ ht5) ?_
            rintro _ W6 ⟨rfl, hM_⟩
            replace hM := hM.call hM_
            clear hM_ ht5
            refine RunF.go 8 [0, 1, 2, 7] (k' := (pl Go.Proofs.Try.f17 [1, 0, 1, 1])) (L' := [(0, .int .u8 t5), (1, .int .i64 (shr x1_0 1)), (2, .int .i64 a2), (7, .int .u8 t3)]) (w' := W6) (by kernel_rfl) ?_
            exact ih0 k (by omega) t5 (shr x1_0 1) t3 _ (hM.pick [] rfl rfl) h
          · replace h := of_false h c2
            refine RunF.know 13 (b := false) (by kernel_rfl) c2 ?_
            refine RunF.go 7 [1, 2, 7, 18, 19, 20] (k' := (pin Go.Proofs.Try.f17 [1, 0, 1, 1, 1, 1, 0] 3)) (L' := [(1, .int .i64 x1_0), (2, .int .i64 a2), (7, .int .u8 x7_0), (18, .int .u8 x0_0), (19, .int .u8 x0_0), (20, .int .i64 a2)]) (w' := W) (by kernel_rfl) ?_
            obtain ⟨t7, ht7, h⟩ := Option.bind_eq_some_iff.mp h
            refine RunF.call (d := some 21) (g := 15) (args := #[.int .u8 x0_0, .int .u8 x0_0, .int .i64 a2]) (k2 := (pin Go.Proofs.Try.f17 [1, 0, 1, 1, 1, 1, 0] 4)) (by kernel_rfl) (field_Mul.calls k x0_0 x0_0 a2 t7 _ ht7) ?_
            rintro _ W8 ⟨rfl, hM_⟩
            replace hM := hM.call hM_
            clear hM_ ht7
            refine RunF.go 8 [0, 1, 2, 7] (k' := (pl Go.Proofs.Try.f17 [1, 0, 1, 1])) (L' := [(0, .int .u8 t7), (1, .int .i64 (shr x1_0 1)), (2, .int .i64 a2), (7, .int .u8 x7_0)]) (w' := W8) (by kernel_rfl) ?_
            exact ih0 k (by omega) t7 (shr x1_0 1) x7_0 _ (hM.pick [] rfl rfl) h
  exact l0 k (Nat.le_refl _) a0 a1 1 _ (hM.pick [] rfl rfl) h

/-! ### scrim/field.Inv: function 19 -/
def field_Inv.l0 : Nat → Int → Int → Int → Option (Int)
  | 0, _, _, _ => none
  | k + 1, a0, a1, x6_0 => if (decide (x6_0 < 256)) = true then ((field_Mul.f k a0 (U8 (x6_0)) a1).bind fun t2 => (if (t2 == 1) = true then (some (U8 (x6_0))) else (field_Inv.l0 k a0 a1 (I64 (x6_0 + 1))))) else (some 0)
def field_Inv.f (k : Nat) (a0 : Int) (a1 : Int) : Option (Int) := field_Inv.l0 k a0 a1 0
set_option maxRecDepth 100000 in
theorem field_Inv.calls (k : Nat) (a0 : Int) (a1 : Int) (r : Int) (w : World) (h : field_Inv.f k a0 a1 = some r) :
    Calls Go.Proofs.Try.prog 19 #[.int .u8 a0, .int .i64 a1] w (Ret fun v w' => v = .int .u8 r ∧ Mem w w' []) := by
  unfold field_Inv.f at h
  refine calls_of [.int .u8 a0, .int .i64 a1] (fn := Go.Proofs.Try.f19) Go.Proofs.Try.func19 (by kernel_rfl) (by kernel_rfl) ?_
  have hM := Mem.refl w
  refine RunF.go 11 [0, 1, 6] (k' := (pl Go.Proofs.Try.f19 [1, 0, 1, 0, 0])) (L' := [(0, .int .u8 a0), (1, .int .i64 a1), (6, .int .i64 0)]) (w' := w) (by kernel_rfl) ?_
  have l0 : ∀ (k_ : Nat), k_ ≤ k → ∀ (x6_0 : Int) (W : World) (hM : Mem w W []) (h : field_Inv.l0 k_ a0 a1 x6_0 = some r), RunF Go.Proofs.Try.prog (Ret fun v w' => v = .int .u8 r ∧ Mem w w' []) 19 (pl Go.Proofs.Try.f19 [1, 0, 1, 0, 0]) 18 [(0, .int .u8 a0), (1, .int .i64 a1), (6, .int .i64 x6_0)] W := by
    intro k_
    induction k_ using Nat.strongRecOn with
    | _ k_ ih0 =>
      intro hk x6_0 W hM h
      cases k_ with
      | zero => exact absurd h (by simp [field_Inv.l0])
      | succ k =>
        simp only [field_Inv.l0] at h
        replace ih0 : ∀ m, m ≤ k → _ := fun m hm => ih0 m (by omega) (by omega)
        refine RunF.go 5 [0, 1, 6, 7] (k' := (pl Go.Proofs.Try.f19 [1, 0, 1, 0, 0, 1, 0])) (L' := [(0, .int .u8 a0), (1, .int .i64 a1), (6, .int .i64 x6_0), (7, .bool (decide (x6_0 < 256)))]) (w' := W) (by kernel_rfl) ?_
        rcases two (decide (x6_0 < 256)) with c1 | c1
        · replace h := of_true h c1
          refine RunF.know 7 (b := true) (by kernel_rfl) c1 ?_
          refine RunF.go 15 [0, 1, 5, 6, 9, 11, 12] (k' := (pin Go.Proofs.Try.f19 [1, 0, 1, 0, 0, 1, 1, 0, 0, 1, 0] 4)) (L' := [(0, .int .u8 a0), (1, .int .i64 a1), (5, .int .i64 x6_0), (6, .int .i64 x6_0), (9, .int .u8 a0), (11, .int .u8 (U8 (x6_0))), (12, .int .i64 a1)]) (w' := W) (by kernel_rfl) ?_
          obtain ⟨t2, ht2, h⟩ := Option.bind_eq_some_iff.mp h
          refine RunF.call (d := some 13) (g := 15) (args := #[.int .u8 a0, .int .u8 (U8 (x6_0)), .int .i64 a1]) (k2 := (pin Go.Proofs.Try.f19 [1, 0, 1, 0, 0, 1, 1, 0, 0, 1, 0] 5)) (by kernel_rfl) (field_Mul.calls k a0 (U8 (x6_0)) a1 t2 _ ht2) ?_
          rintro _ W3 ⟨rfl, hM_⟩
          replace hM := hM.call hM_
          clear hM_ ht2
          refine RunF.go 2 [0, 1, 5, 6, 14] (k' := (pl Go.Proofs.Try.f19 [1, 0, 1, 0, 0, 1, 1, 0, 0, 1, 1])) (L' := [(0, .int .u8 a0), (1, .int .i64 a1), (5, .int .i64 x6_0), (6, .int .i64 x6_0), (14, .bool (t2 == 1))]) (w' := W3) (by kernel_rfl) ?_
          rcases two ((t2 == 1)) with c4 | c4
          · replace h := of_true h c4
            refine RunF.know 14 (b := true) (by kernel_rfl) c4 ?_
            refine RunF.go 7 [4] (k' := (pl Go.Proofs.Try.f19 [1, 0, 1, 0, 0, 1, 1, 0, 0, 1, 1, 0, 1])) (L' := [(4, .int .u8 (U8 (x6_0)))]) (w' := W3) (by kernel_rfl) ?_
            obtain rfl := Option.some.inj h
            exact RunF.ret1 4 (.int .u8 (U8 (x6_0))) (fn := Go.Proofs.Try.f19) Go.Proofs.Try.func19 (by kernel_rfl) (by kernel_rfl) (by kernel_rfl) ⟨_, rfl, rfl, (hM.pick [] rfl rfl)⟩
          · replace h := of_false h c4
            refine RunF.know 14 (b := false) (by kernel_rfl) c4 ?_
            refine RunF.go 8 [0, 1, 6] (k' := (pl Go.Proofs.Try.f19 [1, 0, 1, 0, 0])) (L' := [(0, .int .u8 a0), (1, .int .i64 a1), (6, .int .i64 (I64 (x6_0 + 1)))]) (w' := W3) (by kernel_rfl) ?_
            exact ih0 k (by omega) (I64 (x6_0 + 1)) _ (hM.pick [] rfl rfl) h
        · replace h := of_false h c1
          refine RunF.know 7 (b := false) (by kernel_rfl) c1 ?_
          refine RunF.go 6 [4] (k' := (pl Go.Proofs.Try.f19 [1, 1, 1])) (L' := [(4, .int .u8 0)]) (w' := W) (by kernel_rfl) ?_
          obtain rfl := Option.some.inj h
          exact RunF.ret1 4 (.int .u8 0) (fn := Go.Proofs.Try.f19) Go.Proofs.Try.func19 (by kernel_rfl) (by kernel_rfl) (by kernel_rfl) ⟨_, rfl, rfl, (hM.pick [] rfl rfl)⟩
  exact l0 k (Nat.le_refl _) 0 _ (hM.pick [] rfl rfl) h

/-! ### scrim/scrimlaw3.known: function 12 -/
def scrimlaw3_known.f (k : Nat)  : Option (Bool) := (field_Mul.f k 2 128 283).bind fun t1 => (if (t1 == 27) = true then ((field_Pow.f k 3 0 283).bind fun t4 => (if (t4 == 1) = true then ((field_Inv.f k 1 283).bind fun t7 => (some (t7 == 1))) else (some false))) else (some false))
set_option maxRecDepth 100000 in
theorem scrimlaw3_known.calls (k : Nat)  (r : Bool) (w : World) (h : scrimlaw3_known.f k = some r) :
    Calls Go.Proofs.Try.prog 12 #[] w (Ret fun v w' => v = .bool r ∧ Mem w w' []) := by
  unfold scrimlaw3_known.f at h
  refine calls_of [] (fn := Go.Proofs.Try.f12) Go.Proofs.Try.func12 (by kernel_rfl) (by kernel_rfl) ?_
  have hM := Mem.refl w
  refine RunF.go 6 [] (k' := (pin Go.Proofs.Try.f12 [1, 0] 0)) (L' := []) (w' := w) (by kernel_rfl) ?_
  obtain ⟨t1, ht1, h⟩ := Option.bind_eq_some_iff.mp h
  refine RunF.call (d := some 1) (g := 15) (args := #[.int .u8 2, .int .u8 128, .int .i64 283]) (k2 := (pin Go.Proofs.Try.f12 [1, 0] 1)) (by kernel_rfl) (field_Mul.calls k 2 128 283 t1 _ ht1) ?_
  rintro _ W2 ⟨rfl, hM_⟩
  replace hM := hM.call hM_
  clear hM_ ht1
  refine RunF.go 2 [3] (k' := (pin Go.Proofs.Try.f12 [1, 0] 3)) (L' := [(3, .bool (t1 == 27))]) (w' := W2) (by kernel_rfl) ?_
  rcases two ((t1 == 27)) with c3 | c3
  · replace h := of_true h c3
    refine RunF.know 3 (b := true) (by kernel_rfl) c3 ?_
    obtain ⟨t4, ht4, h⟩ := Option.bind_eq_some_iff.mp h
    refine RunF.call (d := some 4) (g := 17) (args := #[.int .u8 3, .int .i64 0, .int .i64 283]) (k2 := (pin Go.Proofs.Try.f12 [1, 0] 4)) (by kernel_rfl) (field_Pow.calls k 3 0 283 t4 _ ht4) ?_
    rintro _ W5 ⟨rfl, hM_⟩
    replace hM := hM.call hM_
    clear hM_ ht4
    refine RunF.go 3 [7] (k' := (pin Go.Proofs.Try.f12 [1, 0] 7)) (L' := [(7, .bool (t4 == 1))]) (w' := W5) (by kernel_rfl) ?_
    rcases two ((t4 == 1)) with c6 | c6
    · replace h := of_true h c6
      refine RunF.know 7 (b := true) (by kernel_rfl) c6 ?_
      obtain ⟨t7, ht7, h⟩ := Option.bind_eq_some_iff.mp h
      refine RunF.call (d := some 8) (g := 19) (args := #[.int .u8 1, .int .i64 283]) (k2 := (pin Go.Proofs.Try.f12 [1, 0] 8)) (by kernel_rfl) (field_Inv.calls k 1 283 t7 _ ht7) ?_
      rintro _ W8 ⟨rfl, hM_⟩
      replace hM := hM.call hM_
      clear hM_ ht7
      refine RunF.go 4 [0] (k' := (pl Go.Proofs.Try.f12 [1, 1])) (L' := [(0, .bool (t7 == 1))]) (w' := W8) (by kernel_rfl) ?_
      obtain rfl := Option.some.inj h
      exact RunF.ret1 0 (.bool (t7 == 1)) (fn := Go.Proofs.Try.f12) Go.Proofs.Try.func12 (by kernel_rfl) (by kernel_rfl) (by kernel_rfl) ⟨_, rfl, rfl, (hM.pick [] rfl rfl)⟩
    · replace h := of_false h c6
      refine RunF.know 7 (b := false) (by kernel_rfl) c6 ?_
      refine RunF.go 5 [0] (k' := (pl Go.Proofs.Try.f12 [1, 1])) (L' := [(0, .bool false)]) (w' := W5) (by kernel_rfl) ?_
      obtain rfl := Option.some.inj h
      exact RunF.ret1 0 (.bool false) (fn := Go.Proofs.Try.f12) Go.Proofs.Try.func12 (by kernel_rfl) (by kernel_rfl) (by kernel_rfl) ⟨_, rfl, rfl, (hM.pick [] rfl rfl)⟩
  · replace h := of_false h c3
    refine RunF.know 3 (b := false) (by kernel_rfl) c3 ?_
    refine RunF.go 9 [0] (k' := (pl Go.Proofs.Try.f12 [1, 1])) (L' := [(0, .bool false)]) (w' := W2) (by kernel_rfl) ?_
    obtain rfl := Option.some.inj h
    exact RunF.ret1 0 (.bool false) (fn := Go.Proofs.Try.f12) Go.Proofs.Try.func12 (by kernel_rfl) (by kernel_rfl) (by kernel_rfl) ⟨_, rfl, rfl, (hM.pick [] rfl rfl)⟩

/-! ### scrim/scrimlaw3.within: function 14 -/
def scrimlaw3_within.f (k : Nat) (a0 : Int) (a1 : Int) : Option (Int) := if (decide (a1 = 0)) = true then (none) else (if (decide ((Int.tmod a0 a1) < 0)) = true then (some (I64 ((Int.tmod a0 a1) + a1))) else (some (Int.tmod a0 a1)))
set_option maxRecDepth 100000 in
theorem scrimlaw3_within.calls (k : Nat) (a0 : Int) (a1 : Int) (r : Int) (w : World) (h : scrimlaw3_within.f k a0 a1 = some r) :
    Calls Go.Proofs.Try.prog 14 #[.int .i64 a0, .int .i64 a1] w (Ret fun v w' => v = .int .i64 r ∧ Mem w w' []) := by
  unfold scrimlaw3_within.f at h
  refine calls_of [.int .i64 a0, .int .i64 a1] (fn := Go.Proofs.Try.f14) Go.Proofs.Try.func14 (by kernel_rfl) (by kernel_rfl) ?_
  have hM := Mem.refl w
  refine RunF.go 8 [1, 6, 7] (k' := (pin Go.Proofs.Try.f14 [1, 0] 2)) (L' := [(1, .int .i64 a1), (6, .int .i64 a0), (7, .int .i64 a1)]) (w' := w) (by kernel_rfl) ?_
  rcases two (decide (a1 = 0)) with c1 | c1
  · replace h := of_true h c1
    cases h
  · replace h := of_false h c1
    refine RunF.y (div_y (d := some 8) (b := false) (kd := .i64) (x := a0) (y := a1) (k2 := (pin Go.Proofs.Try.f14 [1, 0] 3)) (by kernel_rfl) c1) trivial ?_
    refine RunF.go 8 [1, 5, 10] (k' := (pl Go.Proofs.Try.f14 [1, 1, 0, 1])) (L' := [(1, .int .i64 a1), (5, .int .i64 (Int.tmod a0 a1)), (10, .bool (decide ((Int.tmod a0 a1) < 0)))]) (w' := w) (by kernel_rfl) ?_
    rcases two (decide ((Int.tmod a0 a1) < 0)) with c2 | c2
    · replace h := of_true h c2
      refine RunF.know 10 (b := true) (by kernel_rfl) c2 ?_
      refine RunF.go 12 [4] (k' := (pl Go.Proofs.Try.f14 [1, 1, 1, 1])) (L' := [(4, .int .i64 (I64 ((Int.tmod a0 a1) + a1)))]) (w' := w) (by kernel_rfl) ?_
      obtain rfl := Option.some.inj h
      exact RunF.ret1 4 (.int .i64 (I64 ((Int.tmod a0 a1) + a1))) (fn := Go.Proofs.Try.f14) Go.Proofs.Try.func14 (by kernel_rfl) (by kernel_rfl) (by kernel_rfl) ⟨_, rfl, rfl, (hM.pick [] rfl rfl)⟩
    · replace h := of_false h c2
      refine RunF.know 10 (b := false) (by kernel_rfl) c2 ?_
      refine RunF.go 7 [4] (k' := (pl Go.Proofs.Try.f14 [1, 1, 1, 1])) (L' := [(4, .int .i64 (Int.tmod a0 a1))]) (w' := w) (by kernel_rfl) ?_
      obtain rfl := Option.some.inj h
      exact RunF.ret1 4 (.int .i64 (Int.tmod a0 a1)) (fn := Go.Proofs.Try.f14) Go.Proofs.Try.func14 (by kernel_rfl) (by kernel_rfl) (by kernel_rfl) ⟨_, rfl, rfl, (hM.pick [] rfl rfl)⟩

/-! ### scrim/scrimlaw3.Mod: function 13 -/
def scrimlaw3_Mod.f (k : Nat) (a0 : Int) : Option (Int) := (scrimlaw3_within.f k a0 5).bind fun t4 => (if (decide (0 ≤ t4)) = true then (if (decide (t4 < (5 : Int))) = true then (some (rd ([283, 361, 333, 285, 299] : List Int) t4)) else (none)) else (none))
set_option maxRecDepth 100000 in
theorem scrimlaw3_Mod.calls (k : Nat) (a0 : Int) (r : Int) (w : World) (h : scrimlaw3_Mod.f k a0 = some r) :
    Calls Go.Proofs.Try.prog 13 #[.int .i64 a0] w (Ret fun v w' => v = .int .i64 r ∧ Mem w w' []) := by
  unfold scrimlaw3_Mod.f at h
  refine calls_of [.int .i64 a0] (fn := Go.Proofs.Try.f13) Go.Proofs.Try.func13 (by kernel_rfl) (by kernel_rfl) ?_
  have hM := Mem.refl w
  refine RunF.go 6 [0] (k' := (pin Go.Proofs.Try.f13 [1, 0] 0)) (L' := [(0, .int .i64 a0)]) (w' := w) (by kernel_rfl) ?_
  refine RunF.new 3 1 5 (nums .i64 [283, 361, 333, 285, 299]) (d := some 3) (k2 := (pin Go.Proofs.Try.f13 [1, 0] 1)) hM (by simp [nums, bools]) (by kernel_rfl) (by kernel_rfl) ?_
  replace hM := hM
  intro g1 W2 hM
  refine RunF.go 1 [3, 4] (k' := (pin Go.Proofs.Try.f13 [1, 0] 2)) (L' := [(3, .slice (some ⟨g1, 0, none⟩) 5 5), (4, .int .i64 a0)]) (w' := W2) (by kernel_rfl) ?_
  obtain ⟨t4, ht4, h⟩ := Option.bind_eq_some_iff.mp h
  refine RunF.call (d := some 5) (g := 14) (args := #[.int .i64 a0, .int .i64 5]) (k2 := (pin Go.Proofs.Try.f13 [1, 0] 3)) (by kernel_rfl) (scrimlaw3_within.calls k a0 5 t4 _ ht4) ?_
  rintro _ W5 ⟨rfl, hM_⟩
  replace hM := hM.call hM_
  clear hM_ ht4
  rcases two (decide (0 ≤ t4)) with c7 | c7
  · replace h := of_true h c7
    rcases two (decide (t4 < (5 : Int))) with c8 | c8
    · replace h := of_true h c8
      obtain ⟨q6, hAq6, hcq6, hfq6, hlq6⟩ := hM.num_at 0 rfl (i := t4) (of_decide_eq_true c7) (by have h_ := of_decide_eq_true c8; omega)
      refine RunF.y (idx_own (d := some 6) (A := (some ⟨g1, 0, none⟩)) (m := 5) (i := t4) (k2 := (pin Go.Proofs.Try.f13 [1, 0] 4)) (by kernel_rfl) (of_decide_eq_true c7) (by have h_ := of_decide_eq_true c8; omega) hAq6) trivial ?_
      refine RunF.y (ld_y (d := some 7) (p := ⟨q6, (t4 : Int).toNat, none⟩) (k2 := (pin Go.Proofs.Try.f13 [1, 0] 5)) (.int .i64 (rd ([283, 361, 333, 285, 299] : List Int) t4)) (by kernel_rfl)) hcq6 ?_
      refine RunF.go 2 [2] (k' := (pl Go.Proofs.Try.f13 [1, 1])) (L' := [(2, .int .i64 (rd ([283, 361, 333, 285, 299] : List Int) t4))]) (w' := W5) (by kernel_rfl) ?_
      obtain rfl := Option.some.inj h
      exact RunF.ret1 2 (.int .i64 (rd ([283, 361, 333, 285, 299] : List Int) t4)) (fn := Go.Proofs.Try.f13) Go.Proofs.Try.func13 (by kernel_rfl) (by kernel_rfl) (by kernel_rfl) ⟨_, rfl, rfl, (hM.pick [] rfl rfl)⟩
    · replace h := of_false h c8
      cases h
  · replace h := of_false h c7
    cases h

/-! ### scrim/scrimlaw3.FieldOnce: function 10 -/
def scrimlaw3_FieldOnce.l0 : Nat → Int → Int → (List Bool) → Int → Option (Bool)
  | 0, _, _, _, _ => none
  | k + 1, a0, a1, x5_0, x6_0 => if (decide (x6_0 < 256)) = true then ((scrimlaw3_Mod.f k a1).bind fun t13 => ((field_Mul.f k a0 (U8 (x6_0)) t13).bind fun t15 => (if (decide (0 ≤ t15)) = true then (if (decide (t15 < (256 : Int))) = true then (if (rdb x5_0 t15) = true then (some false) else (if (decide (0 ≤ t15)) = true then (if (decide (t15 < (256 : Int))) = true then (scrimlaw3_FieldOnce.l0 k a0 a1 (x5_0.set (t15 : Int).toNat true) (I64 (x6_0 + 1))) else (none)) else (none))) else (none)) else (none)))) else (some true)
def scrimlaw3_FieldOnce.f (k : Nat) (a0 : Int) (a1 : Int) : Option (Bool) := (scrimlaw3_known.f k).bind fun t1 => (if (!t1) = true then (some false) else (if (a0 == 0) = true then ((scrimlaw3_Mod.f k a1).bind fun t5 => ((field_Mul.f k 0 77 t5).bind fun t7 => (some (t7 == 0)))) else (scrimlaw3_FieldOnce.l0 k a0 a1 (List.replicate 256 false) 0)))
set_option maxRecDepth 100000 in
theorem scrimlaw3_FieldOnce.calls (k : Nat) (a0 : Int) (a1 : Int) (r : Bool) (w : World) (h : scrimlaw3_FieldOnce.f k a0 a1 = some r) :
    Calls Go.Proofs.Try.prog 10 #[.int .u8 a0, .int .i64 a1] w (Ret fun v w' => v = .bool r ∧ Mem w w' []) := by
  unfold scrimlaw3_FieldOnce.f at h
  refine calls_of [.int .u8 a0, .int .i64 a1] (fn := Go.Proofs.Try.f10) Go.Proofs.Try.func10 (by kernel_rfl) (by kernel_rfl) ?_
  have hM := Mem.refl w
  refine RunF.go 7 [0, 1] (k' := (pin Go.Proofs.Try.f10 [1, 0, 0] 0)) (L' := [(0, .int .u8 a0), (1, .int .i64 a1)]) (w' := w) (by kernel_rfl) ?_
  obtain ⟨t1, ht1, h⟩ := Option.bind_eq_some_iff.mp h
  refine RunF.call (d := some 8) (g := 12) (args := #[]) (k2 := (pin Go.Proofs.Try.f10 [1, 0, 0] 1)) (by kernel_rfl) (scrimlaw3_known.calls k t1 _ ht1) ?_
  rintro _ W2 ⟨rfl, hM_⟩
  replace hM := hM.call hM_
  clear hM_ ht1
  refine RunF.go 2 [0, 1, 9] (k' := (pl Go.Proofs.Try.f10 [1, 0, 1])) (L' := [(0, .int .u8 a0), (1, .int .i64 a1), (9, .bool (!t1))]) (w' := W2) (by kernel_rfl) ?_
  rcases two (!t1) with c3 | c3
  · replace h := of_true h c3
    refine RunF.know 9 (b := true) (by kernel_rfl) c3 ?_
    refine RunF.go 5 [4] (k' := (pl Go.Proofs.Try.f10 [1, 0, 1, 0, 1])) (L' := [(4, .bool false)]) (w' := W2) (by kernel_rfl) ?_
    obtain rfl := Option.some.inj h
    exact RunF.ret1 4 (.bool false) (fn := Go.Proofs.Try.f10) Go.Proofs.Try.func10 (by kernel_rfl) (by kernel_rfl) (by kernel_rfl) ⟨_, rfl, rfl, (hM.pick [] rfl rfl)⟩
  · replace h := of_false h c3
    refine RunF.know 9 (b := false) (by kernel_rfl) c3 ?_
    refine RunF.go 8 [0, 1, 11] (k' := (pl Go.Proofs.Try.f10 [1, 1, 0, 1])) (L' := [(0, .int .u8 a0), (1, .int .i64 a1), (11, .bool (a0 == 0))]) (w' := W2) (by kernel_rfl) ?_
    rcases two ((a0 == 0)) with c4 | c4
    · replace h := of_true h c4
      refine RunF.know 11 (b := true) (by kernel_rfl) c4 ?_
      refine RunF.go 4 [12] (k' := (pin Go.Proofs.Try.f10 [1, 1, 0, 1, 0, 0] 1)) (L' := [(12, .int .i64 a1)]) (w' := W2) (by kernel_rfl) ?_
      obtain ⟨t5, ht5, h⟩ := Option.bind_eq_some_iff.mp h
      refine RunF.call (d := some 13) (g := 13) (args := #[.int .i64 a1]) (k2 := (pin Go.Proofs.Try.f10 [1, 1, 0, 1, 0, 0] 2)) (by kernel_rfl) (scrimlaw3_Mod.calls k a1 t5 _ ht5) ?_
      rintro _ W6 ⟨rfl, hM_⟩
      replace hM := hM.call hM_
      clear hM_ ht5
      obtain ⟨t7, ht7, h⟩ := Option.bind_eq_some_iff.mp h
      refine RunF.call (d := some 14) (g := 15) (args := #[.int .u8 0, .int .u8 77, .int .i64 t5]) (k2 := (pin Go.Proofs.Try.f10 [1, 1, 0, 1, 0, 0] 3)) (by kernel_rfl) (field_Mul.calls k 0 77 t5 t7 _ ht7) ?_
      rintro _ W8 ⟨rfl, hM_⟩
      replace hM := hM.call hM_
      clear hM_ ht7
      refine RunF.go 3 [4] (k' := (pl Go.Proofs.Try.f10 [1, 1, 0, 1, 0, 1])) (L' := [(4, .bool (t7 == 0))]) (w' := W8) (by kernel_rfl) ?_
      obtain rfl := Option.some.inj h
      exact RunF.ret1 4 (.bool (t7 == 0)) (fn := Go.Proofs.Try.f10) Go.Proofs.Try.func10 (by kernel_rfl) (by kernel_rfl) (by kernel_rfl) ⟨_, rfl, rfl, (hM.pick [] rfl rfl)⟩
    · replace h := of_false h c4
      refine RunF.know 11 (b := false) (by kernel_rfl) c4 ?_
      refine RunF.go 4 [0, 1] (k' := (pin Go.Proofs.Try.f10 [1, 1, 1, 0] 0)) (L' := [(0, .int .u8 a0), (1, .int .i64 a1)]) (w' := W2) (by kernel_rfl) ?_
      refine RunF.newVar 37 (bools (List.replicate 256 false)) (d := some 5) (k2 := (pin Go.Proofs.Try.f10 [1, 1, 1, 0] 1)) hM (by kernel_rfl) ?_
      intro g9 W10 hM
      refine RunF.go 8 [0, 1, 5, 6] (k' := (pl Go.Proofs.Try.f10 [1, 1, 1, 1, 0, 1, 0, 0])) (L' := [(0, .int .u8 a0), (1, .int .i64 a1), (5, .pointer (some ⟨g9, 0, none⟩)), (6, .int .i64 0)]) (w' := W10) (by kernel_rfl) ?_
      have l0 : ∀ (k_ : Nat), k_ ≤ k → ∀ (x5_0 : List Bool) (x6_0 : Int) (W : World) (hM : Mem w W [⟨.pointer (some ⟨g9, 0, none⟩), 37, 0, bools x5_0⟩]) (hlx5_0 : x5_0.length = 256) (h : scrimlaw3_FieldOnce.l0 k_ a0 a1 x5_0 x6_0 = some r), RunF Go.Proofs.Try.prog (Ret fun v w' => v = .bool r ∧ Mem w w' []) 10 (pl Go.Proofs.Try.f10 [1, 1, 1, 1, 0, 1, 0, 0]) 31 [(0, .int .u8 a0), (1, .int .i64 a1), (5, .pointer (some ⟨g9, 0, none⟩)), (6, .int .i64 x6_0)] W := by
        intro k_
        induction k_ using Nat.strongRecOn with
        | _ k_ ih0 =>
          intro hk x5_0 x6_0 W hM hlx5_0 h
          cases k_ with
          | zero => exact absurd h (by simp [scrimlaw3_FieldOnce.l0])
          | succ k =>
            simp only [scrimlaw3_FieldOnce.l0] at h
            replace ih0 : ∀ m, m ≤ k → _ := fun m hm => ih0 m (by omega) (by omega)
            refine RunF.go 6 [0, 1, 5, 6, 17] (k' := (pl Go.Proofs.Try.f10 [1, 1, 1, 1, 0, 1, 0, 0, 0, 1])) (L' := [(0, .int .u8 a0), (1, .int .i64 a1), (5, .pointer (some ⟨g9, 0, none⟩)), (6, .int .i64 x6_0), (17, .bool (decide (x6_0 < 256)))]) (w' := W) (by kernel_rfl) ?_
            rcases two (decide (x6_0 < 256)) with c12 | c12
            · replace h := of_true h c12
              refine RunF.know 17 (b := true) (by kernel_rfl) c12 ?_
              refine RunF.go 10 [0, 1, 5, 6, 20, 22, 23] (k' := (pin Go.Proofs.Try.f10 [1, 1, 1, 1, 0, 1, 0, 0, 1, 0, 0, 0] 4)) (L' := [(0, .int .u8 a0), (1, .int .i64 a1), (5, .pointer (some ⟨g9, 0, none⟩)), (6, .int .i64 x6_0), (20, .int .u8 a0), (22, .int .u8 (U8 (x6_0))), (23, .int .i64 a1)]) (w' := W) (by kernel_rfl) ?_
              obtain ⟨t13, ht13, h⟩ := Option.bind_eq_some_iff.mp h
              refine RunF.call (d := some 24) (g := 13) (args := #[.int .i64 a1]) (k2 := (pin Go.Proofs.Try.f10 [1, 1, 1, 1, 0, 1, 0, 0, 1, 0, 0, 0] 5)) (by kernel_rfl) (scrimlaw3_Mod.calls k a1 t13 _ ht13) ?_
              rintro _ W14 ⟨rfl, hM_⟩
              replace hM := hM.call hM_
              clear hM_ ht13
              obtain ⟨t15, ht15, h⟩ := Option.bind_eq_some_iff.mp h
              refine RunF.call (d := some 25) (g := 15) (args := #[.int .u8 a0, .int .u8 (U8 (x6_0)), .int .i64 t13]) (k2 := (pin Go.Proofs.Try.f10 [1, 1, 1, 1, 0, 1, 0, 0, 1, 0, 0, 0] 6)) (by kernel_rfl) (field_Mul.calls k a0 (U8 (x6_0)) t13 t15 _ ht15) ?_
              rintro _ W16 ⟨rfl, hM_⟩
              replace hM := hM.call hM_
              clear hM_ ht15
              refine RunF.go 6 [0, 1, 5, 6, 7, 26] (k' := (pin Go.Proofs.Try.f10 [1, 1, 1, 1, 0, 1, 0, 0, 1, 0, 0, 1, 0, 0] 1)) (L' := [(0, .int .u8 a0), (1, .int .i64 a1), (5, .pointer (some ⟨g9, 0, none⟩)), (6, .int .i64 x6_0), (7, .int .u8 t15), (26, .int .u8 t15)]) (w' := W16) (by kernel_rfl) ?_
              rcases two (decide (0 ≤ t15)) with c18 | c18
              · replace h := of_true h c18
                rcases two (decide (t15 < (256 : Int))) with c19 | c19
                · replace h := of_true h c19
                  obtain ⟨hcq17, hfq17, hlq17⟩ := hM.arr_bool 0 rfl (i := t15) (of_decide_eq_true c18) (N := 256) hlx5_0 (of_decide_eq_true c19)
                  refine RunF.y (idxArr_own (d := some 27) (g := g9) (len := 256) (i := t15) (k2 := (pin Go.Proofs.Try.f10 [1, 1, 1, 1, 0, 1, 0, 0, 1, 0, 0, 1, 0, 0] 2)) (by kernel_rfl) (of_decide_eq_true c18) (of_decide_eq_true c19)) trivial ?_
                  refine RunF.y (ld_y (d := some 28) (p := ⟨g9, (t15 : Int).toNat, none⟩) (k2 := (pin Go.Proofs.Try.f10 [1, 1, 1, 1, 0, 1, 0, 0, 1, 0, 0, 1, 0, 0] 3)) (.bool (rdb x5_0 t15)) (by kernel_rfl)) hcq17 ?_
                  refine RunF.go 1 [0, 1, 5, 6, 7, 28] (k' := (pl Go.Proofs.Try.f10 [1, 1, 1, 1, 0, 1, 0, 0, 1, 0, 0, 1, 0, 1])) (L' := [(0, .int .u8 a0), (1, .int .i64 a1), (5, .pointer (some ⟨g9, 0, none⟩)), (6, .int .i64 x6_0), (7, .int .u8 t15), (28, .bool (rdb x5_0 t15))]) (w' := W16) (by kernel_rfl) ?_
                  rcases two (rdb x5_0 t15) with c20 | c20
                  · replace h := of_true h c20
                    refine RunF.know 28 (b := true) (by kernel_rfl) c20 ?_
                    refine RunF.go 5 [4] (k' := (pl Go.Proofs.Try.f10 [1, 1, 1, 1, 0, 1, 0, 0, 1, 0, 0, 1, 0, 1, 0, 1])) (L' := [(4, .bool false)]) (w' := W16) (by kernel_rfl) ?_
                    obtain rfl := Option.some.inj h
                    exact RunF.ret1 4 (.bool false) (fn := Go.Proofs.Try.f10) Go.Proofs.Try.func10 (by kernel_rfl) (by kernel_rfl) (by kernel_rfl) ⟨_, rfl, rfl, (hM.pick [] rfl rfl)⟩
                  · replace h := of_false h c20
                    refine RunF.know 28 (b := false) (by kernel_rfl) c20 ?_
                    refine RunF.go 4 [0, 1, 5, 6, 29] (k' := (pin Go.Proofs.Try.f10 [1, 1, 1, 1, 0, 1, 0, 0, 1, 0, 0, 1, 1] 1)) (L' := [(0, .int .u8 a0), (1, .int .i64 a1), (5, .pointer (some ⟨g9, 0, none⟩)), (6, .int .i64 x6_0), (29, .int .u8 t15)]) (w' := W16) (by kernel_rfl) ?_
                    rcases two (decide (0 ≤ t15)) with c22 | c22
                    · replace h := of_true h c22
                      rcases two (decide (t15 < (256 : Int))) with c23 | c23
                      · replace h := of_true h c23
                        obtain ⟨hcq21, hfq21, hlq21⟩ := hM.arr_bool 0 rfl (i := t15) (of_decide_eq_true c22) (N := 256) hlx5_0 (of_decide_eq_true c23)
                        refine RunF.y (idxArr_own (d := some 30) (g := g9) (len := 256) (i := t15) (k2 := (pin Go.Proofs.Try.f10 [1, 1, 1, 1, 0, 1, 0, 0, 1, 0, 0, 1, 1] 2)) (by kernel_rfl) (of_decide_eq_true c22) (of_decide_eq_true c23)) trivial ?_
                        obtain ⟨hc_, hf_, hl_⟩ := hM.arr_bool 0 rfl (i := t15) (of_decide_eq_true c22) (N := 256) hlx5_0 (of_decide_eq_true c23)
                        refine RunF.doesU (st_u (p := (⟨g9, (t15 : Int).toNat, none⟩ : Addr)) (v := .bool true) (k2 := (pin Go.Proofs.Try.f10 [1, 1, 1, 1, 0, 1, 0, 0, 1, 0, 0, 1, 1] 3)) (by kernel_rfl) hc_ hf_) ?_
                        replace hM : Mem w (W16.setCell (⟨g9, (t15 : Int).toNat, none⟩ : Addr) (.bool true)) [⟨.pointer (some ⟨g9, 0, none⟩), 37, 0, bools (x5_0.set (t15 : Int).toNat true)⟩] := Mem.arr_put_bool [] [] (hM.pick [0] rfl rfl) _ hl_ _
                        generalize W16.setCell (⟨g9, (t15 : Int).toNat, none⟩ : Addr) (.bool true) = W24 at hM ⊢
                        clear hc_ hf_ hl_ hcq21 hfq21 hlq21
                        refine RunF.go 8 [0, 1, 5, 6] (k' := (pl Go.Proofs.Try.f10 [1, 1, 1, 1, 0, 1, 0, 0])) (L' := [(0, .int .u8 a0), (1, .int .i64 a1), (5, .pointer (some ⟨g9, 0, none⟩)), (6, .int .i64 (I64 (x6_0 + 1)))]) (w' := W24) (by kernel_rfl) ?_
                        exact ih0 k (by omega) (x5_0.set (t15 : Int).toNat true) (I64 (x6_0 + 1)) _ (hM.pick [0] rfl rfl) (List.length_set.trans hlx5_0) h
                      · replace h := of_false h c23
                        cases h
                    · replace h := of_false h c22
                      cases h
                · replace h := of_false h c19
                  cases h
              · replace h := of_false h c18
                cases h
            · replace h := of_false h c12
              refine RunF.know 17 (b := false) (by kernel_rfl) c12 ?_
              refine RunF.go 6 [4] (k' := (pl Go.Proofs.Try.f10 [1, 1, 1, 1, 1, 1])) (L' := [(4, .bool true)]) (w' := W) (by kernel_rfl) ?_
              obtain rfl := Option.some.inj h
              exact RunF.ret1 4 (.bool true) (fn := Go.Proofs.Try.f10) Go.Proofs.Try.func10 (by kernel_rfl) (by kernel_rfl) (by kernel_rfl) ⟨_, rfl, rfl, (hM.pick [] rfl rfl)⟩
      exact l0 k (Nat.le_refl _) (List.replicate 256 false) 0 _ (hM.pick [0] rfl rfl) List.length_replicate h


end Go.Scr.S
