/- The functions that the law FieldNone reaches, as plain functions, and that each call answers so. -/
import Derived.Test.YtlmfmbbkhmnipaaProg
import Derived.Test.YtlmfmbbkhmnipaaXPure
set_option linter.unusedVariables false
set_option linter.unusedSimpArgs false
set_option linter.unnecessarySimpa false
namespace Go.Scr.S
/-! ### scrim/field.Mul: function 15 -/
def field_Mul.l0 : Nat → Int → Int → Int → Int → Option (Int)
  | 0, _, _, _, _ => none
  | k + 1, a2, x7_0, x8_0, x9_0 => if (x9_0 == 0) = true then (some (U8 (x7_0))) else (if (decide ((band .i64 x9_0 1) > 0)) = true then (if (decide ((shl .i64 x8_0 1) ≥ 256)) = true then ((some (band .i64 (bxor .i64 (shl .i64 x8_0 1) a2) 255 : Int)).bind fun y4 => (field_Mul.l0 k a2 (bxor .i64 x7_0 x8_0) y4 (shr x9_0 1))) else (field_Mul.l0 k a2 (bxor .i64 x7_0 x8_0) (band .i64 (shl .i64 x8_0 1) 255) (shr x9_0 1))) else (if (decide ((shl .i64 x8_0 1) ≥ 256)) = true then ((some (band .i64 (bxor .i64 (shl .i64 x8_0 1) a2) 255 : Int)).bind fun y6 => (field_Mul.l0 k a2 x7_0 y6 (shr x9_0 1))) else (field_Mul.l0 k a2 x7_0 (band .i64 (shl .i64 x8_0 1) 255) (shr x9_0 1))))
def field_Mul.f (k : Nat) (a0 : Int) (a1 : Int) (a2 : Int) : Option (Int) := field_Mul.l0 k a2 0 (I64 (a0)) (I64 (a1))
set_option maxRecDepth 100000 in
theorem field_Mul.calls (k : Nat) (a0 : Int) (a1 : Int) (a2 : Int) (r : Int) (w : World) (h : field_Mul.f k a0 a1 a2 = some r) :
    Calls Go.Proofs.Try.prog 15 #[.int .u8 a0, .int .u8 a1, .int .i64 a2] w (Ret fun v w' => v = .int .u8 r ∧ Mem w w' []) := by
  unfold field_Mul.f at h
  refine calls_of [.int .u8 a0, .int .u8 a1, .int .i64 a2] (fn := Go.Proofs.Try.f15) Go.Proofs.Try.func15 (by kernel_rfl) (by kernel_rfl) ?_
  have hM := Mem.refl w
  refine RunF.go 17 [2, 7, 8, 9] (k' := (pl Go.Proofs.Try.f15 [1, 0, 1, 1])) (L' := [(2, .int .i64 a2), (7, .int .i64 0), (8, .int .i64 (I64 (a0))), (9, .int .i64 (I64 (a1)))]) (w' := w) (by kernel_rfl) ?_
  have l0 : ∀ (k_ : Nat), k_ ≤ k → ∀ (x7_0 : Int) (x8_0 : Int) (x9_0 : Int) (W : World) (hM : Mem w W []) (h : field_Mul.l0 k_ a2 x7_0 x8_0 x9_0 = some r), RunF Go.Proofs.Try.prog (Ret fun v w' => v = .int .u8 r ∧ Mem w w' []) 15 (pl Go.Proofs.Try.f15 [1, 0, 1, 1]) 35 [(2, .int .i64 a2), (7, .int .i64 x7_0), (8, .int .i64 x8_0), (9, .int .i64 x9_0)] W := by
    intro k_
    induction k_ using Nat.strongRecOn with
    | _ k_ ih0 =>
      intro hk x7_0 x8_0 x9_0 W hM h
      cases k_ with
      | zero => exact absurd h (by simp [field_Mul.l0])
      | succ k =>
        simp only [field_Mul.l0] at h
        replace ih0 : ∀ m, m ≤ k → _ := fun m hm => ih0 m (by omega) (by omega)
        refine RunF.go 6 [2, 7, 8, 9, 15] (k' := (pl Go.Proofs.Try.f15 [1, 0, 1, 1, 0, 1])) (L' := [(2, .int .i64 a2), (7, .int .i64 x7_0), (8, .int .i64 x8_0), (9, .int .i64 x9_0), (15, .bool (x9_0 == 0))]) (w' := W) (by kernel_rfl) ?_
        rcases two ((x9_0 == 0)) with c1 | c1
        · replace h := of_true h c1
          refine RunF.know 15 (b := true) (by kernel_rfl) c1 ?_
          refine RunF.go 7 [6] (k' := (pl Go.Proofs.Try.f15 [1, 0, 1, 1, 0, 1, 0, 1])) (L' := [(6, .int .u8 (U8 (x7_0)))]) (w' := W) (by kernel_rfl) ?_
          obtain rfl := Option.some.inj h
          exact RunF.ret1 6 (.int .u8 (U8 (x7_0))) (fn := Go.Proofs.Try.f15) Go.Proofs.Try.func15 (by kernel_rfl) (by kernel_rfl) (by kernel_rfl) ⟨_, rfl, rfl, (hM.pick [] rfl rfl)⟩
        · replace h := of_false h c1
          refine RunF.know 15 (b := false) (by kernel_rfl) c1 ?_
          refine RunF.go 9 [2, 7, 8, 9, 20] (k' := (pl Go.Proofs.Try.f15 [1, 0, 1, 1, 1, 0, 1])) (L' := [(2, .int .i64 a2), (7, .int .i64 x7_0), (8, .int .i64 x8_0), (9, .int .i64 x9_0), (20, .bool (decide ((band .i64 x9_0 1) > 0)))]) (w' := W) (by kernel_rfl) ?_
          rcases two (decide ((band .i64 x9_0 1) > 0)) with c2 | c2
          · replace h := of_true h c2
            refine RunF.know 20 (b := true) (by kernel_rfl) c2 ?_
            refine RunF.go 22 [2, 7, 8, 9, 29] (k' := (pl Go.Proofs.Try.f15 [1, 0, 1, 1, 1, 1, 0, 1, 1])) (L' := [(2, .int .i64 a2), (7, .int .i64 (bxor .i64 x7_0 x8_0)), (8, .int .i64 (shl .i64 x8_0 1)), (9, .int .i64 (shr x9_0 1)), (29, .bool (decide ((shl .i64 x8_0 1) ≥ 256)))]) (w' := W) (by kernel_rfl) ?_
            rcases two (decide ((shl .i64 x8_0 1) ≥ 256)) with c3 | c3
            · replace h := of_true h c3
              refine RunF.know 29 (b := true) (by kernel_rfl) c3 ?_
              refine RunF.go 16 [2, 7, 8, 9] (k' := (pl Go.Proofs.Try.f15 [1, 0, 1, 1])) (L' := [(2, .int .i64 a2), (7, .int .i64 (bxor .i64 x7_0 x8_0)), (8, .int .i64 (band .i64 (bxor .i64 (shl .i64 x8_0 1) a2) 255)), (9, .int .i64 (shr x9_0 1))]) (w' := W) (by kernel_rfl) ?_
              obtain ⟨y4, hy, h⟩ := Option.bind_eq_some_iff.mp h
              rw [show (band .i64 (bxor .i64 (shl .i64 x8_0 1) a2) 255) = y4 from Option.some.inj hy]
              clear hy
              exact ih0 k (by omega) (bxor .i64 x7_0 x8_0) y4 (shr x9_0 1) _ (hM.pick [] rfl rfl) h
            · replace h := of_false h c3
              refine RunF.know 29 (b := false) (by kernel_rfl) c3 ?_
              refine RunF.go 11 [2, 7, 8, 9] (k' := (pl Go.Proofs.Try.f15 [1, 0, 1, 1])) (L' := [(2, .int .i64 a2), (7, .int .i64 (bxor .i64 x7_0 x8_0)), (8, .int .i64 (band .i64 (shl .i64 x8_0 1) 255)), (9, .int .i64 (shr x9_0 1))]) (w' := W) (by kernel_rfl) ?_
              exact ih0 k (by omega) (bxor .i64 x7_0 x8_0) (band .i64 (shl .i64 x8_0 1) 255) (shr x9_0 1) _ (hM.pick [] rfl rfl) h
          · replace h := of_false h c2
            refine RunF.know 20 (b := false) (by kernel_rfl) c2 ?_
            refine RunF.go 17 [2, 7, 8, 9, 29] (k' := (pl Go.Proofs.Try.f15 [1, 0, 1, 1, 1, 1, 0, 1, 1])) (L' := [(2, .int .i64 a2), (7, .int .i64 x7_0), (8, .int .i64 (shl .i64 x8_0 1)), (9, .int .i64 (shr x9_0 1)), (29, .bool (decide ((shl .i64 x8_0 1) ≥ 256)))]) (w' := W) (by kernel_rfl) ?_
            rcases two (decide ((shl .i64 x8_0 1) ≥ 256)) with c5 | c5
            · replace h := of_true h c5
              refine RunF.know 29 (b := true) (by kernel_rfl) c5 ?_
              refine RunF.go 16 [2, 7, 8, 9] (k' := (pl Go.Proofs.Try.f15 [1, 0, 1, 1])) (L' := [(2, .int .i64 a2), (7, .int .i64 x7_0), (8, .int .i64 (band .i64 (bxor .i64 (shl .i64 x8_0 1) a2) 255)), (9, .int .i64 (shr x9_0 1))]) (w' := W) (by kernel_rfl) ?_
              obtain ⟨y6, hy, h⟩ := Option.bind_eq_some_iff.mp h
              rw [show (band .i64 (bxor .i64 (shl .i64 x8_0 1) a2) 255) = y6 from Option.some.inj hy]
              clear hy
              exact ih0 k (by omega) x7_0 y6 (shr x9_0 1) _ (hM.pick [] rfl rfl) h
            · replace h := of_false h c5
              refine RunF.know 29 (b := false) (by kernel_rfl) c5 ?_
              refine RunF.go 11 [2, 7, 8, 9] (k' := (pl Go.Proofs.Try.f15 [1, 0, 1, 1])) (L' := [(2, .int .i64 a2), (7, .int .i64 x7_0), (8, .int .i64 (band .i64 (shl .i64 x8_0 1) 255)), (9, .int .i64 (shr x9_0 1))]) (w' := W) (by kernel_rfl) ?_
              exact ih0 k (by omega) x7_0 (band .i64 (shl .i64 x8_0 1) 255) (shr x9_0 1) _ (hM.pick [] rfl rfl) h
  exact l0 k (Nat.le_refl _) 0 (I64 (a0)) (I64 (a1)) _ (hM.pick [] rfl rfl) h

/-! ### scrim/field.Pow: function 17 -/
def field_Pow.l0 : Nat → Int → Int → Int → Int → Option (Int)
  | 0, _, _, _, _ => none
  | k + 1, a2, x0_0, x1_0, x7_0 => if (decide (x1_0 ≤ 0)) = true then (some x7_0) else (if (decide ((band .i64 x1_0 1) > 0)) = true then ((field_Mul.f k x7_0 x0_0 a2).bind fun t3 => ((field_Mul.f k x0_0 x0_0 a2).bind fun t5 => (field_Pow.l0 k a2 t5 (shr x1_0 1) t3))) else ((field_Mul.f k x0_0 x0_0 a2).bind fun t7 => (field_Pow.l0 k a2 t7 (shr x1_0 1) x7_0)))
def field_Pow.f (k : Nat) (a0 : Int) (a1 : Int) (a2 : Int) : Option (Int) := field_Pow.l0 k a2 a0 a1 1
set_option maxRecDepth 100000 in
theorem field_Pow.calls (k : Nat) (a0 : Int) (a1 : Int) (a2 : Int) (r : Int) (w : World) (h : field_Pow.f k a0 a1 a2 = some r) :
    Calls Go.Proofs.Try.prog 17 #[.int .u8 a0, .int .i64 a1, .int .i64 a2] w (Ret fun v w' => v = .int .u8 r ∧ Mem w w' []) := by
  unfold field_Pow.f at h
  refine calls_of [.int .u8 a0, .int .i64 a1, .int .i64 a2] (fn := Go.Proofs.Try.f17) Go.Proofs.Try.func17 (by kernel_rfl) (by kernel_rfl) ?_
  have hM := Mem.refl w
  refine RunF.go 11 [0, 1, 2, 7] (k' := (pl Go.Proofs.Try.f17 [1, 0, 1, 1])) (L' := [(0, .int .u8 a0), (1, .int .i64 a1), (2, .int .i64 a2), (7, .int .u8 1)]) (w' := w) (by kernel_rfl) ?_
  have l0 : ∀ (k_ : Nat), k_ ≤ k → ∀ (x0_0 : Int) (x1_0 : Int) (x7_0 : Int) (W : World) (hM : Mem w W []) (h : field_Pow.l0 k_ a2 x0_0 x1_0 x7_0 = some r), RunF Go.Proofs.Try.prog (Ret fun v w' => v = .int .u8 r ∧ Mem w w' []) 17 (pl Go.Proofs.Try.f17 [1, 0, 1, 1]) 24 [(0, .int .u8 x0_0), (1, .int .i64 x1_0), (2, .int .i64 a2), (7, .int .u8 x7_0)] W := by
    intro k_
    induction k_ using Nat.strongRecOn with
    | _ k_ ih0 =>
      intro hk x0_0 x1_0 x7_0 W hM h
      cases k_ with
      | zero => exact absurd h (by simp [field_Pow.l0])
      | succ k =>
        simp only [field_Pow.l0] at h
        replace ih0 : ∀ m, m ≤ k → _ := fun m hm => ih0 m (by omega) (by omega)
        refine RunF.go 6 [0, 1, 2, 7, 9] (k' := (pl Go.Proofs.Try.f17 [1, 0, 1, 1, 0, 1])) (L' := [(0, .int .u8 x0_0), (1, .int .i64 x1_0), (2, .int .i64 a2), (7, .int .u8 x7_0), (9, .bool (decide (x1_0 ≤ 0)))]) (w' := W) (by kernel_rfl) ?_
        rcases two (decide (x1_0 ≤ 0)) with c1 | c1
        · replace h := of_true h c1
          refine RunF.know 9 (b := true) (by kernel_rfl) c1 ?_
          refine RunF.go 6 [6] (k' := (pl Go.Proofs.Try.f17 [1, 0, 1, 1, 0, 1, 0, 1])) (L' := [(6, .int .u8 x7_0)]) (w' := W) (by kernel_rfl) ?_
          obtain rfl := Option.some.inj h
          exact RunF.ret1 6 (.int .u8 x7_0) (fn := Go.Proofs.Try.f17) Go.Proofs.Try.func17 (by kernel_rfl) (by kernel_rfl) (by kernel_rfl) ⟨_, rfl, rfl, (hM.pick [] rfl rfl)⟩
        · replace h := of_false h c1
          refine RunF.know 9 (b := false) (by kernel_rfl) c1 ?_
          refine RunF.go 9 [0, 1, 2, 7, 13] (k' := (pl Go.Proofs.Try.f17 [1, 0, 1, 1, 1, 0, 1])) (L' := [(0, .int .u8 x0_0), (1, .int .i64 x1_0), (2, .int .i64 a2), (7, .int .u8 x7_0), (13, .bool (decide ((band .i64 x1_0 1) > 0)))]) (w' := W) (by kernel_rfl) ?_
          rcases two (decide ((band .i64 x1_0 1) > 0)) with c2 | c2
          · replace h := of_true h c2
            refine RunF.know 13 (b := true) (by kernel_rfl) c2 ?_
            refine RunF.go 5 [0, 1, 2, 14, 15, 16] (k' := (pin Go.Proofs.Try.f17 [1, 0, 1, 1, 1, 0, 1, 0] 3)) (L' := [(0, .int .u8 x0_0), (1, .int .i64 x1_0), (2, .int .i64 a2), (14, .int .u8 x7_0), (15, .int .u8 x0_0), (16, .int .i64 a2)]) (w' := W) (by kernel_rfl) ?_
            obtain ⟨t3, ht3, h⟩ := Option.bind_eq_some_iff.mp h
            refine RunF.call (d := some 17) (g := 15) (args := #[.int .u8 x7_0, .int .u8 x0_0, .int .i64 a2]) (k2 := (pin Go.Proofs.Try.f17 [1, 0, 1, 1, 1, 0, 1, 0] 4)) (by kernel_rfl) (field_Mul.calls k x7_0 x0_0 a2 t3 _ ht3) ?_
            rintro _ W4 ⟨rfl, hM_⟩
            replace hM := hM.call hM_
            clear hM_ ht3
            refine RunF.go 7 [1, 2, 7, 18, 19, 20] (k' := (pin Go.Proofs.Try.f17 [1, 0, 1, 1, 1, 1, 0] 3)) (L' := [(1, .int .i64 x1_0), (2, .int .i64 a2), (7, .int .u8 t3), (18, .int .u8 x0_0), (19, .int .u8 x0_0), (20, .int .i64 a2)]) (w' := W4) (by kernel_rfl) ?_
            obtain ⟨t5, ht5, h⟩ := Option.bind_eq_some_iff.mp h
            refine RunF.call (d := some 21) (g := 15) (args := #[.int .u8 x0_0, .int .u8 x0_0, .int .i64 a2]) (k2 := (pin Go.Proofs.Try.f17 [1, 0, 1, 1, 1, 1, 0] 4)) (by kernel_rfl) (field_Mul.calls k x0_0 x0_0 a2 t5 _ ht5) ?_
            rintro _ W6 ⟨rfl, hM_⟩
            replace hM := hM.call hM_
            clear hM_ ht5
            refine RunF.go 8 [0, 1, 2, 7] (k' := (pl Go.Proofs.Try.f17 [1, 0, 1, 1])) (L' := [(0, .int .u8 t5), (1, .int .i64 (shr x1_0 1)), (2, .int .i64 a2), (7, .int .u8 t3)]) (w' := W6) (by kernel_rfl) ?_
            exact ih0 k (by omega) t5 (shr x1_0 1) t3 _ (hM.pick [] rfl rfl) h
          · replace h := of_false h c2
            refine RunF.know 13 (b := false) (by kernel_rfl) c2 ?_
            refine RunF.go 7 [1, 2, 7, 18, 19, 20] (k' := (pin Go.Proofs.Try.f17 [1, 0, 1, 1, 1, 1, 0] 3)) (L' := [(1, .int .i64 x1_0), (2, .int .i64 a2), (7, .int .u8 x7_0), (18, .int .u8 x0_0), (19, .int .u8 x0_0), (20, .int .i64 a2)]) (w' := W) (by kernel_rfl) ?_
            obtain ⟨t7, ht7, h⟩ := Option.bind_eq_some_iff.mp h
            refine RunF.call (d := some 21) (g := 15) (args := #[.int .u8 x0_0, .int .u8 x0_0, .int .i64 a2]) (k2 := (pin Go.Proofs.Try.f17 [1, 0, 1, 1, 1, 1, 0] 4)) (by kernel_rfl) (field_Mul.calls k x0_0 x0_0 a2 t7 _ ht7) ?_
            rintro _ W8 ⟨rfl, hM_⟩
            replace hM := hM.call hM_
            clear hM_ ht7
            refine RunF.go 8 [0, 1, 2, 7] (k' := (pl Go.Proofs.Try.f17 [1, 0, 1, 1])) (L' := [(0, .int .u8 t7), (1, .int .i64 (shr x1_0 1)), (2, .int .i64 a2), (7, .int .u8 x7_0)]) (w' := W8) (by kernel_rfl) ?_
            exact ih0 k (by omega) t7 (shr x1_0 1) x7_0 _ (hM.pick [] rfl rfl) h
  exact l0 k (Nat.le_refl _) a0 a1 1 _ (hM.pick [] rfl rfl) h

/-! ### scrim/field.Inv: function 19 -/
def field_Inv.l0 : Nat → Int → Int → Int → Option (Int)
  | 0, _, _, _ => none
  | k + 1, a0, a1, x6_0 => if (decide (x6_0 < 256)) = true then ((field_Mul.f k a0 (U8 (x6_0)) a1).bind fun t2 => (if (t2 == 1) = true then (some (U8 (x6_0))) else (field_Inv.l0 k a0 a1 (I64 (x6_0 + 1))))) else (some 0)
def field_Inv.f (k : Nat) (a0 : Int) (a1 : Int) : Option (Int) := field_Inv.l0 k a0 a1 0
set_option maxRecDepth 100000 in
theorem field_Inv.calls (k : Nat) (a0 : Int) (a1 : Int) (r : Int) (w : World) (h : field_Inv.f k a0 a1 = some r) :
    Calls Go.Proofs.Try.prog 19 #[.int .u8 a0, .int .i64 a1] w (Ret fun v w' => v = .int .u8 r ∧ Mem w w' []) := by
  unfold field_Inv.f at h
  refine calls_of [.int .u8 a0, .int .i64 a1] (fn := Go.Proofs.Try.f19) Go.Proofs.Try.func19 (by kernel_rfl) (by kernel_rfl) ?_
  have hM := Mem.refl w
  refine RunF.go 11 [0, 1, 6] (k' := (pl Go.Proofs.Try.f19 [1, 0, 1, 0, 0])) (L' := [(0, .int .u8 a0), (1, .int .i64 a1), (6, .int .i64 0)]) (w' := w) (by kernel_rfl) ?_
  have l0 : ∀ (k_ : Nat), k_ ≤ k → ∀ (x6_0 : Int) (W : World) (hM : Mem w W []) (h : field_Inv.l0 k_ a0 a1 x6_0 = some r), RunF Go.Proofs.Try.prog (Ret fun v w' => v = .int .u8 r ∧ Mem w w' []) 19 (pl Go.Proofs.Try.f19 [1, 0, 1, 0, 0]) 18 [(0, .int .u8 a0), (1, .int .i64 a1), (6, .int .i64 x6_0)] W := by
    intro k_
    induction k_ using Nat.strongRecOn with
    | _ k_ ih0 =>
      intro hk x6_0 W hM h
      cases k_ with
      | zero => exact absurd h (by simp [field_Inv.l0])
      | succ k =>
        simp only [field_Inv.l0] at h
        replace ih0 : ∀ m, m ≤ k → _ := fun m hm => ih0 m (by omega) (by omega)
        refine RunF.go 5 [0, 1, 6, 7] (k' := (pl Go.Proofs.Try.f19 [1, 0, 1, 0, 0, 1, 0])) (L' := [(0, .int .u8 a0), (1, .int .i64 a1), (6, .int .i64 x6_0), (7, .bool (decide (x6_0 < 256)))]) (w' := W) (by kernel_rfl) ?_
        rcases two (decide (x6_0 < 256)) with c1 | c1
        · replace h := of_true h c1
          refine RunF.know 7 (b := true) (by kernel_rfl) c1 ?_
          refine RunF.go 15 [0, 1, 5, 6, 9, 11, 12] (k' := (pin Go.Proofs.Try.f19 [1, 0, 1, 0, 0, 1, 1, 0, 0, 1, 0] 4)) (L' := [(0, .int .u8 a0), (1, .int .i64 a1), (5, .int .i64 x6_0), (6, .int .i64 x6_0), (9, .int .u8 a0), (11, .int .u8 (U8 (x6_0))), (12, .int .i64 a1)]) (w' := W) (by kernel_rfl) ?_
          obtain ⟨t2, ht2, h⟩ := Option.bind_eq_some_iff.mp h
          refine RunF.call (d := some 13) (g := 15) (args := #[.int .u8 a0, .int .u8 (U8 (x6_0)), .int .i64 a1]) (k2 := (pin Go.Proofs.Try.f19 [1, 0, 1, 0, 0, 1, 1, 0, 0, 1, 0] 5)) (by kernel_rfl) (field_Mul.calls k a0 (U8 (x6_0)) a1 t2 _ ht2) ?_
          rintro _ W3 ⟨rfl, hM_⟩
          replace hM := hM.call hM_
          clear hM_ ht2
          refine RunF.go 2 [0, 1, 5, 6, 14] (k' := (pl Go.Proofs.Try.f19 [1, 0, 1, 0, 0, 1, 1, 0, 0, 1, 1])) (L' := [(0, .int .u8 a0), (1, .int .i64 a1), (5, .int .i64 x6_0), (6, .int .i64 x6_0), (14, .bool (t2 == 1))]) (w' := W3) (by kernel_rfl) ?_
          rcases two ((t2 == 1)) with c4 | c4
          · replace h := of_true h c4
            refine RunF.know 14 (b := true) (by kernel_rfl) c4 ?_
            refine RunF.go 7 [4] (k' := (pl Go.Proofs.Try.f19 [1, 0, 1, 0, 0, 1, 1, 0, 0, 1, 1, 0, 1])) (L' := [(4, .int .u8 (U8 (x6_0)))]) (w' := W3) (by kernel_rfl) ?_
            obtain rfl := Option.some.inj h
            exact RunF.ret1 4 (.int .u8 (U8 (x6_0))) (fn := Go.Proofs.Try.f19) Go.Proofs.Try.func19 (by kernel_rfl) (by kernel_rfl) (by kernel_rfl) ⟨_, rfl, rfl, (hM.pick [] rfl rfl)⟩
          · replace h := of_false h c4
            refine RunF.know 14 (b := false) (by kernel_rfl) c4 ?_
            refine RunF.go 8 [0, 1, 6] (k' := (pl Go.Proofs.Try.f19 [1, 0, 1, 0, 0])) (L' := [(0, .int .u8 a0), (1, .int .i64 a1), (6, .int .i64 (I64 (x6_0 + 1)))]) (w' := W3) (by kernel_rfl) ?_
            exact ih0 k (by omega) (I64 (x6_0 + 1)) _ (hM.pick [] rfl rfl) h
        · replace h := of_false h c1
          refine RunF.know 7 (b := false) (by kernel_rfl) c1 ?_
          refine RunF.go 6 [4] (k' := (pl Go.Proofs.Try.f19 [1, 1, 1])) (L' := [(4, .int .u8 0)]) (w' := W) (by kernel_rfl) ?_
          obtain rfl := Option.some.inj h
          exact RunF.ret1 4 (.int .u8 0) (fn := Go.Proofs.Try.f19) Go.Proofs.Try.func19 (by kernel_rfl) (by kernel_rfl) (by kernel_rfl) ⟨_, rfl, rfl, (hM.pick [] rfl rfl)⟩
  exact l0 k (Nat.le_refl _) 0 _ (hM.pick [] rfl rfl) h

/-! ### scrim/scrimlaw3.known: function 12 -/
def scrimlaw3_known.f (k : Nat)  : Option (Bool) := (field_Mul.f k 2 128 283).bind fun t1 => (if (t1 == 27) = true then ((field_Pow.f k 3 0 283).bind fun t4 => (if (t4 == 1) = true then ((field_Inv.f k 1 283).bind fun t7 => (some (t7 == 1))) else (some false))) else (some false))
set_option maxRecDepth 100000 in
theorem scrimlaw3_known.calls (k : Nat)  (r : Bool) (w : World) (h : scrimlaw3_known.f k = some r) :
    Calls Go.Proofs.Try.prog 12 #[] w (Ret fun v w' => v = .bool r ∧ Mem w w' []) := by
  unfold scrimlaw3_known.f at h
  refine calls_of [] (fn := Go.Proofs.Try.f12) Go.Proofs.Try.func12 (by kernel_rfl) (by kernel_rfl) ?_
  have hM := Mem.refl w
  refine RunF.go 6 [] (k' := (pin Go.Proofs.Try.f12 [1, 0] 0)) (L' := []) (w' := w) (by kernel_rfl) ?_
  obtain ⟨t1, ht1, h⟩ := Option.bind_eq_some_iff.mp h
  refine RunF.call (d := some 1) (g := 15) (args := #[.int .u8 2, .int .u8 128, .int .i64 283]) (k2 := (pin Go.Proofs.Try.f12 [1, 0] 1)) (by kernel_rfl) (field_Mul.calls k 2 128 283 t1 _ ht1) ?_
  rintro _ W2 ⟨rfl, hM_⟩
  replace hM := hM.call hM_
  clear hM_ ht1
  refine RunF.go 2 [3] (k' := (pin Go.Proofs.Try.f12 [1, 0] 3)) (L' := [(3, .bool (t1 == 27))]) (w' := W2) (by kernel_rfl) ?_
  rcases two ((t1 == 27)) with c3 | c3
  · replace h := of_true h c3
    refine RunF.know 3 (b := true) (by kernel_rfl) c3 ?_
    obtain ⟨t4, ht4, h⟩ := Option.bind_eq_some_iff.mp h
    refine RunF.call (d := some 4) (g := 17) (args := #[.int .u8 3, .int .i64 0, .int .i64 283]) (k2 := (pin Go.Proofs.Try.f12 [1, 0] 4)) (by kernel_rfl) (field_Pow.calls k 3 0 283 t4 _ ht4) ?_
    rintro _ W5 ⟨rfl, hM_⟩
    replace hM := hM.call hM_
    clear hM_ ht4
    refine RunF.go 3 [7] (k' := (pin Go.Proofs.Try.f12 [1, 0] 7)) (L' := [(7, .bool (t4 == 1))]) (w' := W5) (by kernel_rfl) ?_
    rcases two ((t4 == 1)) with c6 | c6
    · replace h := of_true h c6
      refine RunF.know 7 (b := true) (by kernel_rfl) c6 ?_
      obtain ⟨t7, ht7, h⟩ := Option.bind_eq_some_iff.mp h
      refine RunF.call (d := some 8) (g := 19) (args := #[.int .u8 1, .int .i64 283]) (k2 := (pin Go.Proofs.Try.f12 [1, 0] 8)) (by kernel_rfl) (field_Inv.calls k 1 283 t7 _ ht7) ?_
      rintro _ W8 ⟨rfl, hM_⟩
      replace hM := hM.call hM_
      clear hM_ ht7
      refine RunF.go 4 [0] (k' := (pl Go.Proofs.Try.f12 [1, 1])) (L' := [(0, .bool (t7 == 1))]) (w' := W8) (by kernel_rfl) ?_
      obtain rfl := Option.some.inj h
      exact RunF.ret1 0 (.bool (t7 == 1)) (fn := Go.Proofs.Try.f12) Go.Proofs.Try.func12 (by kernel_rfl) (by kernel_rfl) (by kernel_rfl) ⟨_, rfl, rfl, (hM.pick [] rfl rfl)⟩
    · replace h := of_false h c6
      refine RunF.know 7 (b := false) (by kernel_rfl) c6 ?_
      refine RunF.go 5 [0] (k' := (pl Go.Proofs.Try.f12 [1, 1])) (L' := [(0, .bool false)]) (w' := W5) (by kernel_rfl) ?_
      obtain rfl := Option.some.inj h
      exact RunF.ret1 0 (.bool false) (fn := Go.Proofs.Try.f12) Go.Proofs.Try.func12 (by kernel_rfl) (by kernel_rfl) (by kernel_rfl) ⟨_, rfl, rfl, (hM.pick [] rfl rfl)⟩
  · replace h := of_false h c3
    refine RunF.know 3 (b := false) (by kernel_rfl) c3 ?_
    refine RunF.go 9 [0] (k' := (pl Go.Proofs.Try.f12 [1, 1])) (L' := [(0, .bool false)]) (w' := W2) (by kernel_rfl) ?_
    obtain rfl := Option.some.inj h
    exact RunF.ret1 0 (.bool false) (fn := Go.Proofs.Try.f12) Go.Proofs.Try.func12 (by kernel_rfl) (by kernel_rfl) (by kernel_rfl) ⟨_, rfl, rfl, (hM.pick [] rfl rfl)⟩

/-! ### scrim/scrimlaw3.within: function 14 -/
def scrimlaw3_within.f (k : Nat) (a0 : Int) (a1 : Int) : Option (Int) := if (decide (a1 = 0)) = true then (none) else (if (decide ((Int.tmod a0 a1) < 0)) = true then (some (I64 ((Int.tmod a0 a1) + a1))) else (some (Int.tmod a0 a1)))
set_option maxRecDepth 100000 in
theorem scrimlaw3_within.calls (k : Nat) (a0 : Int) (a1 : Int) (r : Int) (w : World) (h : scrimlaw3_within.f k a0 a1 = some r) :
    Calls Go.Proofs.Try.prog 14 #[.int .i64 a0, .int .i64 a1] w (Ret fun v w' => v = .int .i64 r ∧ Mem w w' []) := by
  unfold scrimlaw3_within.f at h
  refine calls_of [.int .i64 a0, .int .i64 a1] (fn := Go.Proofs.Try.f14) Go.Proofs.Try.func14 (by kernel_rfl) (by kernel_rfl) ?_
  have hM := Mem.refl w
  refine RunF.go 8 [1, 6, 7] (k' := (pin Go.Proofs.Try.f14 [1, 0] 2)) (L' := [(1, .int .i64 a1), (6, .int .i64 a0), (7, .int .i64 a1)]) (w' := w) (by kernel_rfl) ?_
  rcases two (decide (a1 = 0)) with c1 | c1
  · replace h := of_true h c1
    cases h
  · replace h := of_false h c1
    refine RunF.y (div_y (d := some 8) (b := false) (kd := .i64) (x := a0) (y := a1) (k2 := (pin Go.Proofs.Try.f14 [1, 0] 3)) (by kernel_rfl) c1) trivial ?_
    refine RunF.go 8 [1, 5, 10] (k' := (pl Go.Proofs.Try.f14 [1, 1, 0, 1])) (L' := [(1, .int .i64 a1), (5, .int .i64 (Int.tmod a0 a1)), (10, .bool (decide ((Int.tmod a0 a1) < 0)))]) (w' := w) (by kernel_rfl) ?_
    rcases two (decide ((Int.tmod a0 a1) < 0)) with c2 | c2
    · replace h := of_true h c2
      refine RunF.know 10 (b := true) (by kernel_rfl) c2 ?_
      refine RunF.go 12 [4] (k' := (pl Go.Proofs.Try.f14 [1, 1, 1, 1])) (L' := [(4, .int .i64 (I64 ((Int.tmod a0 a1) + a1)))]) (w' := w) (by kernel_rfl) ?_
      obtain rfl := Option.some.inj h
      exact RunF.ret1 4 (.int .i64 (I64 ((Int.tmod a0 a1) + a1))) (fn := Go.Proofs.Try.f14) Go.Proofs.Try.func14 (by kernel_rfl) (by kernel_rfl) (by kernel_rfl) ⟨_, rfl, rfl, (hM.pick [] rfl rfl)⟩
    · replace h := of_false h c2
      refine RunF.know 10 (b := false) (by kernel_rfl) c2 ?_
      refine RunF.go 7 [4] (k' := (pl Go.Proofs.Try.f14 [1, 1, 1, 1])) (L' := [(4, .int .i64 (Int.tmod a0 a1))]) (w' := w) (by kernel_rfl) ?_
      obtain rfl := Option.some.inj h
      exact RunF.ret1 4 (.int .i64 (Int.tmod a0 a1)) (fn := Go.Proofs.Try.f14) Go.Proofs.Try.func14 (by kernel_rfl) (by kernel_rfl) (by kernel_rfl) ⟨_, rfl, rfl, (hM.pick [] rfl rfl)⟩

/-! ### scrim/scrimlaw3.FieldNone: function 8 -/
def scrimlaw3_FieldNone.l0 : Nat → Int → Int → Int → Int → Option (Bool)
  | 0, _, _, _, _ => none
  | k + 1, a0, t4, t6, x7_0 => if (decide (x7_0 < 256)) = true then ((field_Mul.f k a0 (U8 (x7_0)) (I64 (256 + t4))).bind fun t9 => (if (t9 == 1) = true then (some ((I64 (t6)) == x7_0)) else (scrimlaw3_FieldNone.l0 k a0 t4 t6 (I64 (x7_0 + 1))))) else (some (t6 == 0))
def scrimlaw3_FieldNone.f (k : Nat) (a0 : Int) (a1 : Int) : Option (Bool) := (scrimlaw3_known.f k).bind fun t1 => (if (!t1) = true then (some false) else ((scrimlaw3_within.f k a1 256).bind fun t4 => ((field_Inv.f k a0 (I64 (256 + t4))).bind fun t6 => (scrimlaw3_FieldNone.l0 k a0 t4 t6 1))))
set_option maxRecDepth 100000 in
theorem scrimlaw3_FieldNone.calls (k : Nat) (a0 : Int) (a1 : Int) (r : Bool) (w : World) (h : scrimlaw3_FieldNone.f k a0 a1 = some r) :
    Calls Go.Proofs.Try.prog 8 #[.int .u8 a0, .int .i64 a1] w (Ret fun v w' => v = .bool r ∧ Mem w w' []) := by
  unfold scrimlaw3_FieldNone.f at h
  refine calls_of [.int .u8 a0, .int .i64 a1] (fn := Go.Proofs.Try.f8) Go.Proofs.Try.func8 (by kernel_rfl) (by kernel_rfl) ?_
  have hM := Mem.refl w
  refine RunF.go 7 [0, 1] (k' := (pin Go.Proofs.Try.f8 [1, 0, 0] 0)) (L' := [(0, .int .u8 a0), (1, .int .i64 a1)]) (w' := w) (by kernel_rfl) ?_
  obtain ⟨t1, ht1, h⟩ := Option.bind_eq_some_iff.mp h
  refine RunF.call (d := some 8) (g := 12) (args := #[]) (k2 := (pin Go.Proofs.Try.f8 [1, 0, 0] 1)) (by kernel_rfl) (scrimlaw3_known.calls k t1 _ ht1) ?_
  rintro _ W2 ⟨rfl, hM_⟩
  replace hM := hM.call hM_
  clear hM_ ht1
  refine RunF.go 2 [0, 1, 9] (k' := (pl Go.Proofs.Try.f8 [1, 0, 1])) (L' := [(0, .int .u8 a0), (1, .int .i64 a1), (9, .bool (!t1))]) (w' := W2) (by kernel_rfl) ?_
  rcases two (!t1) with c3 | c3
  · replace h := of_true h c3
    refine RunF.know 9 (b := true) (by kernel_rfl) c3 ?_
    refine RunF.go 5 [4] (k' := (pl Go.Proofs.Try.f8 [1, 0, 1, 0, 1])) (L' := [(4, .bool false)]) (w' := W2) (by kernel_rfl) ?_
    obtain rfl := Option.some.inj h
    exact RunF.ret1 4 (.bool false) (fn := Go.Proofs.Try.f8) Go.Proofs.Try.func8 (by kernel_rfl) (by kernel_rfl) (by kernel_rfl) ⟨_, rfl, rfl, (hM.pick [] rfl rfl)⟩
  · replace h := of_false h c3
    refine RunF.know 9 (b := false) (by kernel_rfl) c3 ?_
    refine RunF.go 5 [0, 10] (k' := (pin Go.Proofs.Try.f8 [1, 1, 0] 1)) (L' := [(0, .int .u8 a0), (10, .int .i64 a1)]) (w' := W2) (by kernel_rfl) ?_
    obtain ⟨t4, ht4, h⟩ := Option.bind_eq_some_iff.mp h
    refine RunF.call (d := some 11) (g := 14) (args := #[.int .i64 a1, .int .i64 256]) (k2 := (pin Go.Proofs.Try.f8 [1, 1, 0] 2)) (by kernel_rfl) (scrimlaw3_within.calls k a1 256 t4 _ ht4) ?_
    rintro _ W5 ⟨rfl, hM_⟩
    replace hM := hM.call hM_
    clear hM_ ht4
    refine RunF.go 7 [0, 5, 13, 14] (k' := (pin Go.Proofs.Try.f8 [1, 1, 1, 0] 2)) (L' := [(0, .int .u8 a0), (5, .int .i64 (I64 (256 + t4))), (13, .int .u8 a0), (14, .int .i64 (I64 (256 + t4)))]) (w' := W5) (by kernel_rfl) ?_
    obtain ⟨t6, ht6, h⟩ := Option.bind_eq_some_iff.mp h
    refine RunF.call (d := some 15) (g := 19) (args := #[.int .u8 a0, .int .i64 (I64 (256 + t4))]) (k2 := (pin Go.Proofs.Try.f8 [1, 1, 1, 0] 3)) (by kernel_rfl) (field_Inv.calls k a0 (I64 (256 + t4)) t6 _ ht6) ?_
    rintro _ W7 ⟨rfl, hM_⟩
    replace hM := hM.call hM_
    clear hM_ ht6
    refine RunF.go 9 [0, 5, 6, 7] (k' := (pl Go.Proofs.Try.f8 [1, 1, 1, 1, 0, 1, 0, 0])) (L' := [(0, .int .u8 a0), (5, .int .i64 (I64 (256 + t4))), (6, .int .u8 t6), (7, .int .i64 1)]) (w' := W7) (by kernel_rfl) ?_
    have l0 : ∀ (k_ : Nat), k_ ≤ k → ∀ (x7_0 : Int) (W : World) (hM : Mem w W []) (h : scrimlaw3_FieldNone.l0 k_ a0 t4 t6 x7_0 = some r), RunF Go.Proofs.Try.prog (Ret fun v w' => v = .bool r ∧ Mem w w' []) 8 (pl Go.Proofs.Try.f8 [1, 1, 1, 1, 0, 1, 0, 0]) 32 [(0, .int .u8 a0), (5, .int .i64 (I64 (256 + t4))), (6, .int .u8 t6), (7, .int .i64 x7_0)] W := by
      intro k_
      induction k_ using Nat.strongRecOn with
      | _ k_ ih0 =>
        intro hk x7_0 W hM h
        cases k_ with
        | zero => exact absurd h (by simp [scrimlaw3_FieldNone.l0])
        | succ k =>
          simp only [scrimlaw3_FieldNone.l0] at h
          replace ih0 : ∀ m, m ≤ k → _ := fun m hm => ih0 m (by omega) (by omega)
          refine RunF.go 6 [0, 5, 6, 7, 17] (k' := (pl Go.Proofs.Try.f8 [1, 1, 1, 1, 0, 1, 0, 0, 0, 1])) (L' := [(0, .int .u8 a0), (5, .int .i64 (I64 (256 + t4))), (6, .int .u8 t6), (7, .int .i64 x7_0), (17, .bool (decide (x7_0 < 256)))]) (w' := W) (by kernel_rfl) ?_
          rcases two (decide (x7_0 < 256)) with c8 | c8
          · replace h := of_true h c8
            refine RunF.know 17 (b := true) (by kernel_rfl) c8 ?_
            refine RunF.go 10 [0, 5, 6, 7, 20, 22, 23] (k' := (pin Go.Proofs.Try.f8 [1, 1, 1, 1, 0, 1, 0, 0, 1, 0, 0, 0] 4)) (L' := [(0, .int .u8 a0), (5, .int .i64 (I64 (256 + t4))), (6, .int .u8 t6), (7, .int .i64 x7_0), (20, .int .u8 a0), (22, .int .u8 (U8 (x7_0))), (23, .int .i64 (I64 (256 + t4)))]) (w' := W) (by kernel_rfl) ?_
            obtain ⟨t9, ht9, h⟩ := Option.bind_eq_some_iff.mp h
            refine RunF.call (d := some 24) (g := 15) (args := #[.int .u8 a0, .int .u8 (U8 (x7_0)), .int .i64 (I64 (256 + t4))]) (k2 := (pin Go.Proofs.Try.f8 [1, 1, 1, 1, 0, 1, 0, 0, 1, 0, 0, 0] 5)) (by kernel_rfl) (field_Mul.calls k a0 (U8 (x7_0)) (I64 (256 + t4)) t9 _ ht9) ?_
            rintro _ W10 ⟨rfl, hM_⟩
            replace hM := hM.call hM_
            clear hM_ ht9
            refine RunF.go 2 [0, 5, 6, 7, 25] (k' := (pl Go.Proofs.Try.f8 [1, 1, 1, 1, 0, 1, 0, 0, 1, 0, 0, 1])) (L' := [(0, .int .u8 a0), (5, .int .i64 (I64 (256 + t4))), (6, .int .u8 t6), (7, .int .i64 x7_0), (25, .bool (t9 == 1))]) (w' := W10) (by kernel_rfl) ?_
            rcases two ((t9 == 1)) with c11 | c11
            · replace h := of_true h c11
              refine RunF.know 25 (b := true) (by kernel_rfl) c11 ?_
              refine RunF.go 9 [4] (k' := (pl Go.Proofs.Try.f8 [1, 1, 1, 1, 0, 1, 0, 0, 1, 0, 0, 1, 0, 1])) (L' := [(4, .bool ((I64 (t6)) == x7_0))]) (w' := W10) (by kernel_rfl) ?_
              obtain rfl := Option.some.inj h
              exact RunF.ret1 4 (.bool ((I64 (t6)) == x7_0)) (fn := Go.Proofs.Try.f8) Go.Proofs.Try.func8 (by kernel_rfl) (by kernel_rfl) (by kernel_rfl) ⟨_, rfl, rfl, (hM.pick [] rfl rfl)⟩
            · replace h := of_false h c11
              refine RunF.know 25 (b := false) (by kernel_rfl) c11 ?_
              refine RunF.go 9 [0, 5, 6, 7] (k' := (pl Go.Proofs.Try.f8 [1, 1, 1, 1, 0, 1, 0, 0])) (L' := [(0, .int .u8 a0), (5, .int .i64 (I64 (256 + t4))), (6, .int .u8 t6), (7, .int .i64 (I64 (x7_0 + 1)))]) (w' := W10) (by kernel_rfl) ?_
              exact ih0 k (by omega) (I64 (x7_0 + 1)) _ (hM.pick [] rfl rfl) h
          · replace h := of_false h c8
            refine RunF.know 17 (b := false) (by kernel_rfl) c8 ?_
            refine RunF.go 8 [4] (k' := (pl Go.Proofs.Try.f8 [1, 1, 1, 1, 1, 1])) (L' := [(4, .bool (t6 == 0))]) (w' := W) (by kernel_rfl) ?_
            obtain rfl := Option.some.inj h
            exact RunF.ret1 4 (.bool (t6 == 0)) (fn := Go.Proofs.Try.f8) Go.Proofs.Try.func8 (by kernel_rfl) (by kernel_rfl) (by kernel_rfl) ⟨_, rfl, rfl, (hM.pick [] rfl rfl)⟩
    exact l0 k (Nat.le_refl _) 1 _ (hM.pick [] rfl rfl) h


end Go.Scr.S
