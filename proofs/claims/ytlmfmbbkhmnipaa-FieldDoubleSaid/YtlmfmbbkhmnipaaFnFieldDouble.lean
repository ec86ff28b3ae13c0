/- The functions that the law FieldDouble reaches, as plain functions, and that each call answers so. -/
import Derived.Test.YtlmfmbbkhmnipaaProg
import Derived.Test.YtlmfmbbkhmnipaaXPure
set_option linter.unusedVariables false
set_option linter.unusedSimpArgs false
set_option linter.unnecessarySimpa false
namespace Go.Scr.S
/-! ### scrim/field.Mul: function 15 -/
def field_Mul.l0 : Nat → Int → Int → Int → Int → Option (Int)
  | 0, _, _, _, _ => none
  | k + 1, a2, x7_0, x8_0, x9_0 => if (x9_0 == 0) = true then (some (U8 (x7_0))) else (if (decide ((band .i64 x9_0 1) > 0)) = true then (if (decide ((shl .i64 x8_0 1) ≥ 256)) = true then ((some (band .i64 (bxor .i64 (shl .i64 x8_0 1) a2) 255 : Int)).bind fun y4 => (field_Mul.l0 k a2 (bxor .i64 x7_0 x8_0) y4 (shr x9_0 1))) else (field_Mul.l0 k a2 (bxor .i64 x7_0 x8_0) (band .i64 (shl .i64 x8_0 1) 255) (shr x9_0 1))) else (if (decide ((shl .i64 x8_0 1) ≥ 256)) = true then ((some (band .i64 (bxor .i64 (shl .i64 x8_0 1) a2) 255 : Int)).bind fun y6 => (field_Mul.l0 k a2 x7_0 y6 (shr x9_0 1))) else (field_Mul.l0 k a2 x7_0 (band .i64 (shl .i64 x8_0 1) 255) (shr x9_0 1))))
def field_Mul.f (k : Nat) (a0 : Int) (a1 : Int) (a2 : Int) : Option (Int) := field_Mul.l0 k a2 0 (I64 (a0)) (I64 (a1))
set_option maxRecDepth 100000 in
theorem field_Mul.calls (k : Nat) (a0 : Int) (a1 : Int) (a2 : Int) (r : Int) (w : World) (h : field_Mul.f k a0 a1 a2 = some r) :
    Calls Go.Proofs.Try.prog 15 #[.int .u8 a0, .int .u8 a1, .int .i64 a2] w (Ret fun v w' => v = .int .u8 r ∧ Mem w w' []) := by
  unfold field_Mul.f at h
  refine calls_of [.int .u8 a0, .int .u8 a1, .int .i64 a2] (fn := Go.Proofs.Try.f15) Go.Proofs.Try.func15 (by kernel_rfl) (by kernel_rfl) ?_
  have hM := Mem.refl w
  refine RunF.go 17 [2, 7, 8, 9] (k' := (pl Go.Proofs.Try.f15 [1, 0, 1, 1])) (L' := [(2, .int .i64 a2), (7, .int .i64 0), (8, .int .i64 (I64 (a0))), (9, .int .i64 (I64 (a1)))]) (w' := w) (by kernel_rfl) ?_
  have l0 : ∀ (k_ : Nat), k_ ≤ k → ∀ (x7_0 : Int) (x8_0 : Int) (x9_0 : Int) (W : World) (hM : Mem w W []) (h : field_Mul.l0 k_ a2 x7_0 x8_0 x9_0 = some r), RunF Go.Proofs.Try.prog (Ret fun v w' => v = .int .u8 r ∧ Mem w w' []) 15 (pl Go.Proofs.Try.f15 [1, 0, 1, 1]) 35 [(2, .int .i64 a2), (7, .int .i64 x7_0), (8, .int .i64 x8_0), (9, .int .i64 x9_0)] W := by
    intro k_
    induction k_ using Nat.strongRecOn with
    | _ k_ ih0 =>
      intro hk x7_0 x8_0 x9_0 W hM h
      cases k_ with
      | zero => exact absurd h (by simp [field_Mul.l0])
      | succ k =>
        simp only [field_Mul.l0] at h
        replace ih0 : ∀ m, m ≤ k → _ := fun m hm => ih0 m (by omega) (by omega)
        refine RunF.go 6 [2, 7, 8, 9, 15] (k' := (pl Go.Proofs.Try.f15 [1, 0, 1, 1, 0, 1])) (L' := [(2, .int .i64 a2), (7, .int .i64 x7_0), (8, .int .i64 x8_0), (9, .int .i64 x9_0), (15, .bool (x9_0 == 0))]) (w' := W) (by kernel_rfl) ?_
        rcases two ((x9_0 == 0)) with c1 | c1
        · replace h := of_true h c1
          refine RunF.know 15 (b := true) (by kernel_rfl) c1 ?_
          refine RunF.go 7 [6] (k' := (pl Go.Proofs.Try.f15 [1, 0, 1, 1, 0, 1, 0, 1])) (L' := [(6, .int .u8 (U8 (x7_0)))]) (w' := W) (by kernel_rfl) ?_
          obtain rfl := Option.some.inj h
          exact RunF.ret1 6 (.int .u8 (U8 (x7_0))) (fn := Go.Proofs.Try.f15) Go.Proofs.Try.func15 (by kernel_rfl) (by kernel_rfl) (by kernel_rfl) ⟨_, rfl, rfl, (hM.pick [] rfl rfl)⟩
        · replace h := of_false h c1
          refine RunF.know 15 (b := false) (by kernel_rfl) c1 ?_
          refine RunF.go 9 [2, 7, 8, 9, 20] (k' := (pl Go.Proofs.Try.f15 [1, 0, 1, 1, 1, 0, 1])) (L' := [(2, .int .i64 a2), (7, .int .i64 x7_0), (8, .int .i64 x8_0), (9, .int .i64 x9_0), (20, .bool (decide ((band .i64 x9_0 1) > 0)))]) (w' := W) (by kernel_rfl) ?_
          rcases two (decide ((band .i64 x9_0 1) > 0)) with c2 | c2
          · replace h := of_true h c2
            refine RunF.know 20 (b := true) (by kernel_rfl) c2 ?_
            refine RunF.go 22 [2, 7, 8, 9, 29] (k' := (pl Go.Proofs.Try.f15 [1, 0, 1, 1, 1, 1, 0, 1, 1])) (L' := [(2, .int .i64 a2), (7, .int .i64 (bxor .i64 x7_0 x8_0)), (8, .int .i64 (shl .i64 x8_0 1)), (9, .int .i64 (shr x9_0 1)), (29, .bool (decide ((shl .i64 x8_0 1) ≥ 256)))]) (w' := W) (by kernel_rfl) ?_
            rcases two (decide ((shl .i64 x8_0 1) ≥ 256)) with c3 | c3
            · replace h := of_true h c3
              refine RunF.know 29 (b := true) (by kernel_rfl) c3 ?_
              refine RunF.go 16 [2, 7, 8, 9] (k' := (pl Go.Proofs.Try.f15 [1, 0, 1, 1])) (L' := [(2, .int .i64 a2), (7, .int .i64 (bxor .i64 x7_0 x8_0)), (8, .int .i64 (band .i64 (bxor .i64 (shl .i64 x8_0 1) a2) 255)), (9, .int .i64 (shr x9_0 1))]) (w' := W) (by kernel_rfl) ?_
              obtain ⟨y4, hy, h⟩ := Option.bind_eq_some_iff.mp h
              rw [show (band .i64 (bxor .i64 (shl .i64 x8_0 1) a2) 255) = y4 from Option.some.inj hy]
              clear hy
              exact ih0 k (by omega) (bxor .i64 x7_0 x8_0) y4 (shr x9_0 1) _ (hM.pick [] rfl rfl) h
            · replace h := of_false h c3
              refine RunF.know 29 (b := false) (by kernel_rfl) c3 ?_
              refine RunF.go 11 [2, 7, 8, 9] (k' := (pl Go.Proofs.Try.f15 [1, 0, 1, 1])) (L' := [(2, .int .i64 a2), (7, .int .i64 (bxor .i64 x7_0 x8_0)), (8, .int .i64 (band .i64 (shl .i64 x8_0 1) 255)), (9, .int .i64 (shr x9_0 1))]) (w' := W) (by kernel_rfl) ?_
              exact ih0 k (by omega) (bxor .i64 x7_0 x8_0) (band .i64 (shl .i64 x8_0 1) 255) (shr x9_0 1) _ (hM.pick [] rfl rfl) h
          · replace h := of_false h c2
            refine RunF.know 20 (b := false) (by kernel_rfl) c2 ?_
            refine RunF.go 17 [2, 7, 8, 9, 29] (k' := (pl Go.Proofs.Try.f15 [1, 0, 1, 1, 1, 1, 0, 1, 1])) (L' := [(2, .int .i64 a2), (7, .int .i64 x7_0), (8, .int .i64 (shl .i64 x8_0 1)), (9, .int .i64 (shr x9_0 1)), (29, .bool (decide ((shl .i64 x8_0 1) ≥ 256)))]) (w' := W) (by kernel_rfl) ?_
            rcases two (decide ((shl .i64 x8_0 1) ≥ 256)) with c5 | c5
            · replace h := of_true h c5
              refine RunF.know 29 (b := true) (by kernel_rfl) c5 ?_
              refine RunF.go 16 [2, 7, 8, 9] (k' := (pl Go.Proofs.Try.f15 [1, 0, 1, 1])) (L' := [(2, .int .i64 a2), (7, .int .i64 x7_0), (8, .int .i64 (band .i64 (bxor .i64 (shl .i64 x8_0 1) a2) 255)), (9, .int .i64 (shr x9_0 1))]) (w' := W) (by kernel_rfl) ?_
              obtain ⟨y6, hy, h⟩ := Option.bind_eq_some_iff.mp h
              rw [show (band .i64 (bxor .i64 (shl .i64 x8_0 1) a2) 255) = y6 from Option.some.inj hy]
              clear hy
              exact ih0 k (by omega) x7_0 y6 (shr x9_0 1) _ (hM.pick [] rfl rfl) h
            · replace h := of_false h c5
              refine RunF.know 29 (b := false) (by kernel_rfl) c5 ?_
              refine RunF.go 11 [2, 7, 8, 9] (k' := (pl Go.Proofs.Try.f15 [1, 0, 1, 1])) (L' := [(2, .int .i64 a2), (7, .int .i64 x7_0), (8, .int .i64 (band .i64 (shl .i64 x8_0 1) 255)), (9, .int .i64 (shr x9_0 1))]) (w' := W) (by kernel_rfl) ?_
              exact ih0 k (by omega) x7_0 (band .i64 (shl .i64 x8_0 1) 255) (shr x9_0 1) _ (hM.pick [] rfl rfl) h
  exact l0 k (Nat.le_refl _) 0 (I64 (a0)) (I64 (a1)) _ (hM.pick [] rfl rfl) h

/-! ### scrim/field.Pow: function 17 -/
def field_Pow.l0 : Nat → Int → Int → Int → Int → Option (Int)
  | 0, _, _, _, _ => none
  | k + 1, a2, x0_0, x1_0, x7_0 => if (decide (x1_0 ≤ 0)) = true then (some x7_0) else (if (decide ((band .i64 x1_0 1) > 0)) = true then ((field_Mul.f k x7_0 x0_0 a2).bind fun t3 => ((field_Mul.f k x0_0 x0_0 a2).bind fun t5 => (field_Pow.l0 k a2 t5 (shr x1_0 1) t3))) else ((field_Mul.f k x0_0 x0_0 a2).bind fun t7 => (field_Pow.l0 k a2 t7 (shr x1_0 1) x7_0)))
def field_Pow.f (k : Nat) (a0 : Int) (a1 : Int) (a2 : Int) : Option (Int) := field_Pow.l0 k a2 a0 a1 1
set_option maxRecDepth 100000 in
theorem field_Pow.calls (k : Nat) (a0 : Int) (a1 : Int) (a2 : Int) (r : Int) (w : World) (h : field_Pow.f k a0 a1 a2 = some r) :
    Calls Go.Proofs.Try.prog 17 #[.int .u8 a0, .int .i64 a1, .int .i64 a2] w (Ret fun v w' => v = .int .u8 r ∧ Mem w w' []) := by
  unfold field_Pow.f at h
  refine calls_of [.int .u8 a0, .int .i64 a1, .int .i64 a2] (fn := Go.Proofs.Try.f17) Go.Proofs.Try.func17 (by kernel_rfl) (by kernel_rfl) ?_
  have hM := Mem.refl w
  refine RunF.go 11 [0, 1, 2, 7] (k' := (pl Go.Proofs.Try.f17 [1, 0, 1, 1])) (L' := [(0, .int .u8 a0), (1, .int .i64 a1), (2, .int .i64 a2), (7, .int .u8 1)]) (w' := w) (by kernel_rfl) ?_
  have l0 : ∀ (k_ : Nat), k_ ≤ k → ∀ (x0_0 : Int) (x1_0 : Int) (x7_0 : Int) (W : World) (hM : Mem w W []) (h : field_Pow.l0 k_ a2 x0_0 x1_0 x7_0 = some r), RunF Go.Proofs.Try.prog (Ret fun v w' => v = .int .u8 r ∧ Mem w w' []) 17 (pl Go.Proofs.Try.f17 [1, 0, 1, 1]) 24 [(0, .int .u8 x0_0), (1, .int .i64 x1_0), (2, .int .i64 a2), (7, .int .u8 x7_0)] W := by
    intro k_
    induction k_ using Nat.strongRecOn with
    | _ k_ ih0 =>
      intro hk x0_0 x1_0 x7_0 W hM h
      cases k_ with
      | zero => exact absurd h (by simp [field_Pow.l0])
      | succ k =>
        simp only [field_Pow.l0] at h
        replace ih0 : ∀ m, m ≤ k → _ := fun m hm => ih0 m (by omega) (by omega)
        refine RunF.go 6 [0, 1, 2, 7, 9] (k' := (pl Go.Proofs.Try.f17 [1, 0, 1, 1, 0, 1])) (L' := [(0, .int .u8 x0_0), (1, .int .i64 x1_0), (2, .int .i64 a2), (7, .int .u8 x7_0), (9, .bool (decide (x1_0 ≤ 0)))]) (w' := W) (by kernel_rfl) ?_
        rcases two (decide (x1_0 ≤ 0)) with c1 | c1
        · replace h := of_true h c1
          refine RunF.know 9 (b := true) (by kernel_rfl) c1 ?_
          refine RunF.go 6 [6] (k' := (pl Go.Proofs.Try.f17 [1, 0, 1, 1, 0, 1, 0, 1])) (L' := [(6, .int .u8 x7_0)]) (w' := W) (by kernel_rfl) ?_
          obtain rfl := Option.some.inj h
          exact RunF.ret1 6 (.int .u8 x7_0) (fn := Go.Proofs.Try.f17) Go.Proofs.Try.func17 (by kernel_rfl) (by kernel_rfl) (by kernel_rfl) ⟨_, rfl, rfl, (hM.pick [] rfl rfl)⟩
        · replace h := of_false h c1
          refine RunF.know 9 (b := false) (by kernel_rfl) c1 ?_
          refine RunF.go 9 [0, 1, 2, 7, 13] (k' := (pl Go.Proofs.Try.f17 [1, 0, 1, 1, 1, 0, 1])) (L' := [(0, .int .u8 x0_0), (1, .int .i64 x1_0), (2, .int .i64 a2), (7, .int .u8 x7_0), (13, .bool (decide ((band .i64 x1_0 1) > 0)))]) (w' := W) (by kernel_rfl) ?_
          rcases two (decide ((band .i64 x1_0 1) > 0)) with c2 | c2
          · replace h := of_true h c2
            refine RunF.know 13 (b := true) (by kernel_rfl) c2 ?_
            refine RunF.go 5 [0, 1, 2, 14, 15, 16] (k' := (pin Go.Proofs.Try.f17 [1, 0, 1, 1, 1, 0, 1, 0] 3)) (L' := [(0, .int .u8 x0_0), (1, .int .i64 x1_0), (2, .int .i64 a2), (14, .int .u8 x7_0), (15, .int .u8 x0_0), (16, .int .i64 a2)]) (w' := W) (by kernel_rfl) ?_
            obtain ⟨t3, ht3, h⟩ := Option.bind_eq_some_iff.mp h
            refine RunF.call (d := some 17) (g := 15) (args := #[.int .u8 x7_0, .int .u8 x0_0, .int .i64 a2]) (k2 := (pin Go.Proofs.Try.f17 [1, 0, 1, 1, 1, 0, 1, 0] 4)) (by kernel_rfl) (field_Mul.calls k x7_0 x0_0 a2 t3 _ ht3) ?_
            rintro _ W4 ⟨rfl, hM_⟩
            replace hM := hM.call hM_
            clear hM_ ht3
            refine RunF.go 7 [1, 2, 7, 18, 19, 20] (k' := (pin Go.Proofs.Try.f17 [1, 0, 1, 1, 1, 1, 0] 3)) (L' := [(1, .int .i64 x1_0), (2, .int .i64 a2), (7, .int .u8 t3), (18, .int .u8 x0_0), (19, .int .u8 x0_0), (20, .int .i64 a2)]) (w' := W4) (by kernel_rfl) ?_
            obtain ⟨t5, ht5, h⟩ := Option.bind_eq_some_iff.mp h
            refine RunF.call (d := some 21) (g := 15) (args := #[.int .u8 x0_0, .int .u8 x0_0, .int .i64 a2]) (k2 := (pin Go.Proofs.Try.f17 [1, 0, 1, 1, 1, 1, 0] 4)) (by kernel_rfl) (field_Mul.calls k x0_0 x0_0 a2 t5 _ ht5) ?_
            rintro _ W6 ⟨rfl, hM_⟩
            replace hM := hM.call hM_
            clear hM_ ht5
            refine RunF.go 8 [0, 1, 2, 7] (k' := (pl Go.Proofs.Try.f17 [1, 0, 1, 1])) (L' := [(0, .int .u8 t5), (1, .int .i64 (shr x1_0 1)), (2, .int .i64 a2), (7, .int .u8 t3)]) (w' := W6) (by kernel_rfl) ?_
            exact ih0 k (by omega) t5 (shr x1_0 1) t3 _ (hM.pick [] rfl rfl) h
          · replace h := of_false h c2
            refine RunF.know 13 (b := false) (by kernel_rfl) c2 ?_
            refine RunF.go 7 [1, 2, 7, 18, 19, 20] (k' := (pin Go.Proofs.Try.f17 [1, 0, 1, 1, 1, 1, 0] 3)) (L' := [(1, .int .i64 x1_0), (2, .int .i64 a2), (7, .int .u8 x7_0), (18, .int .u8 x0_0), (19, .int .u8 x0_0), (20, .int .i64 a2)]) (w' := W) (by kernel_rfl) ?_
            obtain ⟨t7, ht7, h⟩ := Option.bind_eq_some_iff.mp h
            refine RunF.call (d := some 21) (g := 15) (args := #[.int .u8 x0_0, .int .u8 x0_0, .int .i64 a2]) (k2 := (pin Go.Proofs.Try.f17 [1, 0, 1, 1, 1, 1, 0] 4)) (by kernel_rfl) (field_Mul.calls k x0_0 x0_0 a2 t7 _ ht7) ?_
            rintro _ W8 ⟨rfl, hM_⟩
            replace hM := hM.call hM_
            clear hM_ ht7
            refine RunF.go 8 [0, 1, 2, 7] (k' := (pl Go.Proofs.Try.f17 [1, 0, 1, 1])) (L' := [(0, .int .u8 t7), (1, .int .i64 (shr x1_0 1)), (2, .int .i64 a2), (7, .int .u8 x7_0)]) (w' := W8) (by kernel_rfl) ?_
            exact ih0 k (by omega) t7 (shr x1_0 1) x7_0 _ (hM.pick [] rfl rfl) h
  exact l0 k (Nat.le_refl _) a0 a1 1 _ (hM.pick [] rfl rfl) h

/-! ### scrim/field.Inv: function 19 -/
def field_Inv.l0 : Nat → Int → Int → Int → Option (Int)
  | 0, _, _, _ => none
  | k + 1, a0, a1, x6_0 => if (decide (x6_0 < 256)) = true then ((field_Mul.f k a0 (U8 (x6_0)) a1).bind fun t2 => (if (t2 == 1) = true then (some (U8 (x6_0))) else (field_Inv.l0 k a0 a1 (I64 (x6_0 + 1))))) else (some 0)
def field_Inv.f (k : Nat) (a0 : Int) (a1 : Int) : Option (Int) := field_Inv.l0 k a0 a1 0
set_option maxRecDepth 100000 in
theorem field_Inv.calls (k : Nat) (a0 : Int) (a1 : Int) (r : Int) (w : World) (h : field_Inv.f k a0 a1 = some r) :
    Calls Go.Proofs.Try.prog 19 #[.int .u8 a0, .int .i64 a1] w (Ret fun v w' => v = .int .u8 r ∧ Mem w w' []) := by
  unfold field_Inv.f at h
  refine calls_of [.int .u8 a0, .int .i64 a1] (fn := Go.Proofs.Try.f19) Go.Proofs.Try.func19 (by kernel_rfl) (by kernel_rfl) ?_
  have hM := Mem.refl w
  refine RunF.go 11 [0, 1, 6] (k' := (pl Go.Proofs.Try.f19 [1, 0, 1, 0, 0])) (L' := [(0, .int .u8 a0), (1, .int .i64 a1), (6, .int .i64 0)]) (w' := w) (by kernel_rfl) ?_
  have l0 : ∀ (k_ : Nat), k_ ≤ k → ∀ (x6_0 : Int) (W : World) (hM : Mem w W []) (h : field_Inv.l0 k_ a0 a1 x6_0 = some r), RunF Go.Proofs.Try.prog (Ret fun v w' => v = .int .u8 r ∧ Mem w w' []) 19 (pl Go.Proofs.Try.f19 [1, 0, 1, 0, 0]) 18 [(0, .int .u8 a0), (1, .int .i64 a1), (6, .int .i64 x6_0)] W := by
    intro k_
    induction k_ using Nat.strongRecOn with
    | _ k_ ih0 =>
      intro hk x6_0 W hM h
      cases k_ with
      | zero => exact absurd h (by simp [field_Inv.l0])
      | succ k =>
        simp only [field_Inv.l0] at h
        replace ih0 : ∀ m, m ≤ k → _ := fun m hm => ih0 m (by omega) (by omega)
        refine RunF.go 5 [0, 1, 6, 7] (k' := (pl Go.Proofs.Try.f19 [1, 0, 1, 0, 0, 1, 0])) (L' := [(0, .int .u8 a0), (1, .int .i64 a1), (6, .int .i64 x6_0), (7, .bool (decide (x6_0 < 256)))]) (w' := W) (by kernel_rfl) ?_
        rcases two (decide (x6_0 < 256)) with c1 | c1
        · replace h := of_true h c1
          refine RunF.know 7 (b := true) (by kernel_rfl) c1 ?_
          refine RunF.go 15 [0, 1, 5, 6, 9, 11, 12] (k' := (pin Go.Proofs.Try.f19 [1, 0, 1, 0, 0, 1, 1, 0, 0, 1, 0] 4)) (L' := [(0, .int .u8 a0), (1, .int .i64 a1), (5, .int .i64 x6_0), (6, .int .i64 x6_0), (9, .int .u8 a0), (11, .int .u8 (U8 (x6_0))), (12, .int .i64 a1)]) (w' := W) (by kernel_rfl) ?_
          obtain ⟨t2, ht2, h⟩ := Option.bind_eq_some_iff.mp h
          refine RunF.call (d := some 13) (g := 15) (args := #[.int .u8 a0, .int .u8 (U8 (x6_0)), .int .i64 a1]) (k2 := (pin Go.Proofs.Try.f19 [1, 0, 1, 0, 0, 1, 1, 0, 0, 1, 0] 5)) (by kernel_rfl) (field_Mul.calls k a0 (U8 (x6_0)) a1 t2 _ ht2) ?_
          rintro _ W3 ⟨rfl, hM_⟩
          replace hM := hM.call hM_
          clear hM_ ht2
          refine RunF.go 2 [0, 1, 5, 6, 14] (k' := (pl Go.Proofs.Try.f19 [1, 0, 1, 0, 0, 1, 1, 0, 0, 1, 1])) (L' := [(0, .int .u8 a0), (1, .int .i64 a1), (5, .int .i64 x6_0), (6, .int .i64 x6_0), (14, .bool (t2 == 1))]) (w' := W3) (by kernel_rfl) ?_
          rcases two ((t2 == 1)) with c4 | c4
          · replace h := of_true h c4
            refine RunF.know 14 (b := true) (by kernel_rfl) c4 ?_
            refine RunF.go 7 [4] (k' := (pl Go.Proofs.Try.f19 [1, 0, 1, 0, 0, 1, 1, 0, 0, 1, 1, 0, 1])) (L' := [(4, .int .u8 (U8 (x6_0)))]) (w' := W3) (by kernel_rfl) ?_
            obtain rfl := Option.some.inj h
            exact RunF.ret1 4 (.int .u8 (U8 (x6_0))) (fn := Go.Proofs.Try.f19) Go.Proofs.Try.func19 (by kernel_rfl) (by kernel_rfl) (by kernel_rfl) ⟨_, rfl, rfl, (hM.pick [] rfl rfl)⟩
          · replace h := of_false h c4
            refine RunF.know 14 (b := false) (by kernel_rfl) c4 ?_
            refine RunF.go 8 [0, 1, 6] (k' := (pl Go.Proofs.Try.f19 [1, 0, 1, 0, 0])) (L' := [(0, .int .u8 a0), (1, .int .i64 a1), (6, .int .i64 (I64 (x6_0 + 1)))]) (w' := W3) (by kernel_rfl) ?_
            exact ih0 k (by omega) (I64 (x6_0 + 1)) _ (hM.pick [] rfl rfl) h
        · replace h := of_false h c1
          refine RunF.know 7 (b := false) (by kernel_rfl) c1 ?_
          refine RunF.go 6 [4] (k' := (pl Go.Proofs.Try.f19 [1, 1, 1])) (L' := [(4, .int .u8 0)]) (w' := W) (by kernel_rfl) ?_
          obtain rfl := Option.some.inj h
          exact RunF.ret1 4 (.int .u8 0) (fn := Go.Proofs.Try.f19) Go.Proofs.Try.func19 (by kernel_rfl) (by kernel_rfl) (by kernel_rfl) ⟨_, rfl, rfl, (hM.pick [] rfl rfl)⟩
  exact l0 k (Nat.le_refl _) 0 _ (hM.pick [] rfl rfl) h

/-! ### scrim/scrimlaw3.known: function 12 -/
def scrimlaw3_known.f (k : Nat)  : Option (Bool) := (field_Mul.f k 2 128 283).bind fun t1 => (if (t1 == 27) = true then ((field_Pow.f k 3 0 283).bind fun t4 => (if (t4 == 1) = true then ((field_Inv.f k 1 283).bind fun t7 => (some (t7 == 1))) else (some false))) else (some false))
set_option maxRecDepth 100000 in
theorem scrimlaw3_known.calls (k : Nat)  (r : Bool) (w : World) (h : scrimlaw3_known.f k = some r) :
    Calls Go.Proofs.Try.prog 12 #[] w (Ret fun v w' => v = .bool r ∧ Mem w w' []) := by
  unfold scrimlaw3_known.f at h
  refine calls_of [] (fn := Go.Proofs.Try.f12) Go.Proofs.Try.func12 (by kernel_rfl) (by kernel_rfl) ?_
  have hM := Mem.refl w
  refine RunF.go 6 [] (k' := (pin Go.Proofs.Try.f12 [1, 0] 0)) (L' := []) (w' := w) (by kernel_rfl) ?_
  obtain ⟨t1, ht1, h⟩ := Option.bind_eq_some_iff.mp h
  refine RunF.call (d := some 1) (g := 15) (args := #[.int .u8 2, .int .u8 128, .int .i64 283]) (k2 := (pin Go.Proofs.Try.f12 [1, 0] 1)) (by kernel_rfl) (field_Mul.calls k 2 128 283 t1 _ ht1) ?_
  rintro _ W2 ⟨rfl, hM_⟩
  replace hM := hM.call hM_
  clear hM_ ht1
  refine RunF.go 2 [3] (k' := (pin Go.Proofs.Try.f12 [1, 0] 3)) (L' := [(3, .bool (t1 == 27))]) (w' := W2) (by kernel_rfl) ?_
  rcases two ((t1 == 27)) with c3 | c3
  · replace h := of_true h c3
    refine RunF.know 3 (b := true) (by kernel_rfl) c3 ?_
    obtain ⟨t4, ht4, h⟩ := Option.bind_eq_some_iff.mp h
    refine RunF.call (d := some 4) (g := 17) (args := #[.int .u8 3, .int .i64 0, .int .i64 283]) (k2 := (pin Go.Proofs.Try.f12 [1, 0] 4)) (by kernel_rfl) (field_Pow.calls k 3 0 283 t4 _ ht4) ?_
    rintro _ W5 ⟨rfl, hM_⟩
    replace hM := hM.call hM_
    clear hM_ ht4
    refine RunF.go 3 [7] (k' := (pin Go.Proofs.Try.f12 [1, 0] 7)) (L' := [(7, .bool (t4 == 1))]) (w' := W5) (by kernel_rfl) ?_
    rcases two ((t4 == 1)) with c6 | c6
    · replace h := of_true h c6
      refine RunF.know 7 (b := true) (by kernel_rfl) c6 ?_
      obtain ⟨t7, ht7, h⟩ := Option.bind_eq_some_iff.mp h
      refine RunF.call (d := some 8) (g := 19) (args := #[.int .u8 1, .int .i64 283]) (k2 := (pin Go.Proofs.Try.f12 [1, 0] 8)) (by kernel_rfl) (field_Inv.calls k 1 283 t7 _ ht7) ?_
      rintro _ W8 ⟨rfl, hM_⟩
      replace hM := hM.call hM_
      clear hM_ ht7
      refine RunF.go 4 [0] (k' := (pl Go.Proofs.Try.f12 [1, 1])) (L' := [(0, .bool (t7 == 1))]) (w' := W8) (by kernel_rfl) ?_
      obtain rfl := Option.some.inj h
      exact RunF.ret1 0 (.bool (t7 == 1)) (fn := Go.Proofs.Try.f12) Go.Proofs.Try.func12 (by kernel_rfl) (by kernel_rfl) (by kernel_rfl) ⟨_, rfl, rfl, (hM.pick [] rfl rfl)⟩
    · replace h := of_false h c6
      refine RunF.know 7 (b := false) (by kernel_rfl) c6 ?_
      refine RunF.go 5 [0] (k' := (pl Go.Proofs.Try.f12 [1, 1])) (L' := [(0, .bool false)]) (w' := W5) (by kernel_rfl) ?_
      obtain rfl := Option.some.inj h
      exact RunF.ret1 0 (.bool false) (fn := Go.Proofs.Try.f12) Go.Proofs.Try.func12 (by kernel_rfl) (by kernel_rfl) (by kernel_rfl) ⟨_, rfl, rfl, (hM.pick [] rfl rfl)⟩
  · replace h := of_false h c3
    refine RunF.know 3 (b := false) (by kernel_rfl) c3 ?_
    refine RunF.go 9 [0] (k' := (pl Go.Proofs.Try.f12 [1, 1])) (L' := [(0, .bool false)]) (w' := W2) (by kernel_rfl) ?_
    obtain rfl := Option.some.inj h
    exact RunF.ret1 0 (.bool false) (fn := Go.Proofs.Try.f12) Go.Proofs.Try.func12 (by kernel_rfl) (by kernel_rfl) (by kernel_rfl) ⟨_, rfl, rfl, (hM.pick [] rfl rfl)⟩

/-! ### scrim/scrimlaw3.within: function 14 -/
def scrimlaw3_within.f (k : Nat) (a0 : Int) (a1 : Int) : Option (Int) := if (decide (a1 = 0)) = true then (none) else (if (decide ((Int.tmod a0 a1) < 0)) = true then (some (I64 ((Int.tmod a0 a1) + a1))) else (some (Int.tmod a0 a1)))
set_option maxRecDepth 100000 in
theorem scrimlaw3_within.calls (k : Nat) (a0 : Int) (a1 : Int) (r : Int) (w : World) (h : scrimlaw3_within.f k a0 a1 = some r) :
    Calls Go.Proofs.Try.prog 14 #[.int .i64 a0, .int .i64 a1] w (Ret fun v w' => v = .int .i64 r ∧ Mem w w' []) := by
  unfold scrimlaw3_within.f at h
  refine calls_of [.int .i64 a0, .int .i64 a1] (fn := Go.Proofs.Try.f14) Go.Proofs.Try.func14 (by kernel_rfl) (by kernel_rfl) ?_
  have hM := Mem.refl w
  refine RunF.go 8 [1, 6, 7] (k' := (pin Go.Proofs.Try.f14 [1, 0] 2)) (L' := [(1, .int .i64 a1), (6, .int .i64 a0), (7, .int .i64 a1)]) (w' := w) (by kernel_rfl) ?_
  rcases two (decide (a1 = 0)) with c1 | c1
  · replace h := of_true h c1
    cases h
  · replace h := of_false h c1
    refine RunF.y (div_y (d := some 8) (b := false) (kd := .i64) (x := a0) (y := a1) (k2 := (pin Go.Proofs.Try.f14 [1, 0] 3)) (by kernel_rfl) c1) trivial ?_
    refine RunF.go 8 [1, 5, 10] (k' := (pl Go.Proofs.Try.f14 [1, 1, 0, 1])) (L' := [(1, .int .i64 a1), (5, .int .i64 (Int.tmod a0 a1)), (10, .bool (decide ((Int.tmod a0 a1) < 0)))]) (w' := w) (by kernel_rfl) ?_
    rcases two (decide ((Int.tmod a0 a1) < 0)) with c2 | c2
    · replace h := of_true h c2
      refine RunF.know 10 (b := true) (by kernel_rfl) c2 ?_
      refine RunF.go 12 [4] (k' := (pl Go.Proofs.Try.f14 [1, 1, 1, 1])) (L' := [(4, .int .i64 (I64 ((Int.tmod a0 a1) + a1)))]) (w' := w) (by kernel_rfl) ?_
      obtain rfl := Option.some.inj h
      exact RunF.ret1 4 (.int .i64 (I64 ((Int.tmod a0 a1) + a1))) (fn := Go.Proofs.Try.f14) Go.Proofs.Try.func14 (by kernel_rfl) (by kernel_rfl) (by kernel_rfl) ⟨_, rfl, rfl, (hM.pick [] rfl rfl)⟩
    · replace h := of_false h c2
      refine RunF.know 10 (b := false) (by kernel_rfl) c2 ?_
      refine RunF.go 7 [4] (k' := (pl Go.Proofs.Try.f14 [1, 1, 1, 1])) (L' := [(4, .int .i64 (Int.tmod a0 a1))]) (w' := w) (by kernel_rfl) ?_
      obtain rfl := Option.some.inj h
      exact RunF.ret1 4 (.int .i64 (Int.tmod a0 a1)) (fn := Go.Proofs.Try.f14) Go.Proofs.Try.func14 (by kernel_rfl) (by kernel_rfl) (by kernel_rfl) ⟨_, rfl, rfl, (hM.pick [] rfl rfl)⟩

/-! ### scrim/scrimref3.Mul: function 16 -/
def scrimref3_Mul.l0 : Nat → Int → Int → Int → Int → Int → Option (Int)
  | 0, _, _, _, _, _ => none
  | k + 1, a1, a2, x7_0, x8_0, x9_0 => if (decide (x9_0 < 8)) = true then (if (decide (0 ≤ x9_0)) = true then (if ((band .u8 (shrv .u8 a1 x9_0) 1) == 1) = true then (if (decide ((shl .i64 x8_0 1) ≥ 256)) = true then (scrimref3_Mul.l0 k a1 a2 (bxor .i64 x7_0 x8_0) (bxor .i64 (shl .i64 x8_0 1) a2) (U64 (x9_0 + 1))) else (scrimref3_Mul.l0 k a1 a2 (bxor .i64 x7_0 x8_0) (shl .i64 x8_0 1) (U64 (x9_0 + 1)))) else (if (decide ((shl .i64 x8_0 1) ≥ 256)) = true then (scrimref3_Mul.l0 k a1 a2 x7_0 (bxor .i64 (shl .i64 x8_0 1) a2) (U64 (x9_0 + 1))) else (scrimref3_Mul.l0 k a1 a2 x7_0 (shl .i64 x8_0 1) (U64 (x9_0 + 1))))) else (none)) else (some (U8 (x7_0)))
def scrimref3_Mul.f (k : Nat) (a0 : Int) (a1 : Int) (a2 : Int) : Option (Int) := scrimref3_Mul.l0 k a1 a2 0 (I64 (a0)) 0
set_option maxRecDepth 100000 in
theorem scrimref3_Mul.calls (k : Nat) (a0 : Int) (a1 : Int) (a2 : Int) (r : Int) (w : World) (h : scrimref3_Mul.f k a0 a1 a2 = some r) :
    Calls Go.Proofs.Try.prog 16 #[.int .u8 a0, .int .u8 a1, .int .i64 a2] w (Ret fun v w' => v = .int .u8 r ∧ Mem w w' []) := by
  unfold scrimref3_Mul.f at h
  refine calls_of [.int .u8 a0, .int .u8 a1, .int .i64 a2] (fn := Go.Proofs.Try.f16) Go.Proofs.Try.func16 (by kernel_rfl) (by kernel_rfl) ?_
  have hM := Mem.refl w
  refine RunF.go 18 [1, 2, 7, 8, 9] (k' := (pl Go.Proofs.Try.f16 [1, 1, 0, 1, 0, 0])) (L' := [(1, .int .u8 a1), (2, .int .i64 a2), (7, .int .i64 0), (8, .int .i64 (I64 (a0))), (9, .int .u64 0)]) (w' := w) (by kernel_rfl) ?_
  have l0 : ∀ (k_ : Nat), k_ ≤ k → ∀ (x7_0 : Int) (x8_0 : Int) (x9_0 : Int) (W : World) (hM : Mem w W []) (h : scrimref3_Mul.l0 k_ a1 a2 x7_0 x8_0 x9_0 = some r), RunF Go.Proofs.Try.prog (Ret fun v w' => v = .int .u8 r ∧ Mem w w' []) 16 (pl Go.Proofs.Try.f16 [1, 1, 0, 1, 0, 0]) 33 [(1, .int .u8 a1), (2, .int .i64 a2), (7, .int .i64 x7_0), (8, .int .i64 x8_0), (9, .int .u64 x9_0)] W := by
    intro k_
    induction k_ using Nat.strongRecOn with
    | _ k_ ih0 =>
      intro hk x7_0 x8_0 x9_0 W hM h
      cases k_ with
      | zero => exact absurd h (by simp [scrimref3_Mul.l0])
      | succ k =>
        simp only [scrimref3_Mul.l0] at h
        replace ih0 : ∀ m, m ≤ k → _ := fun m hm => ih0 m (by omega) (by omega)
        refine RunF.go 6 [1, 2, 7, 8, 9, 13] (k' := (pl Go.Proofs.Try.f16 [1, 1, 0, 1, 0, 0, 0, 1])) (L' := [(1, .int .u8 a1), (2, .int .i64 a2), (7, .int .i64 x7_0), (8, .int .i64 x8_0), (9, .int .u64 x9_0), (13, .bool (decide (x9_0 < 8)))]) (w' := W) (by kernel_rfl) ?_
        rcases two (decide (x9_0 < 8)) with c1 | c1
        · replace h := of_true h c1
          refine RunF.know 13 (b := true) (by kernel_rfl) c1 ?_
          refine RunF.go 9 [1, 2, 7, 8, 9, 16, 17] (k' := (pin Go.Proofs.Try.f16 [1, 1, 0, 1, 0, 0, 1, 0, 0, 0, 0] 2)) (L' := [(1, .int .u8 a1), (2, .int .i64 a2), (7, .int .i64 x7_0), (8, .int .i64 x8_0), (9, .int .u64 x9_0), (16, .int .u8 a1), (17, .int .u64 x9_0)]) (w' := W) (by kernel_rfl) ?_
          rcases two (decide (0 ≤ x9_0)) with c2 | c2
          · replace h := of_true h c2
            refine RunF.y (sh_y (d := some 18) (b := false) (kd := .u8) (x := a1) (y := x9_0) (k2 := (pin Go.Proofs.Try.f16 [1, 1, 0, 1, 0, 0, 1, 0, 0, 0, 0] 3)) (by kernel_rfl) c2) trivial ?_
            refine RunF.go 3 [1, 2, 7, 8, 9, 20] (k' := (pl Go.Proofs.Try.f16 [1, 1, 0, 1, 0, 0, 1, 0, 0, 0, 1])) (L' := [(1, .int .u8 a1), (2, .int .i64 a2), (7, .int .i64 x7_0), (8, .int .i64 x8_0), (9, .int .u64 x9_0), (20, .bool ((band .u8 (shrv .u8 a1 x9_0) 1) == 1))]) (w' := W) (by kernel_rfl) ?_
            rcases two (((band .u8 (shrv .u8 a1 x9_0) 1) == 1)) with c3 | c3
            · replace h := of_true h c3
              refine RunF.know 20 (b := true) (by kernel_rfl) c3 ?_
              refine RunF.go 18 [1, 2, 7, 8, 9, 27] (k' := (pl Go.Proofs.Try.f16 [1, 1, 0, 1, 0, 0, 1, 0, 0, 1, 1, 1])) (L' := [(1, .int .u8 a1), (2, .int .i64 a2), (7, .int .i64 (bxor .i64 x7_0 x8_0)), (8, .int .i64 (shl .i64 x8_0 1)), (9, .int .u64 x9_0), (27, .bool (decide ((shl .i64 x8_0 1) ≥ 256)))]) (w' := W) (by kernel_rfl) ?_
              rcases two (decide ((shl .i64 x8_0 1) ≥ 256)) with c4 | c4
              · replace h := of_true h c4
                refine RunF.know 27 (b := true) (by kernel_rfl) c4 ?_
                refine RunF.go 14 [1, 2, 7, 8, 9] (k' := (pl Go.Proofs.Try.f16 [1, 1, 0, 1, 0, 0])) (L' := [(1, .int .u8 a1), (2, .int .i64 a2), (7, .int .i64 (bxor .i64 x7_0 x8_0)), (8, .int .i64 (bxor .i64 (shl .i64 x8_0 1) a2)), (9, .int .u64 (U64 (x9_0 + 1)))]) (w' := W) (by kernel_rfl) ?_
                exact ih0 k (by omega) (bxor .i64 x7_0 x8_0) (bxor .i64 (shl .i64 x8_0 1) a2) (U64 (x9_0 + 1)) _ (hM.pick [] rfl rfl) h
              · replace h := of_false h c4
                refine RunF.know 27 (b := false) (by kernel_rfl) c4 ?_
                refine RunF.go 9 [1, 2, 7, 8, 9] (k' := (pl Go.Proofs.Try.f16 [1, 1, 0, 1, 0, 0])) (L' := [(1, .int .u8 a1), (2, .int .i64 a2), (7, .int .i64 (bxor .i64 x7_0 x8_0)), (8, .int .i64 (shl .i64 x8_0 1)), (9, .int .u64 (U64 (x9_0 + 1)))]) (w' := W) (by kernel_rfl) ?_
                exact ih0 k (by omega) (bxor .i64 x7_0 x8_0) (shl .i64 x8_0 1) (U64 (x9_0 + 1)) _ (hM.pick [] rfl rfl) h
            · replace h := of_false h c3
              refine RunF.know 20 (b := false) (by kernel_rfl) c3 ?_
              refine RunF.go 13 [1, 2, 7, 8, 9, 27] (k' := (pl Go.Proofs.Try.f16 [1, 1, 0, 1, 0, 0, 1, 0, 0, 1, 1, 1])) (L' := [(1, .int .u8 a1), (2, .int .i64 a2), (7, .int .i64 x7_0), (8, .int .i64 (shl .i64 x8_0 1)), (9, .int .u64 x9_0), (27, .bool (decide ((shl .i64 x8_0 1) ≥ 256)))]) (w' := W) (by kernel_rfl) ?_
              rcases two (decide ((shl .i64 x8_0 1) ≥ 256)) with c5 | c5
              · replace h := of_true h c5
                refine RunF.know 27 (b := true) (by kernel_rfl) c5 ?_
                refine RunF.go 14 [1, 2, 7, 8, 9] (k' := (pl Go.Proofs.Try.f16 [1, 1, 0, 1, 0, 0])) (L' := [(1, .int .u8 a1), (2, .int .i64 a2), (7, .int .i64 x7_0), (8, .int .i64 (bxor .i64 (shl .i64 x8_0 1) a2)), (9, .int .u64 (U64 (x9_0 + 1)))]) (w' := W) (by kernel_rfl) ?_
                exact ih0 k (by omega) x7_0 (bxor .i64 (shl .i64 x8_0 1) a2) (U64 (x9_0 + 1)) _ (hM.pick [] rfl rfl) h
              · replace h := of_false h c5
                refine RunF.know 27 (b := false) (by kernel_rfl) c5 ?_
                refine RunF.go 9 [1, 2, 7, 8, 9] (k' := (pl Go.Proofs.Try.f16 [1, 1, 0, 1, 0, 0])) (L' := [(1, .int .u8 a1), (2, .int .i64 a2), (7, .int .i64 x7_0), (8, .int .i64 (shl .i64 x8_0 1)), (9, .int .u64 (U64 (x9_0 + 1)))]) (w' := W) (by kernel_rfl) ?_
                exact ih0 k (by omega) x7_0 (shl .i64 x8_0 1) (U64 (x9_0 + 1)) _ (hM.pick [] rfl rfl) h
          · replace h := of_false h c2
            cases h
        · replace h := of_false h c1
          refine RunF.know 13 (b := false) (by kernel_rfl) c1 ?_
          refine RunF.go 8 [6] (k' := (pl Go.Proofs.Try.f16 [1, 1, 1, 1])) (L' := [(6, .int .u8 (U8 (x7_0)))]) (w' := W) (by kernel_rfl) ?_
          obtain rfl := Option.some.inj h
          exact RunF.ret1 6 (.int .u8 (U8 (x7_0))) (fn := Go.Proofs.Try.f16) Go.Proofs.Try.func16 (by kernel_rfl) (by kernel_rfl) (by kernel_rfl) ⟨_, rfl, rfl, (hM.pick [] rfl rfl)⟩
  exact l0 k (Nat.le_refl _) 0 (I64 (a0)) 0 _ (hM.pick [] rfl rfl) h

/-! ### scrim/scrimlaw3.FieldDouble: function 11 -/
mutual
def scrimlaw3_FieldDouble.l0 : Nat → Int → Int → Int → Int → Int → Int → Int → Option (Bool)
  | 0, _, _, _, _, _, _, _ => none
  | k + 1, a0, a1, t4, y7, x9_0, x10_0, x11_0 => if (decide (x11_0 < 8)) = true then (if (decide (0 ≤ x11_0)) = true then (if ((band .u8 (shrv .u8 a1 x11_0) 1) == 1) = true then ((field_Mul.f k x10_0 2 (I64 (256 + t4))).bind fun t11 => (scrimlaw3_FieldDouble.l0 k a0 a1 t4 y7 (bxor .u8 x9_0 x10_0) t11 (U64 (x11_0 + 1)))) else ((field_Mul.f k x10_0 2 (I64 (256 + t4))).bind fun t13 => (scrimlaw3_FieldDouble.l0 k a0 a1 t4 y7 x9_0 t13 (U64 (x11_0 + 1))))) else (none)) else ((field_Mul.f k a0 2 (I64 (256 + t4))).bind fun t15 => (if ((I64 (t15)) == y7) = true then ((field_Mul.f k a0 a1 (I64 (256 + t4))).bind fun t18 => (if (t18 == x9_0) = true then ((scrimref3_Mul.f k a0 a1 (I64 (256 + t4))).bind fun t21 => (some (t21 == x9_0))) else (some false))) else (some false)))
def scrimlaw3_FieldDouble.l1 : Nat → Int → Int → Int → Int → Int → Int → Option (Bool)
  | 0, _, _, _, _, _, _ => none
  | k + 1, a0, a1, t4, x9_1, x10_1, x11_1 => if (decide (x11_1 < 8)) = true then (if (decide (0 ≤ x11_1)) = true then (if ((band .u8 (shrv .u8 a1 x11_1) 1) == 1) = true then ((field_Mul.f k x10_1 2 (I64 (256 + t4))).bind fun t26 => (scrimlaw3_FieldDouble.l1 k a0 a1 t4 (bxor .u8 x9_1 x10_1) t26 (U64 (x11_1 + 1)))) else ((field_Mul.f k x10_1 2 (I64 (256 + t4))).bind fun t28 => (scrimlaw3_FieldDouble.l1 k a0 a1 t4 x9_1 t28 (U64 (x11_1 + 1))))) else (none)) else ((field_Mul.f k a0 2 (I64 (256 + t4))).bind fun t30 => (if ((I64 (t30)) == (shl .i64 (I64 (a0)) 1)) = true then ((field_Mul.f k a0 a1 (I64 (256 + t4))).bind fun t33 => (if (t33 == x9_1) = true then ((scrimref3_Mul.f k a0 a1 (I64 (256 + t4))).bind fun t36 => (some (t36 == x9_1))) else (some false))) else (some false)))
end
def scrimlaw3_FieldDouble.f (k : Nat) (a0 : Int) (a1 : Int) (a2 : Int) : Option (Bool) := (scrimlaw3_known.f k).bind fun t1 => (if (!t1) = true then (some false) else ((scrimlaw3_within.f k a2 256).bind fun t4 => (if (decide ((shl .i64 (I64 (a0)) 1) ≥ 256)) = true then ((some (bxor .i64 (shl .i64 (I64 (a0)) 1) (I64 (256 + t4)) : Int)).bind fun y7 => (scrimlaw3_FieldDouble.l0 k a0 a1 t4 y7 0 a0 0)) else (scrimlaw3_FieldDouble.l1 k a0 a1 t4 0 a0 0))))
set_option maxRecDepth 100000 in
theorem scrimlaw3_FieldDouble.calls (k : Nat) (a0 : Int) (a1 : Int) (a2 : Int) (r : Bool) (w : World) (h : scrimlaw3_FieldDouble.f k a0 a1 a2 = some r) :
    Calls Go.Proofs.Try.prog 11 #[.int .u8 a0, .int .u8 a1, .int .i64 a2] w (Ret fun v w' => v = .bool r ∧ Mem w w' []) := by
  unfold scrimlaw3_FieldDouble.f at h
  refine calls_of [.int .u8 a0, .int .u8 a1, .int .i64 a2] (fn := Go.Proofs.Try.f11) Go.Proofs.Try.func11 (by kernel_rfl) (by kernel_rfl) ?_
  have hM := Mem.refl w
  refine RunF.go 7 [0, 1, 2] (k' := (pin Go.Proofs.Try.f11 [1, 0, 0] 0)) (L' := [(0, .int .u8 a0), (1, .int .u8 a1), (2, .int .i64 a2)]) (w' := w) (by kernel_rfl) ?_
  obtain ⟨t1, ht1, h⟩ := Option.bind_eq_some_iff.mp h
  refine RunF.call (d := some 12) (g := 12) (args := #[]) (k2 := (pin Go.Proofs.Try.f11 [1, 0, 0] 1)) (by kernel_rfl) (scrimlaw3_known.calls k t1 _ ht1) ?_
  rintro _ W2 ⟨rfl, hM_⟩
  replace hM := hM.call hM_
  clear hM_ ht1
  refine RunF.go 2 [0, 1, 2, 13] (k' := (pl Go.Proofs.Try.f11 [1, 0, 1])) (L' := [(0, .int .u8 a0), (1, .int .u8 a1), (2, .int .i64 a2), (13, .bool (!t1))]) (w' := W2) (by kernel_rfl) ?_
  rcases two (!t1) with c3 | c3
  · replace h := of_true h c3
    refine RunF.know 13 (b := true) (by kernel_rfl) c3 ?_
    refine RunF.go 5 [6] (k' := (pl Go.Proofs.Try.f11 [1, 0, 1, 0, 1])) (L' := [(6, .bool false)]) (w' := W2) (by kernel_rfl) ?_
    obtain rfl := Option.some.inj h
    exact RunF.ret1 6 (.bool false) (fn := Go.Proofs.Try.f11) Go.Proofs.Try.func11 (by kernel_rfl) (by kernel_rfl) (by kernel_rfl) ⟨_, rfl, rfl, (hM.pick [] rfl rfl)⟩
  · replace h := of_false h c3
    refine RunF.know 13 (b := false) (by kernel_rfl) c3 ?_
    refine RunF.go 5 [0, 1, 14] (k' := (pin Go.Proofs.Try.f11 [1, 1, 0] 1)) (L' := [(0, .int .u8 a0), (1, .int .u8 a1), (14, .int .i64 a2)]) (w' := W2) (by kernel_rfl) ?_
    obtain ⟨t4, ht4, h⟩ := Option.bind_eq_some_iff.mp h
    refine RunF.call (d := some 15) (g := 14) (args := #[.int .i64 a2, .int .i64 256]) (k2 := (pin Go.Proofs.Try.f11 [1, 1, 0] 2)) (by kernel_rfl) (scrimlaw3_within.calls k a2 256 t4 _ ht4) ?_
    rintro _ W5 ⟨rfl, hM_⟩
    replace hM := hM.call hM_
    clear hM_ ht4
    refine RunF.go 16 [0, 1, 7, 8, 21] (k' := (pl Go.Proofs.Try.f11 [1, 1, 1, 1, 0, 1])) (L' := [(0, .int .u8 a0), (1, .int .u8 a1), (7, .int .i64 (I64 (256 + t4))), (8, .int .i64 (shl .i64 (I64 (a0)) 1)), (21, .bool (decide ((shl .i64 (I64 (a0)) 1) ≥ 256)))]) (w' := W5) (by kernel_rfl) ?_
    rcases two (decide ((shl .i64 (I64 (a0)) 1) ≥ 256)) with c6 | c6
    · replace h := of_true h c6
      refine RunF.know 21 (b := true) (by kernel_rfl) c6 ?_
      refine RunF.go 20 [0, 1, 7, 8, 9, 10, 11] (k' := (pl Go.Proofs.Try.f11 [1, 1, 1, 1, 1, 1, 0, 1, 0, 0])) (L' := [(0, .int .u8 a0), (1, .int .u8 a1), (7, .int .i64 (I64 (256 + t4))), (8, .int .i64 (bxor .i64 (shl .i64 (I64 (a0)) 1) (I64 (256 + t4)))), (9, .int .u8 0), (10, .int .u8 a0), (11, .int .u64 0)]) (w' := W5) (by kernel_rfl) ?_
      obtain ⟨y7, hy, h⟩ := Option.bind_eq_some_iff.mp h
      rw [show (bxor .i64 (shl .i64 (I64 (a0)) 1) (I64 (256 + t4))) = y7 from Option.some.inj hy]
      clear hy
      have l0 : ∀ (k_ : Nat), k_ ≤ k → ∀ (x9_0 : Int) (x10_0 : Int) (x11_0 : Int) (W : World) (hM : Mem w W []) (h : scrimlaw3_FieldDouble.l0 k_ a0 a1 t4 y7 x9_0 x10_0 x11_0 = some r), RunF Go.Proofs.Try.prog (Ret fun v w' => v = .bool r ∧ Mem w w' []) 11 (pl Go.Proofs.Try.f11 [1, 1, 1, 1, 1, 1, 0, 1, 0, 0]) 63 [(0, .int .u8 a0), (1, .int .u8 a1), (7, .int .i64 (I64 (256 + t4))), (8, .int .i64 y7), (9, .int .u8 x9_0), (10, .int .u8 x10_0), (11, .int .u64 x11_0)] W := by
        intro k_
        induction k_ using Nat.strongRecOn with
        | _ k_ ih0 =>
          intro hk x9_0 x10_0 x11_0 W hM h
          cases k_ with
          | zero => exact absurd h (by simp [scrimlaw3_FieldDouble.l0])
          | succ k =>
            simp only [scrimlaw3_FieldDouble.l0] at h
            replace ih0 : ∀ m, m ≤ k → _ := fun m hm => ih0 m (by omega) (by omega)
            refine RunF.go 6 [0, 1, 7, 8, 9, 10, 11, 27] (k' := (pl Go.Proofs.Try.f11 [1, 1, 1, 1, 1, 1, 0, 1, 0, 0, 0, 1])) (L' := [(0, .int .u8 a0), (1, .int .u8 a1), (7, .int .i64 (I64 (256 + t4))), (8, .int .i64 y7), (9, .int .u8 x9_0), (10, .int .u8 x10_0), (11, .int .u64 x11_0), (27, .bool (decide (x11_0 < 8)))]) (w' := W) (by kernel_rfl) ?_
            rcases two (decide (x11_0 < 8)) with c8 | c8
            · replace h := of_true h c8
              refine RunF.know 27 (b := true) (by kernel_rfl) c8 ?_
              refine RunF.go 9 [0, 1, 7, 8, 9, 10, 11, 30, 31] (k' := (pin Go.Proofs.Try.f11 [1, 1, 1, 1, 1, 1, 0, 1, 0, 0, 1, 0, 0, 0, 0] 2)) (L' := [(0, .int .u8 a0), (1, .int .u8 a1), (7, .int .i64 (I64 (256 + t4))), (8, .int .i64 y7), (9, .int .u8 x9_0), (10, .int .u8 x10_0), (11, .int .u64 x11_0), (30, .int .u8 a1), (31, .int .u64 x11_0)]) (w' := W) (by kernel_rfl) ?_
              rcases two (decide (0 ≤ x11_0)) with c9 | c9
              · replace h := of_true h c9
                refine RunF.y (sh_y (d := some 32) (b := false) (kd := .u8) (x := a1) (y := x11_0) (k2 := (pin Go.Proofs.Try.f11 [1, 1, 1, 1, 1, 1, 0, 1, 0, 0, 1, 0, 0, 0, 0] 3)) (by kernel_rfl) c9) trivial ?_
                refine RunF.go 3 [0, 1, 7, 8, 9, 10, 11, 34] (k' := (pl Go.Proofs.Try.f11 [1, 1, 1, 1, 1, 1, 0, 1, 0, 0, 1, 0, 0, 0, 1])) (L' := [(0, .int .u8 a0), (1, .int .u8 a1), (7, .int .i64 (I64 (256 + t4))), (8, .int .i64 y7), (9, .int .u8 x9_0), (10, .int .u8 x10_0), (11, .int .u64 x11_0), (34, .bool ((band .u8 (shrv .u8 a1 x11_0) 1) == 1))]) (w' := W) (by kernel_rfl) ?_
                rcases two (((band .u8 (shrv .u8 a1 x11_0) 1) == 1)) with c10 | c10
                · replace h := of_true h c10
                  refine RunF.know 34 (b := true) (by kernel_rfl) c10 ?_
                  refine RunF.go 10 [0, 1, 7, 8, 9, 11, 38, 39] (k' := (pin Go.Proofs.Try.f11 [1, 1, 1, 1, 1, 1, 0, 1, 0, 0, 1, 0, 0, 1] 2)) (L' := [(0, .int .u8 a0), (1, .int .u8 a1), (7, .int .i64 (I64 (256 + t4))), (8, .int .i64 y7), (9, .int .u8 (bxor .u8 x9_0 x10_0)), (11, .int .u64 x11_0), (38, .int .u8 x10_0), (39, .int .i64 (I64 (256 + t4)))]) (w' := W) (by kernel_rfl) ?_
                  obtain ⟨t11, ht11, h⟩ := Option.bind_eq_some_iff.mp h
                  refine RunF.call (d := some 40) (g := 15) (args := #[.int .u8 x10_0, .int .u8 2, .int .i64 (I64 (256 + t4))]) (k2 := (pin Go.Proofs.Try.f11 [1, 1, 1, 1, 1, 1, 0, 1, 0, 0, 1, 0, 0, 1] 3)) (by kernel_rfl) (field_Mul.calls k x10_0 2 (I64 (256 + t4)) t11 _ ht11) ?_
                  rintro _ W12 ⟨rfl, hM_⟩
                  replace hM := hM.call hM_
                  clear hM_ ht11
                  refine RunF.go 9 [0, 1, 7, 8, 9, 10, 11] (k' := (pl Go.Proofs.Try.f11 [1, 1, 1, 1, 1, 1, 0, 1, 0, 0])) (L' := [(0, .int .u8 a0), (1, .int .u8 a1), (7, .int .i64 (I64 (256 + t4))), (8, .int .i64 y7), (9, .int .u8 (bxor .u8 x9_0 x10_0)), (10, .int .u8 t11), (11, .int .u64 (U64 (x11_0 + 1)))]) (w' := W12) (by kernel_rfl) ?_
                  exact ih0 k (by omega) (bxor .u8 x9_0 x10_0) t11 (U64 (x11_0 + 1)) _ (hM.pick [] rfl rfl) h
                · replace h := of_false h c10
                  refine RunF.know 34 (b := false) (by kernel_rfl) c10 ?_
                  refine RunF.go 5 [0, 1, 7, 8, 9, 11, 38, 39] (k' := (pin Go.Proofs.Try.f11 [1, 1, 1, 1, 1, 1, 0, 1, 0, 0, 1, 0, 0, 1] 2)) (L' := [(0, .int .u8 a0), (1, .int .u8 a1), (7, .int .i64 (I64 (256 + t4))), (8, .int .i64 y7), (9, .int .u8 x9_0), (11, .int .u64 x11_0), (38, .int .u8 x10_0), (39, .int .i64 (I64 (256 + t4)))]) (w' := W) (by kernel_rfl) ?_
                  obtain ⟨t13, ht13, h⟩ := Option.bind_eq_some_iff.mp h
                  refine RunF.call (d := some 40) (g := 15) (args := #[.int .u8 x10_0, .int .u8 2, .int .i64 (I64 (256 + t4))]) (k2 := (pin Go.Proofs.Try.f11 [1, 1, 1, 1, 1, 1, 0, 1, 0, 0, 1, 0, 0, 1] 3)) (by kernel_rfl) (field_Mul.calls k x10_0 2 (I64 (256 + t4)) t13 _ ht13) ?_
                  rintro _ W14 ⟨rfl, hM_⟩
                  replace hM := hM.call hM_
                  clear hM_ ht13
                  refine RunF.go 9 [0, 1, 7, 8, 9, 10, 11] (k' := (pl Go.Proofs.Try.f11 [1, 1, 1, 1, 1, 1, 0, 1, 0, 0])) (L' := [(0, .int .u8 a0), (1, .int .u8 a1), (7, .int .i64 (I64 (256 + t4))), (8, .int .i64 y7), (9, .int .u8 x9_0), (10, .int .u8 t13), (11, .int .u64 (U64 (x11_0 + 1)))]) (w' := W14) (by kernel_rfl) ?_
                  exact ih0 k (by omega) x9_0 t13 (U64 (x11_0 + 1)) _ (hM.pick [] rfl rfl) h
              · replace h := of_false h c9
                cases h
            · replace h := of_false h c8
              refine RunF.know 27 (b := false) (by kernel_rfl) c8 ?_
              refine RunF.go 6 [0, 1, 7, 8, 9, 41, 42] (k' := (pin Go.Proofs.Try.f11 [1, 1, 1, 1, 1, 1, 1, 0] 2)) (L' := [(0, .int .u8 a0), (1, .int .u8 a1), (7, .int .i64 (I64 (256 + t4))), (8, .int .i64 y7), (9, .int .u8 x9_0), (41, .int .u8 a0), (42, .int .i64 (I64 (256 + t4)))]) (w' := W) (by kernel_rfl) ?_
              obtain ⟨t15, ht15, h⟩ := Option.bind_eq_some_iff.mp h
              refine RunF.call (d := some 43) (g := 15) (args := #[.int .u8 a0, .int .u8 2, .int .i64 (I64 (256 + t4))]) (k2 := (pin Go.Proofs.Try.f11 [1, 1, 1, 1, 1, 1, 1, 0] 3)) (by kernel_rfl) (field_Mul.calls k a0 2 (I64 (256 + t4)) t15 _ ht15) ?_
              rintro _ W16 ⟨rfl, hM_⟩
              replace hM := hM.call hM_
              clear hM_ ht15
              refine RunF.go 4 [0, 1, 7, 9, 47] (k' := (pin Go.Proofs.Try.f11 [1, 1, 1, 1, 1, 1, 1, 0] 7)) (L' := [(0, .int .u8 a0), (1, .int .u8 a1), (7, .int .i64 (I64 (256 + t4))), (9, .int .u8 x9_0), (47, .bool ((I64 (t15)) == y7))]) (w' := W16) (by kernel_rfl) ?_
              rcases two (((I64 (t15)) == y7)) with c17 | c17
              · replace h := of_true h c17
                refine RunF.know 47 (b := true) (by kernel_rfl) c17 ?_
                refine RunF.go 3 [0, 1, 7, 9, 47, 48, 49, 50] (k' := (pin Go.Proofs.Try.f11 [1, 1, 1, 1, 1, 1, 1, 0] 10)) (L' := [(0, .int .u8 a0), (1, .int .u8 a1), (7, .int .i64 (I64 (256 + t4))), (9, .int .u8 x9_0), (47, .bool true), (48, .int .u8 a0), (49, .int .u8 a1), (50, .int .i64 (I64 (256 + t4)))]) (w' := W16) (by kernel_rfl) ?_
                obtain ⟨t18, ht18, h⟩ := Option.bind_eq_some_iff.mp h
                refine RunF.call (d := some 51) (g := 15) (args := #[.int .u8 a0, .int .u8 a1, .int .i64 (I64 (256 + t4))]) (k2 := (pin Go.Proofs.Try.f11 [1, 1, 1, 1, 1, 1, 1, 0] 11)) (by kernel_rfl) (field_Mul.calls k a0 a1 (I64 (256 + t4)) t18 _ ht18) ?_
                rintro _ W19 ⟨rfl, hM_⟩
                replace hM := hM.call hM_
                clear hM_ ht18
                refine RunF.go 4 [0, 1, 7, 9, 55] (k' := (pin Go.Proofs.Try.f11 [1, 1, 1, 1, 1, 1, 1, 0] 15)) (L' := [(0, .int .u8 a0), (1, .int .u8 a1), (7, .int .i64 (I64 (256 + t4))), (9, .int .u8 x9_0), (55, .bool (t18 == x9_0))]) (w' := W19) (by kernel_rfl) ?_
                rcases two ((t18 == x9_0)) with c20 | c20
                · replace h := of_true h c20
                  refine RunF.know 55 (b := true) (by kernel_rfl) c20 ?_
                  refine RunF.go 3 [9, 55, 56, 57, 58] (k' := (pin Go.Proofs.Try.f11 [1, 1, 1, 1, 1, 1, 1, 0] 18)) (L' := [(9, .int .u8 x9_0), (55, .bool true), (56, .int .u8 a0), (57, .int .u8 a1), (58, .int .i64 (I64 (256 + t4)))]) (w' := W19) (by kernel_rfl) ?_
                  obtain ⟨t21, ht21, h⟩ := Option.bind_eq_some_iff.mp h
                  refine RunF.call (d := some 59) (g := 16) (args := #[.int .u8 a0, .int .u8 a1, .int .i64 (I64 (256 + t4))]) (k2 := (pin Go.Proofs.Try.f11 [1, 1, 1, 1, 1, 1, 1, 0] 19)) (by kernel_rfl) (scrimref3_Mul.calls k a0 a1 (I64 (256 + t4)) t21 _ ht21) ?_
                  rintro _ W22 ⟨rfl, hM_⟩
                  replace hM := hM.call hM_
                  clear hM_ ht21
                  refine RunF.go 5 [6] (k' := (pl Go.Proofs.Try.f11 [1, 1, 1, 1, 1, 1, 1, 1])) (L' := [(6, .bool (t21 == x9_0))]) (w' := W22) (by kernel_rfl) ?_
                  obtain rfl := Option.some.inj h
                  exact RunF.ret1 6 (.bool (t21 == x9_0)) (fn := Go.Proofs.Try.f11) Go.Proofs.Try.func11 (by kernel_rfl) (by kernel_rfl) (by kernel_rfl) ⟨_, rfl, rfl, (hM.pick [] rfl rfl)⟩
                · replace h := of_false h c20
                  refine RunF.know 55 (b := false) (by kernel_rfl) c20 ?_
                  refine RunF.go 9 [6] (k' := (pl Go.Proofs.Try.f11 [1, 1, 1, 1, 1, 1, 1, 1])) (L' := [(6, .bool false)]) (w' := W19) (by kernel_rfl) ?_
                  obtain rfl := Option.some.inj h
                  exact RunF.ret1 6 (.bool false) (fn := Go.Proofs.Try.f11) Go.Proofs.Try.func11 (by kernel_rfl) (by kernel_rfl) (by kernel_rfl) ⟨_, rfl, rfl, (hM.pick [] rfl rfl)⟩
              · replace h := of_false h c17
                refine RunF.know 47 (b := false) (by kernel_rfl) c17 ?_
                refine RunF.go 17 [6] (k' := (pl Go.Proofs.Try.f11 [1, 1, 1, 1, 1, 1, 1, 1])) (L' := [(6, .bool false)]) (w' := W16) (by kernel_rfl) ?_
                obtain rfl := Option.some.inj h
                exact RunF.ret1 6 (.bool false) (fn := Go.Proofs.Try.f11) Go.Proofs.Try.func11 (by kernel_rfl) (by kernel_rfl) (by kernel_rfl) ⟨_, rfl, rfl, (hM.pick [] rfl rfl)⟩
      exact l0 k (Nat.le_refl _) 0 a0 0 _ (hM.pick [] rfl rfl) h
    · replace h := of_false h c6
      refine RunF.know 21 (b := false) (by kernel_rfl) c6 ?_
      refine RunF.go 15 [0, 1, 7, 8, 9, 10, 11] (k' := (pl Go.Proofs.Try.f11 [1, 1, 1, 1, 1, 1, 0, 1, 0, 0])) (L' := [(0, .int .u8 a0), (1, .int .u8 a1), (7, .int .i64 (I64 (256 + t4))), (8, .int .i64 (shl .i64 (I64 (a0)) 1)), (9, .int .u8 0), (10, .int .u8 a0), (11, .int .u64 0)]) (w' := W5) (by kernel_rfl) ?_
      have l1 : ∀ (k_ : Nat), k_ ≤ k → ∀ (x9_1 : Int) (x10_1 : Int) (x11_1 : Int) (W : World) (hM : Mem w W []) (h : scrimlaw3_FieldDouble.l1 k_ a0 a1 t4 x9_1 x10_1 x11_1 = some r), RunF Go.Proofs.Try.prog (Ret fun v w' => v = .bool r ∧ Mem w w' []) 11 (pl Go.Proofs.Try.f11 [1, 1, 1, 1, 1, 1, 0, 1, 0, 0]) 63 [(0, .int .u8 a0), (1, .int .u8 a1), (7, .int .i64 (I64 (256 + t4))), (8, .int .i64 (shl .i64 (I64 (a0)) 1)), (9, .int .u8 x9_1), (10, .int .u8 x10_1), (11, .int .u64 x11_1)] W := by
        intro k_
        induction k_ using Nat.strongRecOn with
        | _ k_ ih1 =>
          intro hk x9_1 x10_1 x11_1 W hM h
          cases k_ with
          | zero => exact absurd h (by simp [scrimlaw3_FieldDouble.l1])
          | succ k =>
            simp only [scrimlaw3_FieldDouble.l1] at h
            replace ih1 : ∀ m, m ≤ k → _ := fun m hm => ih1 m (by omega) (by omega)
            refine RunF.go 6 [0, 1, 7, 8, 9, 10, 11, 27] (k' := (pl Go.Proofs.Try.f11 [1, 1, 1, 1, 1, 1, 0, 1, 0, 0, 0, 1])) (L' := [(0, .int .u8 a0), (1, .int .u8 a1), (7, .int .i64 (I64 (256 + t4))), (8, .int .i64 (shl .i64 (I64 (a0)) 1)), (9, .int .u8 x9_1), (10, .int .u8 x10_1), (11, .int .u64 x11_1), (27, .bool (decide (x11_1 < 8)))]) (w' := W) (by kernel_rfl) ?_
            rcases two (decide (x11_1 < 8)) with c23 | c23
            · replace h := of_true h c23
              refine RunF.know 27 (b := true) (by kernel_rfl) c23 ?_
              refine RunF.go 9 [0, 1, 7, 8, 9, 10, 11, 30, 31] (k' := (pin Go.Proofs.Try.f11 [1, 1, 1, 1, 1, 1, 0, 1, 0, 0, 1, 0, 0, 0, 0] 2)) (L' := [(0, .int .u8 a0), (1, .int .u8 a1), (7, .int .i64 (I64 (256 + t4))), (8, .int .i64 (shl .i64 (I64 (a0)) 1)), (9, .int .u8 x9_1), (10, .int .u8 x10_1), (11, .int .u64 x11_1), (30, .int .u8 a1), (31, .int .u64 x11_1)]) (w' := W) (by kernel_rfl) ?_
              rcases two (decide (0 ≤ x11_1)) with c24 | c24
              · replace h := of_true h c24
                refine RunF.y (sh_y (d := some 32) (b := false) (kd := .u8) (x := a1) (y := x11_1) (k2 := (pin Go.Proofs.Try.f11 [1, 1, 1, 1, 1, 1, 0, 1, 0, 0, 1, 0, 0, 0, 0] 3)) (by kernel_rfl) c24) trivial ?_
                refine RunF.go 3 [0, 1, 7, 8, 9, 10, 11, 34] (k' := (pl Go.Proofs.Try.f11 [1, 1, 1, 1, 1, 1, 0, 1, 0, 0, 1, 0, 0, 0, 1])) (L' := [(0, .int .u8 a0), (1, .int .u8 a1), (7, .int .i64 (I64 (256 + t4))), (8, .int .i64 (shl .i64 (I64 (a0)) 1)), (9, .int .u8 x9_1), (10, .int .u8 x10_1), (11, .int .u64 x11_1), (34, .bool ((band .u8 (shrv .u8 a1 x11_1) 1) == 1))]) (w' := W) (by kernel_rfl) ?_
                rcases two (((band .u8 (shrv .u8 a1 x11_1) 1) == 1)) with c25 | c25
                · replace h := of_true h c25
                  refine RunF.know 34 (b := true) (by kernel_rfl) c25 ?_
                  refine RunF.go 10 [0, 1, 7, 8, 9, 11, 38, 39] (k' := (pin Go.Proofs.Try.f11 [1, 1, 1, 1, 1, 1, 0, 1, 0, 0, 1, 0, 0, 1] 2)) (L' := [(0, .int .u8 a0), (1, .int .u8 a1), (7, .int .i64 (I64 (256 + t4))), (8, .int .i64 (shl .i64 (I64 (a0)) 1)), (9, .int .u8 (bxor .u8 x9_1 x10_1)), (11, .int .u64 x11_1), (38, .int .u8 x10_1), (39, .int .i64 (I64 (256 + t4)))]) (w' := W) (by kernel_rfl) ?_
                  obtain ⟨t26, ht26, h⟩ := Option.bind_eq_some_iff.mp h
                  refine RunF.call (d := some 40) (g := 15) (args := #[.int .u8 x10_1, .int .u8 2, .int .i64 (I64 (256 + t4))]) (k2 := (pin Go.Proofs.Try.f11 [1, 1, 1, 1, 1, 1, 0, 1, 0, 0, 1, 0, 0, 1] 3)) (by kernel_rfl) (field_Mul.calls k x10_1 2 (I64 (256 + t4)) t26 _ ht26) ?_
                  rintro _ W27 ⟨rfl, hM_⟩
                  replace hM := hM.call hM_
                  clear hM_ ht26
                  refine RunF.go 9 [0, 1, 7, 8, 9, 10, 11] (k' := (pl Go.Proofs.Try.f11 [1, 1, 1, 1, 1, 1, 0, 1, 0, 0])) (L' := [(0, .int .u8 a0), (1, .int .u8 a1), (7, .int .i64 (I64 (256 + t4))), (8, .int .i64 (shl .i64 (I64 (a0)) 1)), (9, .int .u8 (bxor .u8 x9_1 x10_1)), (10, .int .u8 t26), (11, .int .u64 (U64 (x11_1 + 1)))]) (w' := W27) (by kernel_rfl) ?_
                  exact ih1 k (by omega) (bxor .u8 x9_1 x10_1) t26 (U64 (x11_1 + 1)) _ (hM.pick [] rfl rfl) h
                · replace h := of_false h c25
                  refine RunF.know 34 (b := false) (by kernel_rfl) c25 ?_
                  refine RunF.go 5 [0, 1, 7, 8, 9, 11, 38, 39] (k' := (pin Go.Proofs.Try.f11 [1, 1, 1, 1, 1, 1, 0, 1, 0, 0, 1, 0, 0, 1] 2)) (L' := [(0, .int .u8 a0), (1, .int .u8 a1), (7, .int .i64 (I64 (256 + t4))), (8, .int .i64 (shl .i64 (I64 (a0)) 1)), (9, .int .u8 x9_1), (11, .int .u64 x11_1), (38, .int .u8 x10_1), (39, .int .i64 (I64 (256 + t4)))]) (w' := W) (by kernel_rfl) ?_
                  obtain ⟨t28, ht28, h⟩ := Option.bind_eq_some_iff.mp h
                  refine RunF.call (d := some 40) (g := 15) (args := #[.int .u8 x10_1, .int .u8 2, .int .i64 (I64 (256 + t4))]) (k2 := (pin Go.Proofs.Try.f11 [1, 1, 1, 1, 1, 1, 0, 1, 0, 0, 1, 0, 0, 1] 3)) (by kernel_rfl) (field_Mul.calls k x10_1 2 (I64 (256 + t4)) t28 _ ht28) ?_
                  rintro _ W29 ⟨rfl, hM_⟩
                  replace hM := hM.call hM_
                  clear hM_ ht28
                  refine RunF.go 9 [0, 1, 7, 8, 9, 10, 11] (k' := (pl Go.Proofs.Try.f11 [1, 1, 1, 1, 1, 1, 0, 1, 0, 0])) (L' := [(0, .int .u8 a0), (1, .int .u8 a1), (7, .int .i64 (I64 (256 + t4))), (8, .int .i64 (shl .i64 (I64 (a0)) 1)), (9, .int .u8 x9_1), (10, .int .u8 t28), (11, .int .u64 (U64 (x11_1 + 1)))]) (w' := W29) (by kernel_rfl) ?_
                  exact ih1 k (by omega) x9_1 t28 (U64 (x11_1 + 1)) _ (hM.pick [] rfl rfl) h
              · replace h := of_false h c24
                cases h
            · replace h := of_false h c23
              refine RunF.know 27 (b := false) (by kernel_rfl) c23 ?_
              refine RunF.go 6 [0, 1, 7, 8, 9, 41, 42] (k' := (pin Go.Proofs.Try.f11 [1, 1, 1, 1, 1, 1, 1, 0] 2)) (L' := [(0, .int .u8 a0), (1, .int .u8 a1), (7, .int .i64 (I64 (256 + t4))), (8, .int .i64 (shl .i64 (I64 (a0)) 1)), (9, .int .u8 x9_1), (41, .int .u8 a0), (42, .int .i64 (I64 (256 + t4)))]) (w' := W) (by kernel_rfl) ?_
              obtain ⟨t30, ht30, h⟩ := Option.bind_eq_some_iff.mp h
              refine RunF.call (d := some 43) (g := 15) (args := #[.int .u8 a0, .int .u8 2, .int .i64 (I64 (256 + t4))]) (k2 := (pin Go.Proofs.Try.f11 [1, 1, 1, 1, 1, 1, 1, 0] 3)) (by kernel_rfl) (field_Mul.calls k a0 2 (I64 (256 + t4)) t30 _ ht30) ?_
              rintro _ W31 ⟨rfl, hM_⟩
              replace hM := hM.call hM_
              clear hM_ ht30
              refine RunF.go 4 [0, 1, 7, 9, 47] (k' := (pin Go.Proofs.Try.f11 [1, 1, 1, 1, 1, 1, 1, 0] 7)) (L' := [(0, .int .u8 a0), (1, .int .u8 a1), (7, .int .i64 (I64 (256 + t4))), (9, .int .u8 x9_1), (47, .bool ((I64 (t30)) == (shl .i64 (I64 (a0)) 1)))]) (w' := W31) (by kernel_rfl) ?_
              rcases two (((I64 (t30)) == (shl .i64 (I64 (a0)) 1))) with c32 | c32
              · replace h := of_true h c32
                refine RunF.know 47 (b := true) (by kernel_rfl) c32 ?_
                refine RunF.go 3 [0, 1, 7, 9, 47, 48, 49, 50] (k' := (pin Go.Proofs.Try.f11 [1, 1, 1, 1, 1, 1, 1, 0] 10)) (L' := [(0, .int .u8 a0), (1, .int .u8 a1), (7, .int .i64 (I64 (256 + t4))), (9, .int .u8 x9_1), (47, .bool true), (48, .int .u8 a0), (49, .int .u8 a1), (50, .int .i64 (I64 (256 + t4)))]) (w' := W31) (by kernel_rfl) ?_
                obtain ⟨t33, ht33, h⟩ := Option.bind_eq_some_iff.mp h
                refine RunF.call (d := some 51) (g := 15) (args := #[.int .u8 a0, .int .u8 a1, .int .i64 (I64 (256 + t4))]) (k2 := (pin Go.Proofs.Try.f11 [1, 1, 1, 1, 1, 1, 1, 0] 11)) (by kernel_rfl) (field_Mul.calls k a0 a1 (I64 (256 + t4)) t33 _ ht33) ?_
                rintro _ W34 ⟨rfl, hM_⟩
                replace hM := hM.call hM_
                clear hM_ ht33
                refine RunF.go 4 [0, 1, 7, 9, 55] (k' := (pin Go.Proofs.Try.f11 [1, 1, 1, 1, 1, 1, 1, 0] 15)) (L' := [(0, .int .u8 a0), (1, .int .u8 a1), (7, .int .i64 (I64 (256 + t4))), (9, .int .u8 x9_1), (55, .bool (t33 == x9_1))]) (w' := W34) (by kernel_rfl) ?_
                rcases two ((t33 == x9_1)) with c35 | c35
                · replace h := of_true h c35
                  refine RunF.know 55 (b := true) (by kernel_rfl) c35 ?_
                  refine RunF.go 3 [9, 55, 56, 57, 58] (k' := (pin Go.Proofs.Try.f11 [1, 1, 1, 1, 1, 1, 1, 0] 18)) (L' := [(9, .int .u8 x9_1), (55, .bool true), (56, .int .u8 a0), (57, .int .u8 a1), (58, .int .i64 (I64 (256 + t4)))]) (w' := W34) (by kernel_rfl) ?_
                  obtain ⟨t36, ht36, h⟩ := Option.bind_eq_some_iff.mp h
                  refine RunF.call (d := some 59) (g := 16) (args := #[.int .u8 a0, .int .u8 a1, .int .i64 (I64 (256 + t4))]) (k2 := (pin Go.Proofs.Try.f11 [1, 1, 1, 1, 1, 1, 1, 0] 19)) (by kernel_rfl) (scrimref3_Mul.calls k a0 a1 (I64 (256 + t4)) t36 _ ht36) ?_
                  rintro _ W37 ⟨rfl, hM_⟩
                  replace hM := hM.call hM_
                  clear hM_ ht36
                  refine RunF.go 5 [6] (k' := (pl Go.Proofs.Try.f11 [1, 1, 1, 1, 1, 1, 1, 1])) (L' := [(6, .bool (t36 == x9_1))]) (w' := W37) (by kernel_rfl) ?_
                  obtain rfl := Option.some.inj h
                  exact RunF.ret1 6 (.bool (t36 == x9_1)) (fn := Go.Proofs.Try.f11) Go.Proofs.Try.func11 (by kernel_rfl) (by kernel_rfl) (by kernel_rfl) ⟨_, rfl, rfl, (hM.pick [] rfl rfl)⟩
                · replace h := of_false h c35
                  refine RunF.know 55 (b := false) (by kernel_rfl) c35 ?_
                  refine RunF.go 9 [6] (k' := (pl Go.Proofs.Try.f11 [1, 1, 1, 1, 1, 1, 1, 1])) (L' := [(6, .bool false)]) (w' := W34) (by kernel_rfl) ?_
                  obtain rfl := Option.some.inj h
                  exact RunF.ret1 6 (.bool false) (fn := Go.Proofs.Try.f11) Go.Proofs.Try.func11 (by kernel_rfl) (by kernel_rfl) (by kernel_rfl) ⟨_, rfl, rfl, (hM.pick [] rfl rfl)⟩
              · replace h := of_false h c32
                refine RunF.know 47 (b := false) (by kernel_rfl) c32 ?_
                refine RunF.go 17 [6] (k' := (pl Go.Proofs.Try.f11 [1, 1, 1, 1, 1, 1, 1, 1])) (L' := [(6, .bool false)]) (w' := W31) (by kernel_rfl) ?_
                obtain rfl := Option.some.inj h
                exact RunF.ret1 6 (.bool false) (fn := Go.Proofs.Try.f11) Go.Proofs.Try.func11 (by kernel_rfl) (by kernel_rfl) (by kernel_rfl) ⟨_, rfl, rfl, (hM.pick [] rfl rfl)⟩
      exact l1 k (Nat.le_refl _) 0 a0 0 _ (hM.pick [] rfl rfl) h


end Go.Scr.S
