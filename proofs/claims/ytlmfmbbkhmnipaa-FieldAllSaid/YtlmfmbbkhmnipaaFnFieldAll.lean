/- The functions that the law FieldAll reaches, as plain functions, and that each call answers so. -/
import Derived.Test.YtlmfmbbkhmnipaaProg
import Derived.Test.YtlmfmbbkhmnipaaXPure
set_option linter.unusedVariables false
set_option linter.unusedSimpArgs false
set_option linter.unnecessarySimpa false
namespace Go.Scr.S
/-! ### scrim/field.Mul: function 15 -/
def field_Mul.l0 : Nat → Int → Int → Int → Int → Option (Int)
  | 0, _, _, _, _ => none
  | k + 1, a2, x7_0, x8_0, x9_0 => if (x9_0 == 0) = true then (some (U8 (x7_0))) else (if (decide ((band .i64 x9_0 1) > 0)) = true then (if (decide ((shl .i64 x8_0 1) ≥ 256)) = true then ((some (band .i64 (bxor .i64 (shl .i64 x8_0 1) a2) 255 : Int)).bind fun y4 => (field_Mul.l0 k a2 (bxor .i64 x7_0 x8_0) y4 (shr x9_0 1))) else (field_Mul.l0 k a2 (bxor .i64 x7_0 x8_0) (band .i64 (shl .i64 x8_0 1) 255) (shr x9_0 1))) else (if (decide ((shl .i64 x8_0 1) ≥ 256)) = true then ((some (band .i64 (bxor .i64 (shl .i64 x8_0 1) a2) 255 : Int)).bind fun y6 => (field_Mul.l0 k a2 x7_0 y6 (shr x9_0 1))) else (field_Mul.l0 k a2 x7_0 (band .i64 (shl .i64 x8_0 1) 255) (shr x9_0 1))))
def field_Mul.f (k : Nat) (a0 : Int) (a1 : Int) (a2 : Int) : Option (Int) := field_Mul.l0 k a2 0 (I64 (a0)) (I64 (a1))
set_option maxRecDepth 100000 in
theorem field_Mul.calls (k : Nat) (a0 : Int) (a1 : Int) (a2 : Int) (r : Int) (w : World) (h : field_Mul.f k a0 a1 a2 = some r) :
    Calls Go.Proofs.Try.prog 15 #[.int .u8 a0, .int .u8 a1, .int .i64 a2] w (Ret fun v w' => v = .int .u8 r ∧ Mem w w' []) := by
  unfold field_Mul.f at h
  refine calls_of [.int .u8 a0, .int .u8 a1, .int .i64 a2] (fn := Go.Proofs.Try.f15) Go.Proofs.Try.func15 (by kernel_rfl) (by kernel_rfl) ?_
  have hM := Mem.refl w
  refine RunF.go 17 [2, 7, 8, 9] (k' := (pl Go.Proofs.Try.f15 [1, 0, 1, 1])) (L' := [(2, .int .i64 a2), (7, .int .i64 0), (8, .int .i64 (I64 (a0))), (9, .int .i64 (I64 (a1)))]) (w' := w) (by kernel_rfl) ?_
  have l0 : ∀ (k_ : Nat), k_ ≤ k → ∀ (x7_0 : Int) (x8_0 : Int) (x9_0 : Int) (W : World) (hM : Mem w W []) (h : field_Mul.l0 k_ a2 x7_0 x8_0 x9_0 = some r), RunF Go.Proofs.Try.prog (Ret fun v w' => v = .int .u8 r ∧ Mem w w' []) 15 (pl Go.Proofs.Try.f15 [1, 0, 1, 1]) 35 [(2, .int .i64 a2), (7, .int .i64 x7_0), (8, .int .i64 x8_0), (9, .int .i64 x9_0)] W := by
    intro k_
    induction k_ using Nat.strongRecOn with
    | _ k_ ih0 =>
      intro hk x7_0 x8_0 x9_0 W hM h
      cases k_ with
      | zero => exact absurd h (by simp [field_Mul.l0])
      | succ k =>
        simp only [field_Mul.l0] at h
        replace ih0 : ∀ m, m ≤ k → _ := fun m hm => ih0 m (by omega) (by omega)
        refine RunF.go 6 [2, 7, 8, 9, 15] (k' := (pl Go.Proofs.Try.f15 [1, 0, 1, 1, 0, 1])) (L' := [(2, .int .i64 a2), (7, .int .i64 x7_0), (8, .int .i64 x8_0), (9, .int .i64 x9_0), (15, .bool (x9_0 == 0))]) (w' := W) (by kernel_rfl) ?_
        rcases two ((x9_0 == 0)) with c1 | c1
        · replace h := of_true h c1
          refine RunF.know 15 (b := true) (by kernel_rfl) c1 ?_
          refine RunF.go 7 [6] (k' := (pl Go.Proofs.Try.f15 [1, 0, 1, 1, 0, 1, 0, 1])) (L' := [(6, .int .u8 (U8 (x7_0)))]) (w' := W) (by kernel_rfl) ?_
          obtain rfl := Option.some.inj h
          exact RunF.ret1 6 (.int .u8 (U8 (x7_0))) (fn := Go.Proofs.Try.f15) Go.Proofs.Try.func15 (by kernel_rfl) (by kernel_rfl) (by kernel_rfl) ⟨_, rfl, rfl, (hM.pick [] rfl rfl)⟩
        · replace h := of_false h c1
          refine RunF.know 15 (b := false) (by kernel_rfl) c1 ?_
          refine RunF.go 9 [2, 7, 8, 9, 20] (k' := (pl Go.Proofs.Try.f15 [1, 0, 1, 1, 1, 0, 1])) (L' := [(2, .int .i64 a2), (7, .int .i64 x7_0), (8, .int .i64 x8_0), (9, .int .i64 x9_0), (20, .bool (decide ((band .i64 x9_0 1) > 0)))]) (w' := W) (by kernel_rfl) ?_
          rcases two (decide ((band .i64 x9_0 1) > 0)) with c2 | c2
          · replace h := of_true h c2
            refine RunF.know 20 (b := true) (by kernel_rfl) c2 ?_
            refine RunF.go 22 [2, 7, 8, 9, 29] (k' := (pl Go.Proofs.Try.f15 [1, 0, 1, 1, 1, 1, 0, 1, 1])) (L' := [(2, .int .i64 a2), (7, .int .i64 (bxor .i64 x7_0 x8_0)), (8, .int .i64 (shl .i64 x8_0 1)), (9, .int .i64 (shr x9_0 1)), (29, .bool (decide ((shl .i64 x8_0 1) ≥ 256)))]) (w' := W) (by kernel_rfl) ?_
            rcases two (decide ((shl .i64 x8_0 1) ≥ 256)) with c3 | c3
            · replace h := of_true h c3
              refine RunF.know 29 (b := true) (by kernel_rfl) c3 ?_
              refine RunF.go 16 [2, 7, 8, 9] (k' := (pl Go.Proofs.Try.f15 [1, 0, 1, 1])) (L' := [(2, .int .i64 a2), (7, .int .i64 (bxor .i64 x7_0 x8_0)), (8, .int .i64 (band .i64 (bxor .i64 (shl .i64 x8_0 1) a2) 255)), (9, .int .i64 (shr x9_0 1))]) (w' := W) (by kernel_rfl) ?_
              obtain ⟨y4, hy, h⟩ := Option.bind_eq_some_iff.mp h
              rw [show (band .i64 (bxor .i64 (shl .i64 x8_0 1) a2) 255) = y4 from Option.some.inj hy]
              clear hy
              exact ih0 k (by omega) (bxor .i64 x7_0 x8_0) y4 (shr x9_0 1) _ (hM.pick [] rfl rfl) h
            · replace h := of_false h c3
              refine RunF.know 29 (b := false) (by kernel_rfl) c3 ?_
              refine RunF.go 11 [2, 7, 8, 9] (k' := (pl Go.Proofs.Try.f15 [1, 0, 1, 1])) (L' := [(2, .int .i64 a2), (7, .int .i64 (bxor .i64 x7_0 x8_0)), (8, .int .i64 (band .i64 (shl .i64 x8_0 1) 255)), (9, .int .i64 (shr x9_0 1))]) (w' := W) (by kernel_rfl) ?_
              exact ih0 k (by omega) (bxor .i64 x7_0 x8_0) (band .i64 (shl .i64 x8_0 1) 255) (shr x9_0 1) _ (hM.pick [] rfl rfl) h
          · replace h := of_false h c2
            refine RunF.know 20 (b := false) (by kernel_rfl) c2 ?_
            refine RunF.go 17 [2, 7, 8, 9, 29] (k' := (pl Go.Proofs.Try.f15 [1, 0, 1, 1, 1, 1, 0, 1, 1])) (L' := [(2, .int .i64 a2), (7, .int .i64 x7_0), (8, .int .i64 (shl .i64 x8_0 1)), (9, .int .i64 (shr x9_0 1)), (29, .bool (decide ((shl .i64 x8_0 1) ≥ 256)))]) (w' := W) (by kernel_rfl) ?_
            rcases two (decide ((shl .i64 x8_0 1) ≥ 256)) with c5 | c5
            · replace h := of_true h c5
              refine RunF.know 29 (b := true) (by kernel_rfl) c5 ?_
              refine RunF.go 16 [2, 7, 8, 9] (k' := (pl Go.Proofs.Try.f15 [1, 0, 1, 1])) (L' := [(2, .int .i64 a2), (7, .int .i64 x7_0), (8, .int .i64 (band .i64 (bxor .i64 (shl .i64 x8_0 1) a2) 255)), (9, .int .i64 (shr x9_0 1))]) (w' := W) (by kernel_rfl) ?_
              obtain ⟨y6, hy, h⟩ := Option.bind_eq_some_iff.mp h
              rw [show (band .i64 (bxor .i64 (shl .i64 x8_0 1) a2) 255) = y6 from Option.some.inj hy]
              clear hy
              exact ih0 k (by omega) x7_0 y6 (shr x9_0 1) _ (hM.pick [] rfl rfl) h
            · replace h := of_false h c5
              refine RunF.know 29 (b := false) (by kernel_rfl) c5 ?_
              refine RunF.go 11 [2, 7, 8, 9] (k' := (pl Go.Proofs.Try.f15 [1, 0, 1, 1])) (L' := [(2, .int .i64 a2), (7, .int .i64 x7_0), (8, .int .i64 (band .i64 (shl .i64 x8_0 1) 255)), (9, .int .i64 (shr x9_0 1))]) (w' := W) (by kernel_rfl) ?_
              exact ih0 k (by omega) x7_0 (band .i64 (shl .i64 x8_0 1) 255) (shr x9_0 1) _ (hM.pick [] rfl rfl) h
  exact l0 k (Nat.le_refl _) 0 (I64 (a0)) (I64 (a1)) _ (hM.pick [] rfl rfl) h

/-! ### scrim/field.Pow: function 17 -/
def field_Pow.l0 : Nat → Int → Int → Int → Int → Option (Int)
  | 0, _, _, _, _ => none
  | k + 1, a2, x0_0, x1_0, x7_0 => if (decide (x1_0 ≤ 0)) = true then (some x7_0) else (if (decide ((band .i64 x1_0 1) > 0)) = true then ((field_Mul.f k x7_0 x0_0 a2).bind fun t3 => ((field_Mul.f k x0_0 x0_0 a2).bind fun t5 => (field_Pow.l0 k a2 t5 (shr x1_0 1) t3))) else ((field_Mul.f k x0_0 x0_0 a2).bind fun t7 => (field_Pow.l0 k a2 t7 (shr x1_0 1) x7_0)))
def field_Pow.f (k : Nat) (a0 : Int) (a1 : Int) (a2 : Int) : Option (Int) := field_Pow.l0 k a2 a0 a1 1
set_option maxRecDepth 100000 in
theorem field_Pow.calls (k : Nat) (a0 : Int) (a1 : Int) (a2 : Int) (r : Int) (w : World) (h : field_Pow.f k a0 a1 a2 = some r) :
    Calls Go.Proofs.Try.prog 17 #[.int .u8 a0, .int .i64 a1, .int .i64 a2] w (Ret fun v w' => v = .int .u8 r ∧ Mem w w' []) := by
  unfold field_Pow.f at h
  refine calls_of [.int .u8 a0, .int .i64 a1, .int .i64 a2] (fn := Go.Proofs.Try.f17) Go.Proofs.Try.func17 (by kernel_rfl) (by kernel_rfl) ?_
  have hM := Mem.refl w
  refine RunF.go 11 [0, 1, 2, 7] (k' := (pl Go.Proofs.Try.f17 [1, 0, 1, 1])) (L' := [(0, .int .u8 a0), (1, .int .i64 a1), (2, .int .i64 a2), (7, .int .u8 1)]) (w' := w) (by kernel_rfl) ?_
  have l0 : ∀ (k_ : Nat), k_ ≤ k → ∀ (x0_0 : Int) (x1_0 : Int) (x7_0 : Int) (W : World) (hM : Mem w W []) (h : field_Pow.l0 k_ a2 x0_0 x1_0 x7_0 = some r), RunF Go.Proofs.Try.prog (Ret fun v w' => v = .int .u8 r ∧ Mem w w' []) 17 (pl Go.Proofs.Try.f17 [1, 0, 1, 1]) 24 [(0, .int .u8 x0_0), (1, .int .i64 x1_0), (2, .int .i64 a2), (7, .int .u8 x7_0)] W := by
    intro k_
    induction k_ using Nat.strongRecOn with
    | _ k_ ih0 =>
      intro hk x0_0 x1_0 x7_0 W hM h
      cases k_ with
      | zero => exact absurd h (by simp [field_Pow.l0])
      | succ k =>
        simp only [field_Pow.l0] at h
        replace ih0 : ∀ m, m ≤ k → _ := fun m hm => ih0 m (by omega) (by omega)
        refine RunF.go 6 [0, 1, 2, 7, 9] (k' := (pl Go.Proofs.Try.f17 [1, 0, 1, 1, 0, 1])) (L' := [(0, .int .u8 x0_0), (1, .int .i64 x1_0), (2, .int .i64 a2), (7, .int .u8 x7_0), (9, .bool (decide (x1_0 ≤ 0)))]) (w' := W) (by kernel_rfl) ?_
        rcases two (decide (x1_0 ≤ 0)) with c1 | c1
        · replace h := of_true h c1
          refine RunF.know 9 (b := true) (by kernel_rfl) c1 ?_
          refine RunF.go 6 [6] (k' := (pl Go.Proofs.Try.f17 [1, 0, 1, 1, 0, 1, 0, 1])) (L' := [(6, .int .u8 x7_0)]) (w' := W) (by kernel_rfl) ?_
          obtain rfl := Option.some.inj h
          exact RunF.ret1 6 (.int .u8 x7_0) (fn := Go.Proofs.Try.f17) Go.Proofs.Try.func17 (by kernel_rfl) (by kernel_rfl) (by kernel_rfl) ⟨_, rfl, rfl, (hM.pick [] rfl rfl)⟩
        · replace h := of_false h c1
          refine RunF.know 9 (b := false) (by kernel_rfl) c1 ?_
          refine RunF.go 9 [0, 1, 2, 7, 13] (k' := (pl Go.Proofs.Try.f17 [1, 0, 1, 1, 1, 0, 1])) (L' := [(0, .int .u8 x0_0), (1, .int .i64 x1_0), (2, .int .i64 a2), (7, .int .u8 x7_0), (13, .bool (decide ((band .i64 x1_0 1) > 0)))]) (w' := W) (by kernel_rfl) ?_
          rcases two (decide ((band .i64 x1_0 1) > 0)) with c2 | c2
          · replace h := of_true h c2
            refine RunF.know 13 (b := true) (by kernel_rfl) c2 ?_
            refine RunF.go 5 [0, 1, 2, 14, 15, 16] (k' := (pin Go.Proofs.Try.f17 [1, 0, 1, 1, 1, 0, 1, 0] 3)) (L' := [(0, .int .u8 x0_0), (1, .int .i64 x1_0), (2, .int .i64 a2), (14, .int .u8 x7_0), (15, .int .u8 x0_0), (16, .int .i64 a2)]) (w' := W) (by kernel_rfl) ?_
            obtain ⟨t3, ht3, h⟩ := Option.bind_eq_some_iff.mp h
            refine RunF.call (d := some 17) (g := 15) (args := #[.int .u8 x7_0, .int .u8 x0_0, .int .i64 a2]) (k2 := (pin Go.Proofs.Try.f17 [1, 0, 1, 1, 1, 0, 1, 0] 4)) (by kernel_rfl) (field_Mul.calls k x7_0 x0_0 a2 t3 _ ht3) ?_
            rintro _ W4 ⟨rfl, hM_⟩
            replace hM := hM.call hM_
            clear hM_ ht3
            refine RunF.go 7 [1, 2, 7, 18, 19, 20] (k' := (pin Go.Proofs.Try.f17 [1, 0, 1, 1, 1, 1, 0] 3)) (L' := [(1, .int .i64 x1_0), (2, .int .i64 a2), (7, .int .u8 t3), (18, .int .u8 x0_0), (19, .int .u8 x0_0), (20, .int .i64 a2)]) (w' := W4) (by kernel_rfl) ?_
            obtain ⟨t5, ht5, h⟩ := Option.bind_eq_some_iff.mp h
            refine RunF.call (d := some 21) (g := 15) (args := #[.int .u8 x0_0, .int .u8 x0_0, .int .i64 a2]) (k2 := (pin Go.Proofs.Try.f17 [1, 0, 1, 1, 1, 1, 0] 4)) (by kernel_rfl) (field_Mul.calls k x0_0 x0_0 a2 t5 _ ht5) ?_
            rintro _ W6 ⟨rfl, hM_⟩
            replace hM := hM.call hM_
            clear hM_ ht5
            refine RunF.go 8 [0, 1, 2, 7] (k' := (pl Go.Proofs.Try.f17 [1, 0, 1, 1])) (L' := [(0, .int .u8 t5), (1, .int .i64 (shr x1_0 1)), (2, .int .i64 a2), (7, .int .u8 t3)]) (w' := W6) (by kernel_rfl) ?_
            exact ih0 k (by omega) t5 (shr x1_0 1) t3 _ (hM.pick [] rfl rfl) h
          · replace h := of_false h c2
            refine RunF.know 13 (b := false) (by kernel_rfl) c2 ?_
            refine RunF.go 7 [1, 2, 7, 18, 19, 20] (k' := (pin Go.Proofs.Try.f17 [1, 0, 1, 1, 1, 1, 0] 3)) (L' := [(1, .int .i64 x1_0), (2, .int .i64 a2), (7, .int .u8 x7_0), (18, .int .u8 x0_0), (19, .int .u8 x0_0), (20, .int .i64 a2)]) (w' := W) (by kernel_rfl) ?_
            obtain ⟨t7, ht7, h⟩ := Option.bind_eq_some_iff.mp h
            refine RunF.call (d := some 21) (g := 15) (args := #[.int .u8 x0_0, .int .u8 x0_0, .int .i64 a2]) (k2 := (pin Go.Proofs.Try.f17 [1, 0, 1, 1, 1, 1, 0] 4)) (by kernel_rfl) (field_Mul.calls k x0_0 x0_0 a2 t7 _ ht7) ?_
            rintro _ W8 ⟨rfl, hM_⟩
            replace hM := hM.call hM_
            clear hM_ ht7
            refine RunF.go 8 [0, 1, 2, 7] (k' := (pl Go.Proofs.Try.f17 [1, 0, 1, 1])) (L' := [(0, .int .u8 t7), (1, .int .i64 (shr x1_0 1)), (2, .int .i64 a2), (7, .int .u8 x7_0)]) (w' := W8) (by kernel_rfl) ?_
            exact ih0 k (by omega) t7 (shr x1_0 1) x7_0 _ (hM.pick [] rfl rfl) h
  exact l0 k (Nat.le_refl _) a0 a1 1 _ (hM.pick [] rfl rfl) h

/-! ### scrim/field.Inv: function 19 -/
def field_Inv.l0 : Nat → Int → Int → Int → Option (Int)
  | 0, _, _, _ => none
  | k + 1, a0, a1, x6_0 => if (decide (x6_0 < 256)) = true then ((field_Mul.f k a0 (U8 (x6_0)) a1).bind fun t2 => (if (t2 == 1) = true then (some (U8 (x6_0))) else (field_Inv.l0 k a0 a1 (I64 (x6_0 + 1))))) else (some 0)
def field_Inv.f (k : Nat) (a0 : Int) (a1 : Int) : Option (Int) := field_Inv.l0 k a0 a1 0
set_option maxRecDepth 100000 in
theorem field_Inv.calls (k : Nat) (a0 : Int) (a1 : Int) (r : Int) (w : World) (h : field_Inv.f k a0 a1 = some r) :
    Calls Go.Proofs.Try.prog 19 #[.int .u8 a0, .int .i64 a1] w (Ret fun v w' => v = .int .u8 r ∧ Mem w w' []) := by
  unfold field_Inv.f at h
  refine calls_of [.int .u8 a0, .int .i64 a1] (fn := Go.Proofs.Try.f19) Go.Proofs.Try.func19 (by kernel_rfl) (by kernel_rfl) ?_
  have hM := Mem.refl w
  refine RunF.go 11 [0, 1, 6] (k' := (pl Go.Proofs.Try.f19 [1, 0, 1, 0, 0])) (L' := [(0, .int .u8 a0), (1, .int .i64 a1), (6, .int .i64 0)]) (w' := w) (by kernel_rfl) ?_
  have l0 : ∀ (k_ : Nat), k_ ≤ k → ∀ (x6_0 : Int) (W : World) (hM : Mem w W []) (h : field_Inv.l0 k_ a0 a1 x6_0 = some r), RunF Go.Proofs.Try.prog (Ret fun v w' => v = .int .u8 r ∧ Mem w w' []) 19 (pl Go.Proofs.Try.f19 [1, 0, 1, 0, 0]) 18 [(0, .int .u8 a0), (1, .int .i64 a1), (6, .int .i64 x6_0)] W := by
    intro k_
    induction k_ using Nat.strongRecOn with
    | _ k_ ih0 =>
      intro hk x6_0 W hM h
      cases k_ with
      | zero => exact absurd h (by simp [field_Inv.l0])
      | succ k =>
        simp only [field_Inv.l0] at h
        replace ih0 : ∀ m, m ≤ k → _ := fun m hm => ih0 m (by omega) (by omega)
        refine RunF.go 5 [0, 1, 6, 7] (k' := (pl Go.Proofs.Try.f19 [1, 0, 1, 0, 0, 1, 0])) (L' := [(0, .int .u8 a0), (1, .int .i64 a1), (6, .int .i64 x6_0), (7, .bool (decide (x6_0 < 256)))]) (w' := W) (by kernel_rfl) ?_
        rcases two (decide (x6_0 < 256)) with c1 | c1
        · replace h := of_true h c1
          refine RunF.know 7 (b := true) (by kernel_rfl) c1 ?_
          refine RunF.go 15 [0, 1, 5, 6, 9, 11, 12] (k' := (pin Go.Proofs.Try.f19 [1, 0, 1, 0, 0, 1, 1, 0, 0, 1, 0] 4)) (L' := [(0, .int .u8 a0), (1, .int .i64 a1), (5, .int .i64 x6_0), (6, .int .i64 x6_0), (9, .int .u8 a0), (11, .int .u8 (U8 (x6_0))), (12, .int .i64 a1)]) (w' := W) (by kernel_rfl) ?_
          obtain ⟨t2, ht2, h⟩ := Option.bind_eq_some_iff.mp h
          refine RunF.call (d := some 13) (g := 15) (args := #[.int .u8 a0, .int .u8 (U8 (x6_0)), .int .i64 a1]) (k2 := (pin Go.Proofs.Try.f19 [1, 0, 1, 0, 0, 1, 1, 0, 0, 1, 0] 5)) (by kernel_rfl) (field_Mul.calls k a0 (U8 (x6_0)) a1 t2 _ ht2) ?_
          rintro _ W3 ⟨rfl, hM_⟩
          replace hM := hM.call hM_
          clear hM_ ht2
          refine RunF.go 2 [0, 1, 5, 6, 14] (k' := (pl Go.Proofs.Try.f19 [1, 0, 1, 0, 0, 1, 1, 0, 0, 1, 1])) (L' := [(0, .int .u8 a0), (1, .int .i64 a1), (5, .int .i64 x6_0), (6, .int .i64 x6_0), (14, .bool (t2 == 1))]) (w' := W3) (by kernel_rfl) ?_
          rcases two ((t2 == 1)) with c4 | c4
          · replace h := of_true h c4
            refine RunF.know 14 (b := true) (by kernel_rfl) c4 ?_
            refine RunF.go 7 [4] (k' := (pl Go.Proofs.Try.f19 [1, 0, 1, 0, 0, 1, 1, 0, 0, 1, 1, 0, 1])) (L' := [(4, .int .u8 (U8 (x6_0)))]) (w' := W3) (by kernel_rfl) ?_
            obtain rfl := Option.some.inj h
            exact RunF.ret1 4 (.int .u8 (U8 (x6_0))) (fn := Go.Proofs.Try.f19) Go.Proofs.Try.func19 (by kernel_rfl) (by kernel_rfl) (by kernel_rfl) ⟨_, rfl, rfl, (hM.pick [] rfl rfl)⟩
          · replace h := of_false h c4
            refine RunF.know 14 (b := false) (by kernel_rfl) c4 ?_
            refine RunF.go 8 [0, 1, 6] (k' := (pl Go.Proofs.Try.f19 [1, 0, 1, 0, 0])) (L' := [(0, .int .u8 a0), (1, .int .i64 a1), (6, .int .i64 (I64 (x6_0 + 1)))]) (w' := W3) (by kernel_rfl) ?_
            exact ih0 k (by omega) (I64 (x6_0 + 1)) _ (hM.pick [] rfl rfl) h
        · replace h := of_false h c1
          refine RunF.know 7 (b := false) (by kernel_rfl) c1 ?_
          refine RunF.go 6 [4] (k' := (pl Go.Proofs.Try.f19 [1, 1, 1])) (L' := [(4, .int .u8 0)]) (w' := W) (by kernel_rfl) ?_
          obtain rfl := Option.some.inj h
          exact RunF.ret1 4 (.int .u8 0) (fn := Go.Proofs.Try.f19) Go.Proofs.Try.func19 (by kernel_rfl) (by kernel_rfl) (by kernel_rfl) ⟨_, rfl, rfl, (hM.pick [] rfl rfl)⟩
  exact l0 k (Nat.le_refl _) 0 _ (hM.pick [] rfl rfl) h

/-! ### scrim/scrimlaw3.known: function 12 -/
def scrimlaw3_known.f (k : Nat)  : Option (Bool) := (field_Mul.f k 2 128 283).bind fun t1 => (if (t1 == 27) = true then ((field_Pow.f k 3 0 283).bind fun t4 => (if (t4 == 1) = true then ((field_Inv.f k 1 283).bind fun t7 => (some (t7 == 1))) else (some false))) else (some false))
set_option maxRecDepth 100000 in
theorem scrimlaw3_known.calls (k : Nat)  (r : Bool) (w : World) (h : scrimlaw3_known.f k = some r) :
    Calls Go.Proofs.Try.prog 12 #[] w (Ret fun v w' => v = .bool r ∧ Mem w w' []) := by
  unfold scrimlaw3_known.f at h
  refine calls_of [] (fn := Go.Proofs.Try.f12) Go.Proofs.Try.func12 (by kernel_rfl) (by kernel_rfl) ?_
  have hM := Mem.refl w
  refine RunF.go 6 [] (k' := (pin Go.Proofs.Try.f12 [1, 0] 0)) (L' := []) (w' := w) (by kernel_rfl) ?_
  obtain ⟨t1, ht1, h⟩ := Option.bind_eq_some_iff.mp h
  refine RunF.call (d := some 1) (g := 15) (args := #[.int .u8 2, .int .u8 128, .int .i64 283]) (k2 := (pin Go.Proofs.Try.f12 [1, 0] 1)) (by kernel_rfl) (field_Mul.calls k 2 128 283 t1 _ ht1) ?_
  rintro _ W2 ⟨rfl, hM_⟩
  replace hM := hM.call hM_
  clear hM_ ht1
  refine RunF.go 2 [3] (k' := (pin Go.Proofs.Try.f12 [1, 0] 3)) (L' := [(3, .bool (t1 == 27))]) (w' := W2) (by kernel_rfl) ?_
  rcases two ((t1 == 27)) with c3 | c3
  · replace h := of_true h c3
    refine RunF.know 3 (b := true) (by kernel_rfl) c3 ?_
    obtain ⟨t4, ht4, h⟩ := Option.bind_eq_some_iff.mp h
    refine RunF.call (d := some 4) (g := 17) (args := #[.int .u8 3, .int .i64 0, .int .i64 283]) (k2 := (pin Go.Proofs.Try.f12 [1, 0] 4)) (by kernel_rfl) (field_Pow.calls k 3 0 283 t4 _ ht4) ?_
    rintro _ W5 ⟨rfl, hM_⟩
    replace hM := hM.call hM_
    clear hM_ ht4
    refine RunF.go 3 [7] (k' := (pin Go.Proofs.Try.f12 [1, 0] 7)) (L' := [(7, .bool (t4 == 1))]) (w' := W5) (by kernel_rfl) ?_
    rcases two ((t4 == 1)) with c6 | c6
    · replace h := of_true h c6
      refine RunF.know 7 (b := true) (by kernel_rfl) c6 ?_
      obtain ⟨t7, ht7, h⟩ := Option.bind_eq_some_iff.mp h
      refine RunF.call (d := some 8) (g := 19) (args := #[.int .u8 1, .int .i64 283]) (k2 := (pin Go.Proofs.Try.f12 [1, 0] 8)) (by kernel_rfl) (field_Inv.calls k 1 283 t7 _ ht7) ?_
      rintro _ W8 ⟨rfl, hM_⟩
      replace hM := hM.call hM_
      clear hM_ ht7
      refine RunF.go 4 [0] (k' := (pl Go.Proofs.Try.f12 [1, 1])) (L' := [(0, .bool (t7 == 1))]) (w' := W8) (by kernel_rfl) ?_
      obtain rfl := Option.some.inj h
      exact RunF.ret1 0 (.bool (t7 == 1)) (fn := Go.Proofs.Try.f12) Go.Proofs.Try.func12 (by kernel_rfl) (by kernel_rfl) (by kernel_rfl) ⟨_, rfl, rfl, (hM.pick [] rfl rfl)⟩
    · replace h := of_false h c6
      refine RunF.know 7 (b := false) (by kernel_rfl) c6 ?_
      refine RunF.go 5 [0] (k' := (pl Go.Proofs.Try.f12 [1, 1])) (L' := [(0, .bool false)]) (w' := W5) (by kernel_rfl) ?_
      obtain rfl := Option.some.inj h
      exact RunF.ret1 0 (.bool false) (fn := Go.Proofs.Try.f12) Go.Proofs.Try.func12 (by kernel_rfl) (by kernel_rfl) (by kernel_rfl) ⟨_, rfl, rfl, (hM.pick [] rfl rfl)⟩
  · replace h := of_false h c3
    refine RunF.know 3 (b := false) (by kernel_rfl) c3 ?_
    refine RunF.go 9 [0] (k' := (pl Go.Proofs.Try.f12 [1, 1])) (L' := [(0, .bool false)]) (w' := W2) (by kernel_rfl) ?_
    obtain rfl := Option.some.inj h
    exact RunF.ret1 0 (.bool false) (fn := Go.Proofs.Try.f12) Go.Proofs.Try.func12 (by kernel_rfl) (by kernel_rfl) (by kernel_rfl) ⟨_, rfl, rfl, (hM.pick [] rfl rfl)⟩

/-! ### scrim/scrimlaw3.within: function 14 -/
def scrimlaw3_within.f (k : Nat) (a0 : Int) (a1 : Int) : Option (Int) := if (decide (a1 = 0)) = true then (none) else (if (decide ((Int.tmod a0 a1) < 0)) = true then (some (I64 ((Int.tmod a0 a1) + a1))) else (some (Int.tmod a0 a1)))
set_option maxRecDepth 100000 in
theorem scrimlaw3_within.calls (k : Nat) (a0 : Int) (a1 : Int) (r : Int) (w : World) (h : scrimlaw3_within.f k a0 a1 = some r) :
    Calls Go.Proofs.Try.prog 14 #[.int .i64 a0, .int .i64 a1] w (Ret fun v w' => v = .int .i64 r ∧ Mem w w' []) := by
  unfold scrimlaw3_within.f at h
  refine calls_of [.int .i64 a0, .int .i64 a1] (fn := Go.Proofs.Try.f14) Go.Proofs.Try.func14 (by kernel_rfl) (by kernel_rfl) ?_
  have hM := Mem.refl w
  refine RunF.go 8 [1, 6, 7] (k' := (pin Go.Proofs.Try.f14 [1, 0] 2)) (L' := [(1, .int .i64 a1), (6, .int .i64 a0), (7, .int .i64 a1)]) (w' := w) (by kernel_rfl) ?_
  rcases two (decide (a1 = 0)) with c1 | c1
  · replace h := of_true h c1
    cases h
  · replace h := of_false h c1
    refine RunF.y (div_y (d := some 8) (b := false) (kd := .i64) (x := a0) (y := a1) (k2 := (pin Go.Proofs.Try.f14 [1, 0] 3)) (by kernel_rfl) c1) trivial ?_
    refine RunF.go 8 [1, 5, 10] (k' := (pl Go.Proofs.Try.f14 [1, 1, 0, 1])) (L' := [(1, .int .i64 a1), (5, .int .i64 (Int.tmod a0 a1)), (10, .bool (decide ((Int.tmod a0 a1) < 0)))]) (w' := w) (by kernel_rfl) ?_
    rcases two (decide ((Int.tmod a0 a1) < 0)) with c2 | c2
    · replace h := of_true h c2
      refine RunF.know 10 (b := true) (by kernel_rfl) c2 ?_
      refine RunF.go 12 [4] (k' := (pl Go.Proofs.Try.f14 [1, 1, 1, 1])) (L' := [(4, .int .i64 (I64 ((Int.tmod a0 a1) + a1)))]) (w' := w) (by kernel_rfl) ?_
      obtain rfl := Option.some.inj h
      exact RunF.ret1 4 (.int .i64 (I64 ((Int.tmod a0 a1) + a1))) (fn := Go.Proofs.Try.f14) Go.Proofs.Try.func14 (by kernel_rfl) (by kernel_rfl) (by kernel_rfl) ⟨_, rfl, rfl, (hM.pick [] rfl rfl)⟩
    · replace h := of_false h c2
      refine RunF.know 10 (b := false) (by kernel_rfl) c2 ?_
      refine RunF.go 7 [4] (k' := (pl Go.Proofs.Try.f14 [1, 1, 1, 1])) (L' := [(4, .int .i64 (Int.tmod a0 a1))]) (w' := w) (by kernel_rfl) ?_
      obtain rfl := Option.some.inj h
      exact RunF.ret1 4 (.int .i64 (Int.tmod a0 a1)) (fn := Go.Proofs.Try.f14) Go.Proofs.Try.func14 (by kernel_rfl) (by kernel_rfl) (by kernel_rfl) ⟨_, rfl, rfl, (hM.pick [] rfl rfl)⟩

/-! ### scrim/scrimlaw3.Mod: function 13 -/
def scrimlaw3_Mod.f (k : Nat) (a0 : Int) : Option (Int) := (scrimlaw3_within.f k a0 5).bind fun t4 => (if (decide (0 ≤ t4)) = true then (if (decide (t4 < (5 : Int))) = true then (some (rd ([283, 361, 333, 285, 299] : List Int) t4)) else (none)) else (none))
set_option maxRecDepth 100000 in
theorem scrimlaw3_Mod.calls (k : Nat) (a0 : Int) (r : Int) (w : World) (h : scrimlaw3_Mod.f k a0 = some r) :
    Calls Go.Proofs.Try.prog 13 #[.int .i64 a0] w (Ret fun v w' => v = .int .i64 r ∧ Mem w w' []) := by
  unfold scrimlaw3_Mod.f at h
  refine calls_of [.int .i64 a0] (fn := Go.Proofs.Try.f13) Go.Proofs.Try.func13 (by kernel_rfl) (by kernel_rfl) ?_
  have hM := Mem.refl w
  refine RunF.go 6 [0] (k' := (pin Go.Proofs.Try.f13 [1, 0] 0)) (L' := [(0, .int .i64 a0)]) (w' := w) (by kernel_rfl) ?_
  refine RunF.new 3 1 5 (nums .i64 [283, 361, 333, 285, 299]) (d := some 3) (k2 := (pin Go.Proofs.Try.f13 [1, 0] 1)) hM (by simp [nums, bools]) (by kernel_rfl) (by kernel_rfl) ?_
  replace hM := hM
  intro g1 W2 hM
  refine RunF.go 1 [3, 4] (k' := (pin Go.Proofs.Try.f13 [1, 0] 2)) (L' := [(3, .slice (some ⟨g1, 0, none⟩) 5 5), (4, .int .i64 a0)]) (w' := W2) (by kernel_rfl) ?_
  obtain ⟨t4, ht4, h⟩ := Option.bind_eq_some_iff.mp h
  refine RunF.call (d := some 5) (g := 14) (args := #[.int .i64 a0, .int .i64 5]) (k2 := (pin Go.Proofs.Try.f13 [1, 0] 3)) (by kernel_rfl) (scrimlaw3_within.calls k a0 5 t4 _ ht4) ?_
  rintro _ W5 ⟨rfl, hM_⟩
  replace hM := hM.call hM_
  clear hM_ ht4
  rcases two (decide (0 ≤ t4)) with c7 | c7
  · replace h := of_true h c7
    rcases two (decide (t4 < (5 : Int))) with c8 | c8
    · replace h := of_true h c8
      obtain ⟨q6, hAq6, hcq6, hfq6, hlq6⟩ := hM.num_at 0 rfl (i := t4) (of_decide_eq_true c7) (by have h_ := of_decide_eq_true c8; omega)
      refine RunF.y (idx_own (d := some 6) (A := (some ⟨g1, 0, none⟩)) (m := 5) (i := t4) (k2 := (pin Go.Proofs.Try.f13 [1, 0] 4)) (by kernel_rfl) (of_decide_eq_true c7) (by have h_ := of_decide_eq_true c8; omega) hAq6) trivial ?_
      refine RunF.y (ld_y (d := some 7) (p := ⟨q6, (t4 : Int).toNat, none⟩) (k2 := (pin Go.Proofs.Try.f13 [1, 0] 5)) (.int .i64 (rd ([283, 361, 333, 285, 299] : List Int) t4)) (by kernel_rfl)) hcq6 ?_
      refine RunF.go 2 [2] (k' := (pl Go.Proofs.Try.f13 [1, 1])) (L' := [(2, .int .i64 (rd ([283, 361, 333, 285, 299] : List Int) t4))]) (w' := W5) (by kernel_rfl) ?_
      obtain rfl := Option.some.inj h
      exact RunF.ret1 2 (.int .i64 (rd ([283, 361, 333, 285, 299] : List Int) t4)) (fn := Go.Proofs.Try.f13) Go.Proofs.Try.func13 (by kernel_rfl) (by kernel_rfl) (by kernel_rfl) ⟨_, rfl, rfl, (hM.pick [] rfl rfl)⟩
    · replace h := of_false h c8
      cases h
  · replace h := of_false h c7
    cases h

/-! ### scrim/scrimref3.Mul: function 16 -/
def scrimref3_Mul.l0 : Nat → Int → Int → Int → Int → Int → Option (Int)
  | 0, _, _, _, _, _ => none
  | k + 1, a1, a2, x7_0, x8_0, x9_0 => if (decide (x9_0 < 8)) = true then (if (decide (0 ≤ x9_0)) = true then (if ((band .u8 (shrv .u8 a1 x9_0) 1) == 1) = true then (if (decide ((shl .i64 x8_0 1) ≥ 256)) = true then (scrimref3_Mul.l0 k a1 a2 (bxor .i64 x7_0 x8_0) (bxor .i64 (shl .i64 x8_0 1) a2) (U64 (x9_0 + 1))) else (scrimref3_Mul.l0 k a1 a2 (bxor .i64 x7_0 x8_0) (shl .i64 x8_0 1) (U64 (x9_0 + 1)))) else (if (decide ((shl .i64 x8_0 1) ≥ 256)) = true then (scrimref3_Mul.l0 k a1 a2 x7_0 (bxor .i64 (shl .i64 x8_0 1) a2) (U64 (x9_0 + 1))) else (scrimref3_Mul.l0 k a1 a2 x7_0 (shl .i64 x8_0 1) (U64 (x9_0 + 1))))) else (none)) else (some (U8 (x7_0)))
def scrimref3_Mul.f (k : Nat) (a0 : Int) (a1 : Int) (a2 : Int) : Option (Int) := scrimref3_Mul.l0 k a1 a2 0 (I64 (a0)) 0
set_option maxRecDepth 100000 in
theorem scrimref3_Mul.calls (k : Nat) (a0 : Int) (a1 : Int) (a2 : Int) (r : Int) (w : World) (h : scrimref3_Mul.f k a0 a1 a2 = some r) :
    Calls Go.Proofs.Try.prog 16 #[.int .u8 a0, .int .u8 a1, .int .i64 a2] w (Ret fun v w' => v = .int .u8 r ∧ Mem w w' []) := by
  unfold scrimref3_Mul.f at h
  refine calls_of [.int .u8 a0, .int .u8 a1, .int .i64 a2] (fn := Go.Proofs.Try.f16) Go.Proofs.Try.func16 (by kernel_rfl) (by kernel_rfl) ?_
  have hM := Mem.refl w
  refine RunF.go 18 [1, 2, 7, 8, 9] (k' := (pl Go.Proofs.Try.f16 [1, 1, 0, 1, 0, 0])) (L' := [(1, .int .u8 a1), (2, .int .i64 a2), (7, .int .i64 0), (8, .int .i64 (I64 (a0))), (9, .int .u64 0)]) (w' := w) (by kernel_rfl) ?_
  have l0 : ∀ (k_ : Nat), k_ ≤ k → ∀ (x7_0 : Int) (x8_0 : Int) (x9_0 : Int) (W : World) (hM : Mem w W []) (h : scrimref3_Mul.l0 k_ a1 a2 x7_0 x8_0 x9_0 = some r), RunF Go.Proofs.Try.prog (Ret fun v w' => v = .int .u8 r ∧ Mem w w' []) 16 (pl Go.Proofs.Try.f16 [1, 1, 0, 1, 0, 0]) 33 [(1, .int .u8 a1), (2, .int .i64 a2), (7, .int .i64 x7_0), (8, .int .i64 x8_0), (9, .int .u64 x9_0)] W := by
    intro k_
    induction k_ using Nat.strongRecOn with
    | _ k_ ih0 =>
      intro hk x7_0 x8_0 x9_0 W hM h
      cases k_ with
      | zero => exact absurd h (by simp [scrimref3_Mul.l0])
      | succ k =>
        simp only [scrimref3_Mul.l0] at h
        replace ih0 : ∀ m, m ≤ k → _ := fun m hm => ih0 m (by omega) (by omega)
        refine RunF.go 6 [1, 2, 7, 8, 9, 13] (k' := (pl Go.Proofs.Try.f16 [1, 1, 0, 1, 0, 0, 0, 1])) (L' := [(1, .int .u8 a1), (2, .int .i64 a2), (7, .int .i64 x7_0), (8, .int .i64 x8_0), (9, .int .u64 x9_0), (13, .bool (decide (x9_0 < 8)))]) (w' := W) (by kernel_rfl) ?_
        rcases two (decide (x9_0 < 8)) with c1 | c1
        · replace h := of_true h c1
          refine RunF.know 13 (b := true) (by kernel_rfl) c1 ?_
          refine RunF.go 9 [1, 2, 7, 8, 9, 16, 17] (k' := (pin Go.Proofs.Try.f16 [1, 1, 0, 1, 0, 0, 1, 0, 0, 0, 0] 2)) (L' := [(1, .int .u8 a1), (2, .int .i64 a2), (7, .int .i64 x7_0), (8, .int .i64 x8_0), (9, .int .u64 x9_0), (16, .int .u8 a1), (17, .int .u64 x9_0)]) (w' := W) (by kernel_rfl) ?_
          rcases two (decide (0 ≤ x9_0)) with c2 | c2
          · replace h := of_true h c2
            refine RunF.y (sh_y (d := some 18) (b := false) (kd := .u8) (x := a1) (y := x9_0) (k2 := (pin Go.Proofs.Try.f16 [1, 1, 0, 1, 0, 0, 1, 0, 0, 0, 0] 3)) (by kernel_rfl) c2) trivial ?_
            refine RunF.go 3 [1, 2, 7, 8, 9, 20] (k' := (pl Go.Proofs.Try.f16 [1, 1, 0, 1, 0, 0, 1, 0, 0, 0, 1])) (L' := [(1, .int .u8 a1), (2, .int .i64 a2), (7, .int .i64 x7_0), (8, .int .i64 x8_0), (9, .int .u64 x9_0), (20, .bool ((band .u8 (shrv .u8 a1 x9_0) 1) == 1))]) (w' := W) (by kernel_rfl) ?_
            rcases two (((band .u8 (shrv .u8 a1 x9_0) 1) == 1)) with c3 | c3
            · replace h := of_true h c3
              refine RunF.know 20 (b := true) (by kernel_rfl) c3 ?_
              refine RunF.go 18 [1, 2, 7, 8, 9, 27] (k' := (pl Go.Proofs.Try.f16 [1, 1, 0, 1, 0, 0, 1, 0, 0, 1, 1, 1])) (L' := [(1, .int .u8 a1), (2, .int .i64 a2), (7, .int .i64 (bxor .i64 x7_0 x8_0)), (8, .int .i64 (shl .i64 x8_0 1)), (9, .int .u64 x9_0), (27, .bool (decide ((shl .i64 x8_0 1) ≥ 256)))]) (w' := W) (by kernel_rfl) ?_
              rcases two (decide ((shl .i64 x8_0 1) ≥ 256)) with c4 | c4
              · replace h := of_true h c4
                refine RunF.know 27 (b := true) (by kernel_rfl) c4 ?_
                refine RunF.go 14 [1, 2, 7, 8, 9] (k' := (pl Go.Proofs.Try.f16 [1, 1, 0, 1, 0, 0])) (L' := [(1, .int .u8 a1), (2, .int .i64 a2), (7, .int .i64 (bxor .i64 x7_0 x8_0)), (8, .int .i64 (bxor .i64 (shl .i64 x8_0 1) a2)), (9, .int .u64 (U64 (x9_0 + 1)))]) (w' := W) (by kernel_rfl) ?_
                exact ih0 k (by omega) (bxor .i64 x7_0 x8_0) (bxor .i64 (shl .i64 x8_0 1) a2) (U64 (x9_0 + 1)) _ (hM.pick [] rfl rfl) h
              · replace h := of_false h c4
                refine RunF.know 27 (b := false) (by kernel_rfl) c4 ?_
                refine RunF.go 9 [1, 2, 7, 8, 9] (k' := (pl Go.Proofs.Try.f16 [1, 1, 0, 1, 0, 0])) (L' := [(1, .int .u8 a1), (2, .int .i64 a2), (7, .int .i64 (bxor .i64 x7_0 x8_0)), (8, .int .i64 (shl .i64 x8_0 1)), (9, .int .u64 (U64 (x9_0 + 1)))]) (w' := W) (by kernel_rfl) ?_
                exact ih0 k (by omega) (bxor .i64 x7_0 x8_0) (shl .i64 x8_0 1) (U64 (x9_0 + 1)) _ (hM.pick [] rfl rfl) h
            · replace h := of_false h c3
              refine RunF.know 20 (b := false) (by kernel_rfl) c3 ?_
              refine RunF.go 13 [1, 2, 7, 8, 9, 27] (k' := (pl Go.Proofs.Try.f16 [1, 1, 0, 1, 0, 0, 1, 0, 0, 1, 1, 1])) (L' := [(1, .int .u8 a1), (2, .int .i64 a2), (7, .int .i64 x7_0), (8, .int .i64 (shl .i64 x8_0 1)), (9, .int .u64 x9_0), (27, .bool (decide ((shl .i64 x8_0 1) ≥ 256)))]) (w' := W) (by kernel_rfl) ?_
              rcases two (decide ((shl .i64 x8_0 1) ≥ 256)) with c5 | c5
              · replace h := of_true h c5
                refine RunF.know 27 (b := true) (by kernel_rfl) c5 ?_
                refine RunF.go 14 [1, 2, 7, 8, 9] (k' := (pl Go.Proofs.Try.f16 [1, 1, 0, 1, 0, 0])) (L' := [(1, .int .u8 a1), (2, .int .i64 a2), (7, .int .i64 x7_0), (8, .int .i64 (bxor .i64 (shl .i64 x8_0 1) a2)), (9, .int .u64 (U64 (x9_0 + 1)))]) (w' := W) (by kernel_rfl) ?_
                exact ih0 k (by omega) x7_0 (bxor .i64 (shl .i64 x8_0 1) a2) (U64 (x9_0 + 1)) _ (hM.pick [] rfl rfl) h
              · replace h := of_false h c5
                refine RunF.know 27 (b := false) (by kernel_rfl) c5 ?_
                refine RunF.go 9 [1, 2, 7, 8, 9] (k' := (pl Go.Proofs.Try.f16 [1, 1, 0, 1, 0, 0])) (L' := [(1, .int .u8 a1), (2, .int .i64 a2), (7, .int .i64 x7_0), (8, .int .i64 (shl .i64 x8_0 1)), (9, .int .u64 (U64 (x9_0 + 1)))]) (w' := W) (by kernel_rfl) ?_
                exact ih0 k (by omega) x7_0 (shl .i64 x8_0 1) (U64 (x9_0 + 1)) _ (hM.pick [] rfl rfl) h
          · replace h := of_false h c2
            cases h
        · replace h := of_false h c1
          refine RunF.know 13 (b := false) (by kernel_rfl) c1 ?_
          refine RunF.go 8 [6] (k' := (pl Go.Proofs.Try.f16 [1, 1, 1, 1])) (L' := [(6, .int .u8 (U8 (x7_0)))]) (w' := W) (by kernel_rfl) ?_
          obtain rfl := Option.some.inj h
          exact RunF.ret1 6 (.int .u8 (U8 (x7_0))) (fn := Go.Proofs.Try.f16) Go.Proofs.Try.func16 (by kernel_rfl) (by kernel_rfl) (by kernel_rfl) ⟨_, rfl, rfl, (hM.pick [] rfl rfl)⟩
  exact l0 k (Nat.le_refl _) 0 (I64 (a0)) 0 _ (hM.pick [] rfl rfl) h

/-! ### scrim/scrimref3.Pow: function 18 -/
def scrimref3_Pow.l0 : Nat → Int → Int → Int → Int → Option (Int)
  | 0, _, _, _, _ => none
  | k + 1, a2, x0_0, x1_0, x7_0 => if (decide (x1_0 > 0)) = true then (if ((Int.tmod x1_0 2) == 1) = true then ((scrimref3_Mul.f k x7_0 x0_0 a2).bind fun t3 => ((scrimref3_Mul.f k x0_0 x0_0 a2).bind fun t5 => (scrimref3_Pow.l0 k a2 t5 (I64 (Int.tdiv x1_0 2)) t3))) else ((scrimref3_Mul.f k x0_0 x0_0 a2).bind fun t7 => (scrimref3_Pow.l0 k a2 t7 (I64 (Int.tdiv x1_0 2)) x7_0))) else (some x7_0)
def scrimref3_Pow.f (k : Nat) (a0 : Int) (a1 : Int) (a2 : Int) : Option (Int) := scrimref3_Pow.l0 k a2 a0 a1 1
set_option maxRecDepth 100000 in
theorem scrimref3_Pow.calls (k : Nat) (a0 : Int) (a1 : Int) (a2 : Int) (r : Int) (w : World) (h : scrimref3_Pow.f k a0 a1 a2 = some r) :
    Calls Go.Proofs.Try.prog 18 #[.int .u8 a0, .int .i64 a1, .int .i64 a2] w (Ret fun v w' => v = .int .u8 r ∧ Mem w w' []) := by
  unfold scrimref3_Pow.f at h
  refine calls_of [.int .u8 a0, .int .i64 a1, .int .i64 a2] (fn := Go.Proofs.Try.f18) Go.Proofs.Try.func18 (by kernel_rfl) (by kernel_rfl) ?_
  have hM := Mem.refl w
  refine RunF.go 11 [0, 1, 2, 7] (k' := (pl Go.Proofs.Try.f18 [1, 1, 0, 0, 0])) (L' := [(0, .int .u8 a0), (1, .int .i64 a1), (2, .int .i64 a2), (7, .int .u8 1)]) (w' := w) (by kernel_rfl) ?_
  have l0 : ∀ (k_ : Nat), k_ ≤ k → ∀ (x0_0 : Int) (x1_0 : Int) (x7_0 : Int) (W : World) (hM : Mem w W []) (h : scrimref3_Pow.l0 k_ a2 x0_0 x1_0 x7_0 = some r), RunF Go.Proofs.Try.prog (Ret fun v w' => v = .int .u8 r ∧ Mem w w' []) 18 (pl Go.Proofs.Try.f18 [1, 1, 0, 0, 0]) 24 [(0, .int .u8 x0_0), (1, .int .i64 x1_0), (2, .int .i64 a2), (7, .int .u8 x7_0)] W := by
    intro k_
    induction k_ using Nat.strongRecOn with
    | _ k_ ih0 =>
      intro hk x0_0 x1_0 x7_0 W hM h
      cases k_ with
      | zero => exact absurd h (by simp [scrimref3_Pow.l0])
      | succ k =>
        simp only [scrimref3_Pow.l0] at h
        replace ih0 : ∀ m, m ≤ k → _ := fun m hm => ih0 m (by omega) (by omega)
        refine RunF.go 6 [0, 1, 2, 7, 9] (k' := (pl Go.Proofs.Try.f18 [1, 1, 0, 0, 0, 0, 1])) (L' := [(0, .int .u8 x0_0), (1, .int .i64 x1_0), (2, .int .i64 a2), (7, .int .u8 x7_0), (9, .bool (decide (x1_0 > 0)))]) (w' := W) (by kernel_rfl) ?_
        rcases two (decide (x1_0 > 0)) with c1 | c1
        · replace h := of_true h c1
          refine RunF.know 9 (b := true) (by kernel_rfl) c1 ?_
          refine RunF.go 10 [0, 1, 2, 7, 12] (k' := (pl Go.Proofs.Try.f18 [1, 1, 0, 0, 0, 1, 0, 0, 1])) (L' := [(0, .int .u8 x0_0), (1, .int .i64 x1_0), (2, .int .i64 a2), (7, .int .u8 x7_0), (12, .bool ((Int.tmod x1_0 2) == 1))]) (w' := W) (by kernel_rfl) ?_
          rcases two (((Int.tmod x1_0 2) == 1)) with c2 | c2
          · replace h := of_true h c2
            refine RunF.know 12 (b := true) (by kernel_rfl) c2 ?_
            refine RunF.go 5 [0, 1, 2, 13, 14, 15] (k' := (pin Go.Proofs.Try.f18 [1, 1, 0, 0, 0, 1, 0, 0, 1, 0] 3)) (L' := [(0, .int .u8 x0_0), (1, .int .i64 x1_0), (2, .int .i64 a2), (13, .int .u8 x7_0), (14, .int .u8 x0_0), (15, .int .i64 a2)]) (w' := W) (by kernel_rfl) ?_
            obtain ⟨t3, ht3, h⟩ := Option.bind_eq_some_iff.mp h
            refine RunF.call (d := some 16) (g := 16) (args := #[.int .u8 x7_0, .int .u8 x0_0, .int .i64 a2]) (k2 := (pin Go.Proofs.Try.f18 [1, 1, 0, 0, 0, 1, 0, 0, 1, 0] 4)) (by kernel_rfl) (scrimref3_Mul.calls k x7_0 x0_0 a2 t3 _ ht3) ?_
            rintro _ W4 ⟨rfl, hM_⟩
            replace hM := hM.call hM_
            clear hM_ ht3
            refine RunF.go 7 [1, 2, 7, 17, 18, 19] (k' := (pin Go.Proofs.Try.f18 [1, 1, 0, 0, 0, 1, 0, 1, 0] 3)) (L' := [(1, .int .i64 x1_0), (2, .int .i64 a2), (7, .int .u8 t3), (17, .int .u8 x0_0), (18, .int .u8 x0_0), (19, .int .i64 a2)]) (w' := W4) (by kernel_rfl) ?_
            obtain ⟨t5, ht5, h⟩ := Option.bind_eq_some_iff.mp h
            refine RunF.call (d := some 20) (g := 16) (args := #[.int .u8 x0_0, .int .u8 x0_0, .int .i64 a2]) (k2 := (pin Go.Proofs.Try.f18 [1, 1, 0, 0, 0, 1, 0, 1, 0] 4)) (by kernel_rfl) (scrimref3_Mul.calls k x0_0 x0_0 a2 t5 _ ht5) ?_
            rintro _ W6 ⟨rfl, hM_⟩
            replace hM := hM.call hM_
            clear hM_ ht5
            refine RunF.go 9 [0, 1, 2, 7] (k' := (pl Go.Proofs.Try.f18 [1, 1, 0, 0, 0])) (L' := [(0, .int .u8 t5), (1, .int .i64 (I64 (Int.tdiv x1_0 2))), (2, .int .i64 a2), (7, .int .u8 t3)]) (w' := W6) (by kernel_rfl) ?_
            exact ih0 k (by omega) t5 (I64 (Int.tdiv x1_0 2)) t3 _ (hM.pick [] rfl rfl) h
          · replace h := of_false h c2
            refine RunF.know 12 (b := false) (by kernel_rfl) c2 ?_
            refine RunF.go 7 [1, 2, 7, 17, 18, 19] (k' := (pin Go.Proofs.Try.f18 [1, 1, 0, 0, 0, 1, 0, 1, 0] 3)) (L' := [(1, .int .i64 x1_0), (2, .int .i64 a2), (7, .int .u8 x7_0), (17, .int .u8 x0_0), (18, .int .u8 x0_0), (19, .int .i64 a2)]) (w' := W) (by kernel_rfl) ?_
            obtain ⟨t7, ht7, h⟩ := Option.bind_eq_some_iff.mp h
            refine RunF.call (d := some 20) (g := 16) (args := #[.int .u8 x0_0, .int .u8 x0_0, .int .i64 a2]) (k2 := (pin Go.Proofs.Try.f18 [1, 1, 0, 0, 0, 1, 0, 1, 0] 4)) (by kernel_rfl) (scrimref3_Mul.calls k x0_0 x0_0 a2 t7 _ ht7) ?_
            rintro _ W8 ⟨rfl, hM_⟩
            replace hM := hM.call hM_
            clear hM_ ht7
            refine RunF.go 9 [0, 1, 2, 7] (k' := (pl Go.Proofs.Try.f18 [1, 1, 0, 0, 0])) (L' := [(0, .int .u8 t7), (1, .int .i64 (I64 (Int.tdiv x1_0 2))), (2, .int .i64 a2), (7, .int .u8 x7_0)]) (w' := W8) (by kernel_rfl) ?_
            exact ih0 k (by omega) t7 (I64 (Int.tdiv x1_0 2)) x7_0 _ (hM.pick [] rfl rfl) h
        · replace h := of_false h c1
          refine RunF.know 9 (b := false) (by kernel_rfl) c1 ?_
          refine RunF.go 7 [6] (k' := (pl Go.Proofs.Try.f18 [1, 1, 1, 1])) (L' := [(6, .int .u8 x7_0)]) (w' := W) (by kernel_rfl) ?_
          obtain rfl := Option.some.inj h
          exact RunF.ret1 6 (.int .u8 x7_0) (fn := Go.Proofs.Try.f18) Go.Proofs.Try.func18 (by kernel_rfl) (by kernel_rfl) (by kernel_rfl) ⟨_, rfl, rfl, (hM.pick [] rfl rfl)⟩
  exact l0 k (Nat.le_refl _) a0 a1 1 _ (hM.pick [] rfl rfl) h

/-! ### scrim/scrimref3.Inv: function 20 -/
def scrimref3_Inv.l0 : Nat → Int → Int → Int → Option (Int)
  | 0, _, _, _ => none
  | k + 1, a0, a1, x5_0 => if (decide (x5_0 < 256)) = true then ((scrimref3_Mul.f k a0 (U8 (x5_0)) a1).bind fun t2 => (if (t2 == 1) = true then (some (U8 (x5_0))) else (scrimref3_Inv.l0 k a0 a1 (I64 (x5_0 + 1))))) else (some 0)
def scrimref3_Inv.f (k : Nat) (a0 : Int) (a1 : Int) : Option (Int) := scrimref3_Inv.l0 k a0 a1 1
set_option maxRecDepth 100000 in
theorem scrimref3_Inv.calls (k : Nat) (a0 : Int) (a1 : Int) (r : Int) (w : World) (h : scrimref3_Inv.f k a0 a1 = some r) :
    Calls Go.Proofs.Try.prog 20 #[.int .u8 a0, .int .i64 a1] w (Ret fun v w' => v = .int .u8 r ∧ Mem w w' []) := by
  unfold scrimref3_Inv.f at h
  refine calls_of [.int .u8 a0, .int .i64 a1] (fn := Go.Proofs.Try.f20) Go.Proofs.Try.func20 (by kernel_rfl) (by kernel_rfl) ?_
  have hM := Mem.refl w
  refine RunF.go 11 [0, 1, 5] (k' := (pl Go.Proofs.Try.f20 [1, 0, 1, 0, 0])) (L' := [(0, .int .u8 a0), (1, .int .i64 a1), (5, .int .i64 1)]) (w' := w) (by kernel_rfl) ?_
  have l0 : ∀ (k_ : Nat), k_ ≤ k → ∀ (x5_0 : Int) (W : World) (hM : Mem w W []) (h : scrimref3_Inv.l0 k_ a0 a1 x5_0 = some r), RunF Go.Proofs.Try.prog (Ret fun v w' => v = .int .u8 r ∧ Mem w w' []) 20 (pl Go.Proofs.Try.f20 [1, 0, 1, 0, 0]) 18 [(0, .int .u8 a0), (1, .int .i64 a1), (5, .int .i64 x5_0)] W := by
    intro k_
    induction k_ using Nat.strongRecOn with
    | _ k_ ih0 =>
      intro hk x5_0 W hM h
      cases k_ with
      | zero => exact absurd h (by simp [scrimref3_Inv.l0])
      | succ k =>
        simp only [scrimref3_Inv.l0] at h
        replace ih0 : ∀ m, m ≤ k → _ := fun m hm => ih0 m (by omega) (by omega)
        refine RunF.go 6 [0, 1, 5, 7] (k' := (pl Go.Proofs.Try.f20 [1, 0, 1, 0, 0, 0, 1])) (L' := [(0, .int .u8 a0), (1, .int .i64 a1), (5, .int .i64 x5_0), (7, .bool (decide (x5_0 < 256)))]) (w' := W) (by kernel_rfl) ?_
        rcases two (decide (x5_0 < 256)) with c1 | c1
        · replace h := of_true h c1
          refine RunF.know 7 (b := true) (by kernel_rfl) c1 ?_
          refine RunF.go 10 [0, 1, 5, 10, 12, 13] (k' := (pin Go.Proofs.Try.f20 [1, 0, 1, 0, 0, 1, 0, 0, 0] 4)) (L' := [(0, .int .u8 a0), (1, .int .i64 a1), (5, .int .i64 x5_0), (10, .int .u8 a0), (12, .int .u8 (U8 (x5_0))), (13, .int .i64 a1)]) (w' := W) (by kernel_rfl) ?_
          obtain ⟨t2, ht2, h⟩ := Option.bind_eq_some_iff.mp h
          refine RunF.call (d := some 14) (g := 16) (args := #[.int .u8 a0, .int .u8 (U8 (x5_0)), .int .i64 a1]) (k2 := (pin Go.Proofs.Try.f20 [1, 0, 1, 0, 0, 1, 0, 0, 0] 5)) (by kernel_rfl) (scrimref3_Mul.calls k a0 (U8 (x5_0)) a1 t2 _ ht2) ?_
          rintro _ W3 ⟨rfl, hM_⟩
          replace hM := hM.call hM_
          clear hM_ ht2
          refine RunF.go 2 [0, 1, 5, 15] (k' := (pl Go.Proofs.Try.f20 [1, 0, 1, 0, 0, 1, 0, 0, 1])) (L' := [(0, .int .u8 a0), (1, .int .i64 a1), (5, .int .i64 x5_0), (15, .bool (t2 == 1))]) (w' := W3) (by kernel_rfl) ?_
          rcases two ((t2 == 1)) with c4 | c4
          · replace h := of_true h c4
            refine RunF.know 15 (b := true) (by kernel_rfl) c4 ?_
            refine RunF.go 7 [4] (k' := (pl Go.Proofs.Try.f20 [1, 0, 1, 0, 0, 1, 0, 0, 1, 0, 1])) (L' := [(4, .int .u8 (U8 (x5_0)))]) (w' := W3) (by kernel_rfl) ?_
            obtain rfl := Option.some.inj h
            exact RunF.ret1 4 (.int .u8 (U8 (x5_0))) (fn := Go.Proofs.Try.f20) Go.Proofs.Try.func20 (by kernel_rfl) (by kernel_rfl) (by kernel_rfl) ⟨_, rfl, rfl, (hM.pick [] rfl rfl)⟩
          · replace h := of_false h c4
            refine RunF.know 15 (b := false) (by kernel_rfl) c4 ?_
            refine RunF.go 9 [0, 1, 5] (k' := (pl Go.Proofs.Try.f20 [1, 0, 1, 0, 0])) (L' := [(0, .int .u8 a0), (1, .int .i64 a1), (5, .int .i64 (I64 (x5_0 + 1)))]) (w' := W3) (by kernel_rfl) ?_
            exact ih0 k (by omega) (I64 (x5_0 + 1)) _ (hM.pick [] rfl rfl) h
        · replace h := of_false h c1
          refine RunF.know 7 (b := false) (by kernel_rfl) c1 ?_
          refine RunF.go 6 [4] (k' := (pl Go.Proofs.Try.f20 [1, 1, 1])) (L' := [(4, .int .u8 0)]) (w' := W) (by kernel_rfl) ?_
          obtain rfl := Option.some.inj h
          exact RunF.ret1 4 (.int .u8 0) (fn := Go.Proofs.Try.f20) Go.Proofs.Try.func20 (by kernel_rfl) (by kernel_rfl) (by kernel_rfl) ⟨_, rfl, rfl, (hM.pick [] rfl rfl)⟩
  exact l0 k (Nat.le_refl _) 1 _ (hM.pick [] rfl rfl) h

/-! ### scrim/scrimlaw3.FieldAll: function 3 -/
def scrimlaw3_FieldAll.l0 : Nat → Int → Int → Int → Int → Int → Int → Option (Bool)
  | 0, _, _, _, _, _, _ => none
  | k + 1, a0, a1, a3, t4, t6, x10_0 => if (decide (x10_0 < 2)) = true then ((scrimlaw3_within.f k a3 1000001).bind fun t12 => (if (decide (0 ≤ x10_0)) = true then (if (decide (x10_0 < (2 : Int))) = true then (if (decide (0 ≤ x10_0)) = true then (if (decide (x10_0 < (2 : Int))) = true then ((field_Mul.f k a0 a1 (rd ([t4, I64 (256 + t6)] : List Int) x10_0)).bind fun t22 => ((scrimref3_Mul.f k a0 a1 (rd ([t4, I64 (256 + t6)] : List Int) x10_0)).bind fun t24 => (if (t22 != t24) = true then (some false) else (if (decide (0 ≤ x10_0)) = true then (if (decide (x10_0 < (2 : Int))) = true then (if (decide (0 ≤ x10_0)) = true then (if (decide (x10_0 < (2 : Int))) = true then ((field_Pow.f k a0 t12 (rd ([t4, I64 (256 + t6)] : List Int) x10_0)).bind fun t33 => ((scrimref3_Pow.f k a0 t12 (rd ([t4, I64 (256 + t6)] : List Int) x10_0)).bind fun t35 => (if (t33 != t35) = true then (some false) else (if (decide (0 ≤ x10_0)) = true then (if (decide (x10_0 < (2 : Int))) = true then (if (decide (0 ≤ x10_0)) = true then (if (decide (x10_0 < (2 : Int))) = true then ((field_Inv.f k a0 (rd ([t4, I64 (256 + t6)] : List Int) x10_0)).bind fun t44 => ((scrimref3_Inv.f k a0 (rd ([t4, I64 (256 + t6)] : List Int) x10_0)).bind fun t46 => (if (t44 != t46) = true then (some false) else (scrimlaw3_FieldAll.l0 k a0 a1 a3 t4 t6 (I64 (x10_0 + 1)))))) else (none)) else (none)) else (none)) else (none))))) else (none)) else (none)) else (none)) else (none))))) else (none)) else (none)) else (none)) else (none))) else (some true)
def scrimlaw3_FieldAll.f (k : Nat) (a0 : Int) (a1 : Int) (a2 : Int) (a3 : Int) : Option (Bool) := (scrimlaw3_known.f k).bind fun t1 => (if (!t1) = true then (some false) else ((scrimlaw3_Mod.f k a2).bind fun t4 => ((scrimlaw3_within.f k a2 256).bind fun t6 => (scrimlaw3_FieldAll.l0 k a0 a1 a3 t4 t6 0))))
set_option maxRecDepth 100000 in
theorem scrimlaw3_FieldAll.calls (k : Nat) (a0 : Int) (a1 : Int) (a2 : Int) (a3 : Int) (r : Bool) (w : World) (h : scrimlaw3_FieldAll.f k a0 a1 a2 a3 = some r) :
    Calls Go.Proofs.Try.prog 3 #[.int .u8 a0, .int .u8 a1, .int .i64 a2, .int .i64 a3] w (Ret fun v w' => v = .bool r ∧ Mem w w' []) := by
  unfold scrimlaw3_FieldAll.f at h
  refine calls_of [.int .u8 a0, .int .u8 a1, .int .i64 a2, .int .i64 a3] (fn := Go.Proofs.Try.f3) Go.Proofs.Try.func3 (by kernel_rfl) (by kernel_rfl) ?_
  have hM := Mem.refl w
  refine RunF.go 7 [0, 1, 2, 3] (k' := (pin Go.Proofs.Try.f3 [1, 0, 0] 0)) (L' := [(0, .int .u8 a0), (1, .int .u8 a1), (2, .int .i64 a2), (3, .int .i64 a3)]) (w' := w) (by kernel_rfl) ?_
  obtain ⟨t1, ht1, h⟩ := Option.bind_eq_some_iff.mp h
  refine RunF.call (d := some 12) (g := 12) (args := #[]) (k2 := (pin Go.Proofs.Try.f3 [1, 0, 0] 1)) (by kernel_rfl) (scrimlaw3_known.calls k t1 _ ht1) ?_
  rintro _ W2 ⟨rfl, hM_⟩
  replace hM := hM.call hM_
  clear hM_ ht1
  refine RunF.go 2 [0, 1, 2, 3, 13] (k' := (pl Go.Proofs.Try.f3 [1, 0, 1])) (L' := [(0, .int .u8 a0), (1, .int .u8 a1), (2, .int .i64 a2), (3, .int .i64 a3), (13, .bool (!t1))]) (w' := W2) (by kernel_rfl) ?_
  rcases two (!t1) with c3 | c3
  · replace h := of_true h c3
    refine RunF.know 13 (b := true) (by kernel_rfl) c3 ?_
    refine RunF.go 5 [8] (k' := (pl Go.Proofs.Try.f3 [1, 0, 1, 0, 1])) (L' := [(8, .bool false)]) (w' := W2) (by kernel_rfl) ?_
    obtain rfl := Option.some.inj h
    exact RunF.ret1 8 (.bool false) (fn := Go.Proofs.Try.f3) Go.Proofs.Try.func3 (by kernel_rfl) (by kernel_rfl) (by kernel_rfl) ⟨_, rfl, rfl, (hM.pick [] rfl rfl)⟩
  · replace h := of_false h c3
    refine RunF.know 13 (b := false) (by kernel_rfl) c3 ?_
    refine RunF.go 5 [0, 1, 2, 3, 14] (k' := (pin Go.Proofs.Try.f3 [1, 1, 0] 1)) (L' := [(0, .int .u8 a0), (1, .int .u8 a1), (2, .int .i64 a2), (3, .int .i64 a3), (14, .int .i64 a2)]) (w' := W2) (by kernel_rfl) ?_
    obtain ⟨t4, ht4, h⟩ := Option.bind_eq_some_iff.mp h
    refine RunF.call (d := some 15) (g := 13) (args := #[.int .i64 a2]) (k2 := (pin Go.Proofs.Try.f3 [1, 1, 0] 2)) (by kernel_rfl) (scrimlaw3_Mod.calls k a2 t4 _ ht4) ?_
    rintro _ W5 ⟨rfl, hM_⟩
    replace hM := hM.call hM_
    clear hM_ ht4
    refine RunF.go 1 [0, 1, 3, 15, 16] (k' := (pin Go.Proofs.Try.f3 [1, 1, 0] 3)) (L' := [(0, .int .u8 a0), (1, .int .u8 a1), (3, .int .i64 a3), (15, .int .i64 t4), (16, .int .i64 a2)]) (w' := W5) (by kernel_rfl) ?_
    obtain ⟨t6, ht6, h⟩ := Option.bind_eq_some_iff.mp h
    refine RunF.call (d := some 17) (g := 14) (args := #[.int .i64 a2, .int .i64 256]) (k2 := (pin Go.Proofs.Try.f3 [1, 1, 0] 4)) (by kernel_rfl) (scrimlaw3_within.calls k a2 256 t6 _ ht6) ?_
    rintro _ W7 ⟨rfl, hM_⟩
    replace hM := hM.call hM_
    clear hM_ ht6
    refine RunF.go 1 [0, 1, 3, 15, 18] (k' := (pin Go.Proofs.Try.f3 [1, 1, 0] 5)) (L' := [(0, .int .u8 a0), (1, .int .u8 a1), (3, .int .i64 a3), (15, .int .i64 t4), (18, .int .i64 (I64 (256 + t6)))]) (w' := W7) (by kernel_rfl) ?_
    refine RunF.new 3 1 2 (nums .i64 [t4, I64 (256 + t6)]) (d := some 19) (k2 := (pin Go.Proofs.Try.f3 [1, 1, 0] 6)) hM (by simp [nums, bools]) (by kernel_rfl) (by kernel_rfl) ?_
    replace hM := hM
    intro g8 W9 hM
    refine RunF.go 9 [0, 1, 3, 9, 10] (k' := (pl Go.Proofs.Try.f3 [1, 1, 1, 0, 1, 0, 0])) (L' := [(0, .int .u8 a0), (1, .int .u8 a1), (3, .int .i64 a3), (9, .slice (some ⟨g8, 0, none⟩) 2 2), (10, .int .i64 0)]) (w' := W9) (by kernel_rfl) ?_
    have l0 : ∀ (k_ : Nat), k_ ≤ k → ∀ (x10_0 : Int) (W : World) (hM : Mem w W [⟨.slice (some ⟨g8, 0, none⟩) 2 2, 3, 1, nums .i64 [t4, I64 (256 + t6)]⟩]) (h : scrimlaw3_FieldAll.l0 k_ a0 a1 a3 t4 t6 x10_0 = some r), RunF Go.Proofs.Try.prog (Ret fun v w' => v = .bool r ∧ Mem w w' []) 3 (pl Go.Proofs.Try.f3 [1, 1, 1, 0, 1, 0, 0]) 73 [(0, .int .u8 a0), (1, .int .u8 a1), (3, .int .i64 a3), (9, .slice (some ⟨g8, 0, none⟩) 2 2), (10, .int .i64 x10_0)] W := by
      intro k_
      induction k_ using Nat.strongRecOn with
      | _ k_ ih0 =>
        intro hk x10_0 W hM h
        cases k_ with
        | zero => exact absurd h (by simp [scrimlaw3_FieldAll.l0])
        | succ k =>
          simp only [scrimlaw3_FieldAll.l0] at h
          replace ih0 : ∀ m, m ≤ k → _ := fun m hm => ih0 m (by omega) (by omega)
          refine RunF.go 6 [0, 1, 3, 9, 10, 21] (k' := (pl Go.Proofs.Try.f3 [1, 1, 1, 0, 1, 0, 0, 0, 1])) (L' := [(0, .int .u8 a0), (1, .int .u8 a1), (3, .int .i64 a3), (9, .slice (some ⟨g8, 0, none⟩) 2 2), (10, .int .i64 x10_0), (21, .bool (decide (x10_0 < 2)))]) (w' := W) (by kernel_rfl) ?_
          rcases two (decide (x10_0 < 2)) with c11 | c11
          · replace h := of_true h c11
            refine RunF.know 21 (b := true) (by kernel_rfl) c11 ?_
            refine RunF.go 7 [0, 1, 3, 9, 10, 24] (k' := (pin Go.Proofs.Try.f3 [1, 1, 1, 0, 1, 0, 0, 1, 0, 0, 0] 1)) (L' := [(0, .int .u8 a0), (1, .int .u8 a1), (3, .int .i64 a3), (9, .slice (some ⟨g8, 0, none⟩) 2 2), (10, .int .i64 x10_0), (24, .int .i64 a3)]) (w' := W) (by kernel_rfl) ?_
            obtain ⟨t12, ht12, h⟩ := Option.bind_eq_some_iff.mp h
            refine RunF.call (d := some 25) (g := 14) (args := #[.int .i64 a3, .int .i64 1000001]) (k2 := (pin Go.Proofs.Try.f3 [1, 1, 1, 0, 1, 0, 0, 1, 0, 0, 0] 2)) (by kernel_rfl) (scrimlaw3_within.calls k a3 1000001 t12 _ ht12) ?_
            rintro _ W13 ⟨rfl, hM_⟩
            replace hM := hM.call hM_
            clear hM_ ht12
            refine RunF.go 3 [0, 1, 3, 9, 10, 11] (k' := (pl Go.Proofs.Try.f3 [1, 1, 1, 0, 1, 0, 0, 1, 0, 0, 1, 0])) (L' := [(0, .int .u8 a0), (1, .int .u8 a1), (3, .int .i64 a3), (9, .slice (some ⟨g8, 0, none⟩) 2 2), (10, .int .i64 x10_0), (11, .int .i64 t12)]) (w' := W13) (by kernel_rfl) ?_
            refine RunF.draw (Still ({ W13 with drawn := W13.drawn + 1 } : World) []) (by kernel_rfl) (by kernel_rfl) ?_
            have hMd15 := hM.drew
            have hS := Still.refl ({ W13 with drawn := W13.drawn + 1 } : World) []
            generalize ({ W13 with drawn := W13.drawn + 1 } : World) = W14 at hMd15 hS ⊢
            replace hM := hMd15
            refine RunAny.y 0 (by kernel_rfl) (yl_pure (d := some 26) (v := .int .u8 a0) (k2 := [.inRegion (opsOf (pl Go.Proofs.Try.f3 [1, 1, 1, 0, 1, 0, 0, 1, 0, 0, 1, 0])) []]) fun w => by kernel_rfl) (fun _ _ => trivial) hS ?_
            refine RunAny.y 1 (by kernel_rfl) (yl_pure (d := some 27) (v := .int .u8 a1) (k2 := [.inRegion (opsOf (pl Go.Proofs.Try.f3 [1, 1, 1, 0, 1, 0, 0, 1, 0, 0, 1, 0])) []]) fun w => by kernel_rfl) (fun _ _ => trivial) hS ?_
            refine RunAny.y 2 (by kernel_rfl) (yl_pure (d := some 28) (v := .slice (some ⟨g8, 0, none⟩) 2 2) (k2 := [.inRegion (opsOf (pl Go.Proofs.Try.f3 [1, 1, 1, 0, 1, 0, 0, 1, 0, 0, 1, 0])) []]) fun w => by kernel_rfl) (fun _ _ => trivial) hS ?_
            refine RunAny.y 3 (by kernel_rfl) (yl_pure (d := some 29) (v := .int .i64 x10_0) (k2 := [.inRegion (opsOf (pl Go.Proofs.Try.f3 [1, 1, 1, 0, 1, 0, 0, 1, 0, 0, 1, 0])) []]) fun w => by kernel_rfl) (fun _ _ => trivial) hS ?_
            rcases two (decide (0 ≤ x10_0)) with c17 | c17
            · replace h := of_true h c17
              rcases two (decide (x10_0 < (2 : Int))) with c18 | c18
              · replace h := of_true h c18
                obtain ⟨q16, hAq16, hcq16, hfq16, hlq16⟩ := hM.num_at 0 rfl (i := x10_0) (of_decide_eq_true c17) (by have h_ := of_decide_eq_true c18; omega)
                refine RunAny.y 4 (by kernel_rfl) (idx_own (d := some 30) (A := (some ⟨g8, 0, none⟩)) (m := 2) (i := x10_0) (k2 := [.inRegion (opsOf (pl Go.Proofs.Try.f3 [1, 1, 1, 0, 1, 0, 0, 1, 0, 0, 1, 0])) []]) (by kernel_rfl) (of_decide_eq_true c17) (by have h_ := of_decide_eq_true c18; omega) hAq16) (fun _ _ => trivial) hS ?_
                refine RunAny.y 5 (by kernel_rfl) (ld_y (d := some 31) (p := ⟨q16, (x10_0 : Int).toNat, none⟩) (k2 := [.inRegion (opsOf (pl Go.Proofs.Try.f3 [1, 1, 1, 0, 1, 0, 0, 1, 0, 0, 1, 0])) []]) (.int .i64 (rd ([t4, I64 (256 + t6)] : List Int) x10_0)) (by kernel_rfl)) (fun _ hs => hs.cell hcq16 (by simp)) hS ?_
                refine RunAny.y 7 (by kernel_rfl) (yl_pure (d := some 33) (v := .int .u8 a0) (k2 := [.inRegion (opsOf (pl Go.Proofs.Try.f3 [1, 1, 1, 0, 1, 0, 0, 1, 0, 0, 1, 0])) []]) fun w => by kernel_rfl) (fun _ _ => trivial) hS ?_
                refine RunAny.y 8 (by kernel_rfl) (yl_pure (d := some 34) (v := .int .u8 a1) (k2 := [.inRegion (opsOf (pl Go.Proofs.Try.f3 [1, 1, 1, 0, 1, 0, 0, 1, 0, 0, 1, 0])) []]) fun w => by kernel_rfl) (fun _ _ => trivial) hS ?_
                refine RunAny.y 9 (by kernel_rfl) (yl_pure (d := some 35) (v := .slice (some ⟨g8, 0, none⟩) 2 2) (k2 := [.inRegion (opsOf (pl Go.Proofs.Try.f3 [1, 1, 1, 0, 1, 0, 0, 1, 0, 0, 1, 0])) []]) fun w => by kernel_rfl) (fun _ _ => trivial) hS ?_
                refine RunAny.y 10 (by kernel_rfl) (yl_pure (d := some 36) (v := .int .i64 x10_0) (k2 := [.inRegion (opsOf (pl Go.Proofs.Try.f3 [1, 1, 1, 0, 1, 0, 0, 1, 0, 0, 1, 0])) []]) fun w => by kernel_rfl) (fun _ _ => trivial) hS ?_
                rcases two (decide (0 ≤ x10_0)) with c20 | c20
                · replace h := of_true h c20
                  rcases two (decide (x10_0 < (2 : Int))) with c21 | c21
                  · replace h := of_true h c21
                    obtain ⟨q19, hAq19, hcq19, hfq19, hlq19⟩ := hM.num_at 0 rfl (i := x10_0) (of_decide_eq_true c20) (by have h_ := of_decide_eq_true c21; omega)
                    refine RunAny.y 11 (by kernel_rfl) (idx_own (d := some 37) (A := (some ⟨g8, 0, none⟩)) (m := 2) (i := x10_0) (k2 := [.inRegion (opsOf (pl Go.Proofs.Try.f3 [1, 1, 1, 0, 1, 0, 0, 1, 0, 0, 1, 0])) []]) (by kernel_rfl) (of_decide_eq_true c20) (by have h_ := of_decide_eq_true c21; omega) hAq19) (fun _ _ => trivial) hS ?_
                    refine RunAny.y 12 (by kernel_rfl) (ld_y (d := some 38) (p := ⟨q19, (x10_0 : Int).toNat, none⟩) (k2 := [.inRegion (opsOf (pl Go.Proofs.Try.f3 [1, 1, 1, 0, 1, 0, 0, 1, 0, 0, 1, 0])) []]) (.int .i64 (rd ([t4, I64 (256 + t6)] : List Int) x10_0)) (by kernel_rfl)) (fun _ hs => hs.cell hcq19 (by simp)) hS ?_
                    obtain ⟨t22, ht22, h⟩ := Option.bind_eq_some_iff.mp h
                    refine RunAny.call 6 (d := some 32) (g := 15) (args := #[.int .u8 a0, .int .u8 a1, .int .i64 (rd ([t4, I64 (256 + t6)] : List Int) x10_0)]) (by kernel_rfl) (by kernel_rfl) (field_Mul.calls k a0 a1 (rd ([t4, I64 (256 + t6)] : List Int) x10_0) t22 _ ht22) (by rintro _ _ ⟨rfl, hM_⟩; exact hS.below hM_.below) ?_
                    rintro _ W23 ⟨rfl, hM_⟩
                    replace hS := hS.below hM_.below
                    replace hM := hM.call hM_
                    clear hM_ ht22
                    refine RunAny.rebase hS ?_
                    replace hS := Still.refl W23 []
                    obtain ⟨t24, ht24, h⟩ := Option.bind_eq_some_iff.mp h
                    refine RunAny.call 13 (d := some 39) (g := 16) (args := #[.int .u8 a0, .int .u8 a1, .int .i64 (rd ([t4, I64 (256 + t6)] : List Int) x10_0)]) (by kernel_rfl) (by kernel_rfl) (scrimref3_Mul.calls k a0 a1 (rd ([t4, I64 (256 + t6)] : List Int) x10_0) t24 _ ht24) (by rintro _ _ ⟨rfl, hM_⟩; exact hS.below hM_.below) ?_
                    rintro _ W25 ⟨rfl, hM_⟩
                    replace hS := hS.below hM_.below
                    replace hM := hM.call hM_
                    clear hM_ ht24
                    refine RunAny.rebase hS ?_
                    replace hS := Still.refl W25 []
                    refine RunAny.y 14 (by kernel_rfl) (yl_pure (d := some 40) (v := .bool (t22 != t24)) (k2 := [.inRegion (opsOf (pl Go.Proofs.Try.f3 [1, 1, 1, 0, 1, 0, 0, 1, 0, 0, 1, 0])) []]) fun w => by kernel_rfl) (fun _ _ => trivial) hS ?_
                    refine RunAny.y 15 (by kernel_rfl) (yl_pure (d := some 41) (v := .bool (t22 != t24)) (k2 := [.inRegion (opsOf (pl Go.Proofs.Try.f3 [1, 1, 1, 0, 1, 0, 0, 1, 0, 0, 1, 0])) []]) fun w => by kernel_rfl) (fun _ _ => trivial) hS ?_
                    rcases two ((t22 != t24)) with c26 | c26
                    · replace h := of_true h c26
                      refine RunAny.know 41 (b := true) (by kernel_rfl) c26 ?_
                      refine RunAny.off 16 (d := some 42) (by kernel_rfl) (by kernel_rfl) hS ?_
                      refine RunAny.off 17 (d := some 43) (by kernel_rfl) (by kernel_rfl) hS ?_
                      refine RunAny.off 18 (d := some 44) (by kernel_rfl) (by kernel_rfl) hS ?_
                      refine RunAny.off 19 (d := some 45) (by kernel_rfl) (by kernel_rfl) hS ?_
                      refine RunAny.off 20 (d := some 46) (by kernel_rfl) (by kernel_rfl) hS ?_
                      refine RunAny.off 21 (d := some 47) (by kernel_rfl) (by kernel_rfl) hS ?_
                      refine RunAny.off 22 (d := some 48) (by kernel_rfl) (by kernel_rfl) hS ?_
                      refine RunAny.off 23 (d := some 49) (by kernel_rfl) (by kernel_rfl) hS ?_
                      refine RunAny.off 24 (d := some 50) (by kernel_rfl) (by kernel_rfl) hS ?_
                      refine RunAny.off 25 (d := some 51) (by kernel_rfl) (by kernel_rfl) hS ?_
                      refine RunAny.off 26 (d := some 52) (by kernel_rfl) (by kernel_rfl) hS ?_
                      refine RunAny.off 27 (d := some 53) (by kernel_rfl) (by kernel_rfl) hS ?_
                      refine RunAny.off 28 (d := some 54) (by kernel_rfl) (by kernel_rfl) hS ?_
                      refine RunAny.off 29 (d := some 55) (by kernel_rfl) (by kernel_rfl) hS ?_
                      refine RunAny.off 30 (d := some 56) (by kernel_rfl) (by kernel_rfl) hS ?_
                      refine RunAny.y 31 (by kernel_rfl) (yl_pure (d := some 57) (v := .bool true) (k2 := [.inRegion (opsOf (pl Go.Proofs.Try.f3 [1, 1, 1, 0, 1, 0, 0, 1, 0, 0, 1, 0])) []]) fun w => by kernel_rfl) (fun _ _ => trivial) hS ?_
                      refine RunAny.y 32 (by kernel_rfl) (yl_pure (d := some 58) (v := .bool true) (k2 := [.inRegion (opsOf (pl Go.Proofs.Try.f3 [1, 1, 1, 0, 1, 0, 0, 1, 0, 0, 1, 0])) []]) fun w => by kernel_rfl) (fun _ _ => trivial) hS ?_
                      refine RunAny.off 33 (d := some 59) (by kernel_rfl) (by kernel_rfl) hS ?_
                      refine RunAny.off 34 (d := some 60) (by kernel_rfl) (by kernel_rfl) hS ?_
                      refine RunAny.off 35 (d := some 61) (by kernel_rfl) (by kernel_rfl) hS ?_
                      refine RunAny.off 36 (d := some 62) (by kernel_rfl) (by kernel_rfl) hS ?_
                      refine RunAny.off 37 (d := some 63) (by kernel_rfl) (by kernel_rfl) hS ?_
                      refine RunAny.off 38 (d := some 64) (by kernel_rfl) (by kernel_rfl) hS ?_
                      refine RunAny.off 39 (d := some 65) (by kernel_rfl) (by kernel_rfl) hS ?_
                      refine RunAny.off 40 (d := some 66) (by kernel_rfl) (by kernel_rfl) hS ?_
                      refine RunAny.off 41 (d := some 67) (by kernel_rfl) (by kernel_rfl) hS ?_
                      refine RunAny.off 42 (d := some 68) (by kernel_rfl) (by kernel_rfl) hS ?_
                      refine RunAny.off 43 (d := some 69) (by kernel_rfl) (by kernel_rfl) hS ?_
                      refine RunAny.off 44 (d := some 70) (by kernel_rfl) (by kernel_rfl) hS ?_
                      refine RunAny.off 45 (d := some 71) (by kernel_rfl) (by kernel_rfl) hS ?_
                      refine RunAny.y 46 (by kernel_rfl) (yl_pure (d := some 72) (v := .bool true) (k2 := [.inRegion (opsOf (pl Go.Proofs.Try.f3 [1, 1, 1, 0, 1, 0, 0, 1, 0, 0, 1, 0])) []]) fun w => by kernel_rfl) (fun _ _ => trivial) hS ?_
                      refine RunAny.done (by kernel_rfl) ?_
                      clear hS
                      refine RunF.go 5 [8] (k' := (pl Go.Proofs.Try.f3 [1, 1, 1, 0, 1, 0, 0, 1, 0, 0, 1, 1, 0, 1])) (L' := [(8, .bool false)]) (w' := W25) (by kernel_rfl) ?_
                      obtain rfl := Option.some.inj h
                      exact RunF.ret1 8 (.bool false) (fn := Go.Proofs.Try.f3) Go.Proofs.Try.func3 (by kernel_rfl) (by kernel_rfl) (by kernel_rfl) ⟨_, rfl, rfl, (hM.pick [] rfl rfl)⟩
                    · replace h := of_false h c26
                      refine RunAny.know 41 (b := false) (by kernel_rfl) c26 ?_
                      refine RunAny.y 16 (by kernel_rfl) (yl_pure (d := some 42) (v := .int .u8 a0) (k2 := [.inRegion (opsOf (pl Go.Proofs.Try.f3 [1, 1, 1, 0, 1, 0, 0, 1, 0, 0, 1, 0])) []]) fun w => by kernel_rfl) (fun _ _ => trivial) hS ?_
                      refine RunAny.y 17 (by kernel_rfl) (yl_pure (d := some 43) (v := .int .i64 t12) (k2 := [.inRegion (opsOf (pl Go.Proofs.Try.f3 [1, 1, 1, 0, 1, 0, 0, 1, 0, 0, 1, 0])) []]) fun w => by kernel_rfl) (fun _ _ => trivial) hS ?_
                      refine RunAny.y 18 (by kernel_rfl) (yl_pure (d := some 44) (v := .slice (some ⟨g8, 0, none⟩) 2 2) (k2 := [.inRegion (opsOf (pl Go.Proofs.Try.f3 [1, 1, 1, 0, 1, 0, 0, 1, 0, 0, 1, 0])) []]) fun w => by kernel_rfl) (fun _ _ => trivial) hS ?_
                      refine RunAny.y 19 (by kernel_rfl) (yl_pure (d := some 45) (v := .int .i64 x10_0) (k2 := [.inRegion (opsOf (pl Go.Proofs.Try.f3 [1, 1, 1, 0, 1, 0, 0, 1, 0, 0, 1, 0])) []]) fun w => by kernel_rfl) (fun _ _ => trivial) hS ?_
                      rcases two (decide (0 ≤ x10_0)) with c28 | c28
                      · replace h := of_true h c28
                        rcases two (decide (x10_0 < (2 : Int))) with c29 | c29
                        · replace h := of_true h c29
                          obtain ⟨q27, hAq27, hcq27, hfq27, hlq27⟩ := hM.num_at 0 rfl (i := x10_0) (of_decide_eq_true c28) (by have h_ := of_decide_eq_true c29; omega)
                          refine RunAny.y 20 (by kernel_rfl) (idx_own (d := some 46) (A := (some ⟨g8, 0, none⟩)) (m := 2) (i := x10_0) (k2 := [.inRegion (opsOf (pl Go.Proofs.Try.f3 [1, 1, 1, 0, 1, 0, 0, 1, 0, 0, 1, 0])) []]) (by kernel_rfl) (of_decide_eq_true c28) (by have h_ := of_decide_eq_true c29; omega) hAq27) (fun _ _ => trivial) hS ?_
                          refine RunAny.y 21 (by kernel_rfl) (ld_y (d := some 47) (p := ⟨q27, (x10_0 : Int).toNat, none⟩) (k2 := [.inRegion (opsOf (pl Go.Proofs.Try.f3 [1, 1, 1, 0, 1, 0, 0, 1, 0, 0, 1, 0])) []]) (.int .i64 (rd ([t4, I64 (256 + t6)] : List Int) x10_0)) (by kernel_rfl)) (fun _ hs => hs.cell hcq27 (by simp)) hS ?_
                          refine RunAny.y 23 (by kernel_rfl) (yl_pure (d := some 49) (v := .int .u8 a0) (k2 := [.inRegion (opsOf (pl Go.Proofs.Try.f3 [1, 1, 1, 0, 1, 0, 0, 1, 0, 0, 1, 0])) []]) fun w => by kernel_rfl) (fun _ _ => trivial) hS ?_
                          refine RunAny.y 24 (by kernel_rfl) (yl_pure (d := some 50) (v := .int .i64 t12) (k2 := [.inRegion (opsOf (pl Go.Proofs.Try.f3 [1, 1, 1, 0, 1, 0, 0, 1, 0, 0, 1, 0])) []]) fun w => by kernel_rfl) (fun _ _ => trivial) hS ?_
                          refine RunAny.y 25 (by kernel_rfl) (yl_pure (d := some 51) (v := .slice (some ⟨g8, 0, none⟩) 2 2) (k2 := [.inRegion (opsOf (pl Go.Proofs.Try.f3 [1, 1, 1, 0, 1, 0, 0, 1, 0, 0, 1, 0])) []]) fun w => by kernel_rfl) (fun _ _ => trivial) hS ?_
                          refine RunAny.y 26 (by kernel_rfl) (yl_pure (d := some 52) (v := .int .i64 x10_0) (k2 := [.inRegion (opsOf (pl Go.Proofs.Try.f3 [1, 1, 1, 0, 1, 0, 0, 1, 0, 0, 1, 0])) []]) fun w => by kernel_rfl) (fun _ _ => trivial) hS ?_
                          rcases two (decide (0 ≤ x10_0)) with c31 | c31
                          · replace h := of_true h c31
                            rcases two (decide (x10_0 < (2 : Int))) with c32 | c32
                            · replace h := of_true h c32
                              obtain ⟨q30, hAq30, hcq30, hfq30, hlq30⟩ := hM.num_at 0 rfl (i := x10_0) (of_decide_eq_true c31) (by have h_ := of_decide_eq_true c32; omega)
                              refine RunAny.y 27 (by kernel_rfl) (idx_own (d := some 53) (A := (some ⟨g8, 0, none⟩)) (m := 2) (i := x10_0) (k2 := [.inRegion (opsOf (pl Go.Proofs.Try.f3 [1, 1, 1, 0, 1, 0, 0, 1, 0, 0, 1, 0])) []]) (by kernel_rfl) (of_decide_eq_true c31) (by have h_ := of_decide_eq_true c32; omega) hAq30) (fun _ _ => trivial) hS ?_
                              refine RunAny.y 28 (by kernel_rfl) (ld_y (d := some 54) (p := ⟨q30, (x10_0 : Int).toNat, none⟩) (k2 := [.inRegion (opsOf (pl Go.Proofs.Try.f3 [1, 1, 1, 0, 1, 0, 0, 1, 0, 0, 1, 0])) []]) (.int .i64 (rd ([t4, I64 (256 + t6)] : List Int) x10_0)) (by kernel_rfl)) (fun _ hs => hs.cell hcq30 (by simp)) hS ?_
                              obtain ⟨t33, ht33, h⟩ := Option.bind_eq_some_iff.mp h
                              refine RunAny.call 22 (d := some 48) (g := 17) (args := #[.int .u8 a0, .int .i64 t12, .int .i64 (rd ([t4, I64 (256 + t6)] : List Int) x10_0)]) (by kernel_rfl) (by kernel_rfl) (field_Pow.calls k a0 t12 (rd ([t4, I64 (256 + t6)] : List Int) x10_0) t33 _ ht33) (by rintro _ _ ⟨rfl, hM_⟩; exact hS.below hM_.below) ?_
                              rintro _ W34 ⟨rfl, hM_⟩
                              replace hS := hS.below hM_.below
                              replace hM := hM.call hM_
                              clear hM_ ht33
                              refine RunAny.rebase hS ?_
                              replace hS := Still.refl W34 []
                              obtain ⟨t35, ht35, h⟩ := Option.bind_eq_some_iff.mp h
                              refine RunAny.call 29 (d := some 55) (g := 18) (args := #[.int .u8 a0, .int .i64 t12, .int .i64 (rd ([t4, I64 (256 + t6)] : List Int) x10_0)]) (by kernel_rfl) (by kernel_rfl) (scrimref3_Pow.calls k a0 t12 (rd ([t4, I64 (256 + t6)] : List Int) x10_0) t35 _ ht35) (by rintro _ _ ⟨rfl, hM_⟩; exact hS.below hM_.below) ?_
                              rintro _ W36 ⟨rfl, hM_⟩
                              replace hS := hS.below hM_.below
                              replace hM := hM.call hM_
                              clear hM_ ht35
                              refine RunAny.rebase hS ?_
                              replace hS := Still.refl W36 []
                              refine RunAny.y 30 (by kernel_rfl) (yl_pure (d := some 56) (v := .bool (t33 != t35)) (k2 := [.inRegion (opsOf (pl Go.Proofs.Try.f3 [1, 1, 1, 0, 1, 0, 0, 1, 0, 0, 1, 0])) []]) fun w => by kernel_rfl) (fun _ _ => trivial) hS ?_
                              refine RunAny.y 31 (by kernel_rfl) (yl_pure (d := some 57) (v := .bool (t33 != t35)) (k2 := [.inRegion (opsOf (pl Go.Proofs.Try.f3 [1, 1, 1, 0, 1, 0, 0, 1, 0, 0, 1, 0])) []]) fun w => by kernel_rfl) (fun _ _ => trivial) hS ?_
                              refine RunAny.y 32 (by kernel_rfl) (yl_pure (d := some 58) (v := .bool (t33 != t35)) (k2 := [.inRegion (opsOf (pl Go.Proofs.Try.f3 [1, 1, 1, 0, 1, 0, 0, 1, 0, 0, 1, 0])) []]) fun w => by kernel_rfl) (fun _ _ => trivial) hS ?_
                              rcases two ((t33 != t35)) with c37 | c37
                              · replace h := of_true h c37
                                refine RunAny.know 58 (b := true) (by kernel_rfl) c37 ?_
                                refine RunAny.off 33 (d := some 59) (by kernel_rfl) (by kernel_rfl) hS ?_
                                refine RunAny.off 34 (d := some 60) (by kernel_rfl) (by kernel_rfl) hS ?_
                                refine RunAny.off 35 (d := some 61) (by kernel_rfl) (by kernel_rfl) hS ?_
                                refine RunAny.off 36 (d := some 62) (by kernel_rfl) (by kernel_rfl) hS ?_
                                refine RunAny.off 37 (d := some 63) (by kernel_rfl) (by kernel_rfl) hS ?_
                                refine RunAny.off 38 (d := some 64) (by kernel_rfl) (by kernel_rfl) hS ?_
                                refine RunAny.off 39 (d := some 65) (by kernel_rfl) (by kernel_rfl) hS ?_
                                refine RunAny.off 40 (d := some 66) (by kernel_rfl) (by kernel_rfl) hS ?_
                                refine RunAny.off 41 (d := some 67) (by kernel_rfl) (by kernel_rfl) hS ?_
                                refine RunAny.off 42 (d := some 68) (by kernel_rfl) (by kernel_rfl) hS ?_
                                refine RunAny.off 43 (d := some 69) (by kernel_rfl) (by kernel_rfl) hS ?_
                                refine RunAny.off 44 (d := some 70) (by kernel_rfl) (by kernel_rfl) hS ?_
                                refine RunAny.off 45 (d := some 71) (by kernel_rfl) (by kernel_rfl) hS ?_
                                refine RunAny.y 46 (by kernel_rfl) (yl_pure (d := some 72) (v := .bool true) (k2 := [.inRegion (opsOf (pl Go.Proofs.Try.f3 [1, 1, 1, 0, 1, 0, 0, 1, 0, 0, 1, 0])) []]) fun w => by kernel_rfl) (fun _ _ => trivial) hS ?_
                                refine RunAny.done (by kernel_rfl) ?_
                                clear hS
                                refine RunF.go 5 [8] (k' := (pl Go.Proofs.Try.f3 [1, 1, 1, 0, 1, 0, 0, 1, 0, 0, 1, 1, 0, 1])) (L' := [(8, .bool false)]) (w' := W36) (by kernel_rfl) ?_
                                obtain rfl := Option.some.inj h
                                exact RunF.ret1 8 (.bool false) (fn := Go.Proofs.Try.f3) Go.Proofs.Try.func3 (by kernel_rfl) (by kernel_rfl) (by kernel_rfl) ⟨_, rfl, rfl, (hM.pick [] rfl rfl)⟩
                              · replace h := of_false h c37
                                refine RunAny.know 58 (b := false) (by kernel_rfl) c37 ?_
                                refine RunAny.y 33 (by kernel_rfl) (yl_pure (d := some 59) (v := .int .u8 a0) (k2 := [.inRegion (opsOf (pl Go.Proofs.Try.f3 [1, 1, 1, 0, 1, 0, 0, 1, 0, 0, 1, 0])) []]) fun w => by kernel_rfl) (fun _ _ => trivial) hS ?_
                                refine RunAny.y 34 (by kernel_rfl) (yl_pure (d := some 60) (v := .slice (some ⟨g8, 0, none⟩) 2 2) (k2 := [.inRegion (opsOf (pl Go.Proofs.Try.f3 [1, 1, 1, 0, 1, 0, 0, 1, 0, 0, 1, 0])) []]) fun w => by kernel_rfl) (fun _ _ => trivial) hS ?_
                                refine RunAny.y 35 (by kernel_rfl) (yl_pure (d := some 61) (v := .int .i64 x10_0) (k2 := [.inRegion (opsOf (pl Go.Proofs.Try.f3 [1, 1, 1, 0, 1, 0, 0, 1, 0, 0, 1, 0])) []]) fun w => by kernel_rfl) (fun _ _ => trivial) hS ?_
                                rcases two (decide (0 ≤ x10_0)) with c39 | c39
                                · replace h := of_true h c39
                                  rcases two (decide (x10_0 < (2 : Int))) with c40 | c40
                                  · replace h := of_true h c40
                                    obtain ⟨q38, hAq38, hcq38, hfq38, hlq38⟩ := hM.num_at 0 rfl (i := x10_0) (of_decide_eq_true c39) (by have h_ := of_decide_eq_true c40; omega)
                                    refine RunAny.y 36 (by kernel_rfl) (idx_own (d := some 62) (A := (some ⟨g8, 0, none⟩)) (m := 2) (i := x10_0) (k2 := [.inRegion (opsOf (pl Go.Proofs.Try.f3 [1, 1, 1, 0, 1, 0, 0, 1, 0, 0, 1, 0])) []]) (by kernel_rfl) (of_decide_eq_true c39) (by have h_ := of_decide_eq_true c40; omega) hAq38) (fun _ _ => trivial) hS ?_
                                    refine RunAny.y 37 (by kernel_rfl) (ld_y (d := some 63) (p := ⟨q38, (x10_0 : Int).toNat, none⟩) (k2 := [.inRegion (opsOf (pl Go.Proofs.Try.f3 [1, 1, 1, 0, 1, 0, 0, 1, 0, 0, 1, 0])) []]) (.int .i64 (rd ([t4, I64 (256 + t6)] : List Int) x10_0)) (by kernel_rfl)) (fun _ hs => hs.cell hcq38 (by simp)) hS ?_
                                    refine RunAny.y 39 (by kernel_rfl) (yl_pure (d := some 65) (v := .int .u8 a0) (k2 := [.inRegion (opsOf (pl Go.Proofs.Try.f3 [1, 1, 1, 0, 1, 0, 0, 1, 0, 0, 1, 0])) []]) fun w => by kernel_rfl) (fun _ _ => trivial) hS ?_
                                    refine RunAny.y 40 (by kernel_rfl) (yl_pure (d := some 66) (v := .slice (some ⟨g8, 0, none⟩) 2 2) (k2 := [.inRegion (opsOf (pl Go.Proofs.Try.f3 [1, 1, 1, 0, 1, 0, 0, 1, 0, 0, 1, 0])) []]) fun w => by kernel_rfl) (fun _ _ => trivial) hS ?_
                                    refine RunAny.y 41 (by kernel_rfl) (yl_pure (d := some 67) (v := .int .i64 x10_0) (k2 := [.inRegion (opsOf (pl Go.Proofs.Try.f3 [1, 1, 1, 0, 1, 0, 0, 1, 0, 0, 1, 0])) []]) fun w => by kernel_rfl) (fun _ _ => trivial) hS ?_
                                    rcases two (decide (0 ≤ x10_0)) with c42 | c42
                                    · replace h := of_true h c42
                                      rcases two (decide (x10_0 < (2 : Int))) with c43 | c43
                                      · replace h := of_true h c43
                                        obtain ⟨q41, hAq41, hcq41, hfq41, hlq41⟩ := hM.num_at 0 rfl (i := x10_0) (of_decide_eq_true c42) (by have h_ := of_decide_eq_true c43; omega)
                                        refine RunAny.y 42 (by kernel_rfl) (idx_own (d := some 68) (A := (some ⟨g8, 0, none⟩)) (m := 2) (i := x10_0) (k2 := [.inRegion (opsOf (pl Go.Proofs.Try.f3 [1, 1, 1, 0, 1, 0, 0, 1, 0, 0, 1, 0])) []]) (by kernel_rfl) (of_decide_eq_true c42) (by have h_ := of_decide_eq_true c43; omega) hAq41) (fun _ _ => trivial) hS ?_
                                        refine RunAny.y 43 (by kernel_rfl) (ld_y (d := some 69) (p := ⟨q41, (x10_0 : Int).toNat, none⟩) (k2 := [.inRegion (opsOf (pl Go.Proofs.Try.f3 [1, 1, 1, 0, 1, 0, 0, 1, 0, 0, 1, 0])) []]) (.int .i64 (rd ([t4, I64 (256 + t6)] : List Int) x10_0)) (by kernel_rfl)) (fun _ hs => hs.cell hcq41 (by simp)) hS ?_
                                        obtain ⟨t44, ht44, h⟩ := Option.bind_eq_some_iff.mp h
                                        refine RunAny.call 38 (d := some 64) (g := 19) (args := #[.int .u8 a0, .int .i64 (rd ([t4, I64 (256 + t6)] : List Int) x10_0)]) (by kernel_rfl) (by kernel_rfl) (field_Inv.calls k a0 (rd ([t4, I64 (256 + t6)] : List Int) x10_0) t44 _ ht44) (by rintro _ _ ⟨rfl, hM_⟩; exact hS.below hM_.below) ?_
                                        rintro _ W45 ⟨rfl, hM_⟩
                                        replace hS := hS.below hM_.below
                                        replace hM := hM.call hM_
                                        clear hM_ ht44
                                        refine RunAny.rebase hS ?_
                                        replace hS := Still.refl W45 []
                                        obtain ⟨t46, ht46, h⟩ := Option.bind_eq_some_iff.mp h
                                        refine RunAny.call 44 (d := some 70) (g := 20) (args := #[.int .u8 a0, .int .i64 (rd ([t4, I64 (256 + t6)] : List Int) x10_0)]) (by kernel_rfl) (by kernel_rfl) (scrimref3_Inv.calls k a0 (rd ([t4, I64 (256 + t6)] : List Int) x10_0) t46 _ ht46) (by rintro _ _ ⟨rfl, hM_⟩; exact hS.below hM_.below) ?_
                                        rintro _ W47 ⟨rfl, hM_⟩
                                        replace hS := hS.below hM_.below
                                        replace hM := hM.call hM_
                                        clear hM_ ht46
                                        refine RunAny.rebase hS ?_
                                        replace hS := Still.refl W47 []
                                        refine RunAny.y 45 (by kernel_rfl) (yl_pure (d := some 71) (v := .bool (t44 != t46)) (k2 := [.inRegion (opsOf (pl Go.Proofs.Try.f3 [1, 1, 1, 0, 1, 0, 0, 1, 0, 0, 1, 0])) []]) fun w => by kernel_rfl) (fun _ _ => trivial) hS ?_
                                        refine RunAny.y 46 (by kernel_rfl) (yl_pure (d := some 72) (v := .bool (t44 != t46)) (k2 := [.inRegion (opsOf (pl Go.Proofs.Try.f3 [1, 1, 1, 0, 1, 0, 0, 1, 0, 0, 1, 0])) []]) fun w => by kernel_rfl) (fun _ _ => trivial) hS ?_
                                        refine RunAny.done (by kernel_rfl) ?_
                                        clear hS
                                        rcases two ((t44 != t46)) with c48 | c48
                                        · replace h := of_true h c48
                                          refine RunF.know 72 (b := true) (by kernel_rfl) c48 ?_
                                          refine RunF.go 5 [8] (k' := (pl Go.Proofs.Try.f3 [1, 1, 1, 0, 1, 0, 0, 1, 0, 0, 1, 1, 0, 1])) (L' := [(8, .bool false)]) (w' := W47) (by kernel_rfl) ?_
                                          obtain rfl := Option.some.inj h
                                          exact RunF.ret1 8 (.bool false) (fn := Go.Proofs.Try.f3) Go.Proofs.Try.func3 (by kernel_rfl) (by kernel_rfl) (by kernel_rfl) ⟨_, rfl, rfl, (hM.pick [] rfl rfl)⟩
                                        · replace h := of_false h c48
                                          refine RunF.know 72 (b := false) (by kernel_rfl) c48 ?_
                                          refine RunF.go 9 [0, 1, 3, 9, 10] (k' := (pl Go.Proofs.Try.f3 [1, 1, 1, 0, 1, 0, 0])) (L' := [(0, .int .u8 a0), (1, .int .u8 a1), (3, .int .i64 a3), (9, .slice (some ⟨g8, 0, none⟩) 2 2), (10, .int .i64 (I64 (x10_0 + 1)))]) (w' := W47) (by kernel_rfl) ?_
                                          exact ih0 k (by omega) (I64 (x10_0 + 1)) _ (hM.pick [0] rfl rfl) h
                                      · replace h := of_false h c43
                                        cases h
                                    · replace h := of_false h c42
                                      cases h
                                  · replace h := of_false h c40
                                    cases h
                                · replace h := of_false h c39
                                  cases h
                            · replace h := of_false h c32
                              cases h
                          · replace h := of_false h c31
                            cases h
                        · replace h := of_false h c29
                          cases h
                      · replace h := of_false h c28
                        cases h
                  · replace h := of_false h c21
                    cases h
                · replace h := of_false h c20
                  cases h
              · replace h := of_false h c18
                cases h
            · replace h := of_false h c17
              cases h
          · replace h := of_false h c11
            refine RunF.know 21 (b := false) (by kernel_rfl) c11 ?_
            refine RunF.go 6 [8] (k' := (pl Go.Proofs.Try.f3 [1, 1, 1, 1, 1])) (L' := [(8, .bool true)]) (w' := W) (by kernel_rfl) ?_
            obtain rfl := Option.some.inj h
            exact RunF.ret1 8 (.bool true) (fn := Go.Proofs.Try.f3) Go.Proofs.Try.func3 (by kernel_rfl) (by kernel_rfl) (by kernel_rfl) ⟨_, rfl, rfl, (hM.pick [] rfl rfl)⟩
    exact l0 k (Nat.le_refl _) 0 _ (hM.pick [0] rfl rfl) h


end Go.Scr.S
