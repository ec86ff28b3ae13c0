/- The functions that the law TwofishWords reaches, as plain functions, and that each call answers so. -/
import Derived.Test.YtngagagokcnnaaaProg
import Derived.Test.YtngagagokcnnaaaFnTwofishWords2
set_option linter.unusedVariables false
set_option linter.unusedSimpArgs false
set_option linter.unnecessarySimpa false
namespace Go.Scr.S
open Go.RowKit (Below)
/-! ### scrim/scrimlaw9.key: function 10 -/
def scrimlaw9_key.f (k : Nat) (a0 : List Int) (a1 : Int) : Option (List Int) := (scrimlaw9_within.f k a1 3).bind fun t5 => (if (decide (0 ≤ t5)) = true then (if (decide (t5 < (3 : Int))) = true then ((scrimlaw9_Bytes.f k (rd ([16, 24, 32] : List Int) t5) a0).bind fun t10 => (some t10)) else (none)) else (none))
set_option maxRecDepth 100000 in
theorem scrimlaw9_key.calls (k : Nat) (Ap0 : Option Addr) (np0 cp0 : Nat) (a0 : List Int) (a1 : Int) (r : List Int) (w : World) (hr0 : Rd w (.slice Ap0 np0 cp0) (nums .u8 a0)) (h : scrimlaw9_key.f k a0 a1 = some r) :
    Calls Go.Proofs.Try.prog 10 #[(.slice Ap0 np0 cp0), .int .i64 a1] w (Ret fun v w' => ∃ A0' n0' c0', v = .slice A0' n0' c0' ∧ Mem w w' [⟨.slice A0' n0' c0', 5, 1, nums .u8 r⟩]) := by
  obtain rfl : a0.length = np0 := by have h_ := hr0.1; simpa [nums_length, bools_length, strs_length] using h_
  unfold scrimlaw9_key.f at h
  refine calls_of [.slice Ap0 a0.length cp0, .int .i64 a1] (fn := Go.Proofs.Try.f10) Go.Proofs.Try.func10 (by kernel_rfl) (by kernel_rfl) ?_
  have hM := Mem.refl w
  refine RunF.go 6 [0, 1] (k' := (pin Go.Proofs.Try.f10 [1, 0] 0)) (L' := [(0, .slice Ap0 a0.length cp0), (1, .int .i64 a1)]) (w' := w) (by kernel_rfl) ?_
  refine RunF.new 3 1 3 (nums .i64 [16, 24, 32]) (d := some 5) (k2 := (pin Go.Proofs.Try.f10 [1, 0] 1)) hM (by simp [nums, bools, strs]) (by kernel_rfl) (by kernel_rfl) ?_
  replace hM := hM
  intro g1 W2 hM
  refine RunF.go 1 [0, 5, 6] (k' := (pin Go.Proofs.Try.f10 [1, 0] 2)) (L' := [(0, .slice Ap0 a0.length cp0), (5, .slice (some ⟨g1, 0, none⟩) 3 3), (6, .int .i64 a1)]) (w' := W2) (by kernel_rfl) ?_
  obtain ⟨t5, ht5, h⟩ := Option.bind_eq_some_iff.mp h
  refine RunF.call (d := some 7) (g := 13) (args := #[.int .i64 a1, .int .i64 3]) (k2 := (pin Go.Proofs.Try.f10 [1, 0] 3)) (by kernel_rfl) (scrimlaw9_within.calls k a1 3 t5 _ ht5) ?_
  rintro _ W4 ⟨rfl, hM_⟩
  replace hM := hM.call hM_
  clear hM_ ht5
  rcases two (decide (0 ≤ t5)) with c7 | c7
  · replace h := of_true h c7
    rcases two (decide (t5 < (3 : Int))) with c8 | c8
    · replace h := of_true h c8
      obtain ⟨q6, hAq6, hcq6, hfq6, hlq6⟩ := hM.num_at 0 rfl (i := t5) (of_decide_eq_true c7) (by have h_ := of_decide_eq_true c8; omega)
      refine RunF.y (idx_own (d := some 8) (A := (some ⟨g1, 0, none⟩)) (m := 3) (i := t5) (k2 := (pin Go.Proofs.Try.f10 [1, 0] 4)) (by kernel_rfl) (of_decide_eq_true c7) (by have h_ := of_decide_eq_true c8; omega) hAq6) trivial ?_
      refine RunF.y (ld_y (d := some 9) (p := ⟨q6, (t5 : Int).toNat, none⟩) (k2 := (pin Go.Proofs.Try.f10 [1, 0] 5)) (.int .i64 (rd ([16, 24, 32] : List Int) t5)) (by kernel_rfl)) hcq6 ?_
      refine RunF.go 1 [9, 10] (k' := (pin Go.Proofs.Try.f10 [1, 0] 6)) (L' := [(9, .int .i64 (rd ([16, 24, 32] : List Int) t5)), (10, .slice Ap0 a0.length cp0)]) (w' := W4) (by kernel_rfl) ?_
      obtain ⟨t10, ht10, h⟩ := Option.bind_eq_some_iff.mp h
      refine RunF.call (d := some 11) (g := 19) (args := #[.int .i64 (rd ([16, 24, 32] : List Int) t5), .slice Ap0 a0.length cp0]) (k2 := (pin Go.Proofs.Try.f10 [1, 0] 7)) (by kernel_rfl) (scrimlaw9_Bytes.calls k (rd ([16, 24, 32] : List Int) t5) Ap0 a0.length cp0 a0 t10 _ (hr0.mono hM.below) ht10) ?_
      rintro _ W9 ⟨A11, n12, c13, rfl, hM_⟩
      obtain rfl : t10.length = n12 := by have h_ := (hM_.rd 0 rfl).1; simpa [nums_length, bools_length, strs_length] using h_
      replace hM := hM.call hM_
      clear hM_ ht10
      refine RunF.go 2 [4] (k' := (pl Go.Proofs.Try.f10 [1, 1])) (L' := [(4, .slice A11 t10.length c13)]) (w' := W9) (by kernel_rfl) ?_
      obtain rfl := Option.some.inj h
      exact RunF.ret1 4 (.slice A11 t10.length c13) (fn := Go.Proofs.Try.f10) Go.Proofs.Try.func10 (by kernel_rfl) (by kernel_rfl) (by kernel_rfl) ⟨_, rfl, A11, t10.length, c13, rfl, (hM.pick [0] rfl rfl)⟩
    · replace h := of_false h c8
      cases h
  · replace h := of_false h c7
    cases h

/-! ### scrim/scrimref1.Little: function 20 -/
def scrimref1_Little.l0 : Nat → (List Int) → Int → Int → Option (Int)
  | 0, _, _, _ => none
  | k + 1, a0, x3_0, x4_0 => if (decide (x4_0 > 0)) = true then (if (decide (0 ≤ (I64 (x4_0 - 1)))) = true then (if (decide ((I64 (x4_0 - 1)) < (a0.length : Int))) = true then ((some (bor .u64 (shl .u64 x3_0 8) (U64 (rd a0 (I64 (x4_0 - 1)))) : Int)).bind fun y5 => (scrimref1_Little.l0 k a0 y5 (I64 (x4_0 - 1)))) else (none)) else (none)) else (some x3_0)
def scrimref1_Little.f (k : Nat) (a0 : List Int) : Option (Int) := scrimref1_Little.l0 k a0 0 (a0.length : Int)
set_option maxRecDepth 100000 in
theorem scrimref1_Little.calls (k : Nat) (Ap0 : Option Addr) (np0 cp0 : Nat) (a0 : List Int) (r : Int) (w : World) (hr0 : Rd w (.slice Ap0 np0 cp0) (nums .u8 a0)) (h : scrimref1_Little.f k a0 = some r) :
    Calls Go.Proofs.Try.prog 20 #[(.slice Ap0 np0 cp0)] w (Ret fun v w' => v = .int .u64 r ∧ Mem w w' []) := by
  obtain rfl : a0.length = np0 := by have h_ := hr0.1; simpa [nums_length, bools_length, strs_length] using h_
  unfold scrimref1_Little.f at h
  refine calls_of [.slice Ap0 a0.length cp0] (fn := Go.Proofs.Try.f20) Go.Proofs.Try.func20 (by kernel_rfl) (by kernel_rfl) ?_
  have hM := Mem.refl w
  refine RunF.go 17 [0, 3, 4] (k' := (pl Go.Proofs.Try.f20 [1, 1, 0, 1, 0, 0])) (L' := [(0, .slice Ap0 a0.length cp0), (3, .int .u64 0), (4, .int .i64 (a0.length : Int))]) (w' := w) (by kernel_rfl) ?_
  have l0 : ∀ (k_ : Nat), k_ ≤ k → ∀ (x3_0 : Int) (x4_0 : Int) (W : World) (hM : Mem w W []) (h : scrimref1_Little.l0 k_ a0 x3_0 x4_0 = some r), RunF Go.Proofs.Try.prog (Ret fun v w' => v = .int .u64 r ∧ Mem w w' []) 20 (pl Go.Proofs.Try.f20 [1, 1, 0, 1, 0, 0]) 21 [(0, .slice Ap0 a0.length cp0), (3, .int .u64 x3_0), (4, .int .i64 x4_0)] W := by
    intro k_
    induction k_ using Nat.strongRecOn with
    | _ k_ ih0 =>
      intro hk x3_0 x4_0 W hM h
      cases k_ with
      | zero => exact absurd h (by simp [scrimref1_Little.l0])
      | succ k =>
        simp only [scrimref1_Little.l0] at h
        replace ih0 : ∀ m, m ≤ k → _ := fun m hm => ih0 m (by omega) (by omega)
        refine RunF.go 6 [0, 3, 4, 8] (k' := (pl Go.Proofs.Try.f20 [1, 1, 0, 1, 0, 0, 0, 1])) (L' := [(0, .slice Ap0 a0.length cp0), (3, .int .u64 x3_0), (4, .int .i64 x4_0), (8, .bool (decide (x4_0 > 0)))]) (w' := W) (by kernel_rfl) ?_
        rcases two (decide (x4_0 > 0)) with c1 | c1
        · replace h := of_true h c1
          refine RunF.know 8 (b := true) (by kernel_rfl) c1 ?_
          refine RunF.go 10 [0, 4, 12, 13, 15] (k' := (pin Go.Proofs.Try.f20 [1, 1, 0, 1, 0, 0, 1, 0, 0] 5)) (L' := [(0, .slice Ap0 a0.length cp0), (4, .int .i64 x4_0), (12, .int .u64 (shl .u64 x3_0 8)), (13, .slice Ap0 a0.length cp0), (15, .int .i64 (I64 (x4_0 - 1)))]) (w' := W) (by kernel_rfl) ?_
          rcases two (decide (0 ≤ (I64 (x4_0 - 1)))) with c3 | c3
          · replace h := of_true h c3
            rcases two (decide ((I64 (x4_0 - 1)) < (a0.length : Int))) with c4 | c4
            · replace h := of_true h c4
              obtain ⟨q2, hAq2, hcq2⟩ := Rd.num (hr0.mono hM.below) (i := I64 (x4_0 - 1)) (of_decide_eq_true c3) (by have h_ := of_decide_eq_true c4; omega)
              refine RunF.y (idx_y (d := some 16) (A := Ap0) (m := a0.length) (i := I64 (x4_0 - 1)) (k2 := (pin Go.Proofs.Try.f20 [1, 1, 0, 1, 0, 0, 1, 0, 0] 6)) (by kernel_rfl) (of_decide_eq_true c3) (by have h_ := of_decide_eq_true c4; omega) hAq2) trivial ?_
              refine RunF.y (ld_y (d := some 17) (p := (q2.add (I64 (x4_0 - 1) : Int).toNat)) (k2 := (pin Go.Proofs.Try.f20 [1, 1, 0, 1, 0, 0, 1, 0, 0] 7)) (.int .u8 (rd a0 (I64 (x4_0 - 1)))) (by kernel_rfl)) hcq2 ?_
              refine RunF.go 11 [0, 3, 4] (k' := (pl Go.Proofs.Try.f20 [1, 1, 0, 1, 0, 0])) (L' := [(0, .slice Ap0 a0.length cp0), (3, .int .u64 (bor .u64 (shl .u64 x3_0 8) (U64 (rd a0 (I64 (x4_0 - 1)))))), (4, .int .i64 (I64 (x4_0 - 1)))]) (w' := W) (by kernel_rfl) ?_
              obtain ⟨y5, hy, h⟩ := Option.bind_eq_some_iff.mp h
              rw [show (bor .u64 (shl .u64 x3_0 8) (U64 (rd a0 (I64 (x4_0 - 1))))) = y5 from Option.some.inj hy]
              clear hy
              exact ih0 k (by omega) y5 (I64 (x4_0 - 1)) _ (hM.pick [] rfl rfl) h
            · replace h := of_false h c4
              cases h
          · replace h := of_false h c3
            cases h
        · replace h := of_false h c1
          refine RunF.know 8 (b := false) (by kernel_rfl) c1 ?_
          refine RunF.go 7 [2] (k' := (pl Go.Proofs.Try.f20 [1, 1, 1, 1])) (L' := [(2, .int .u64 x3_0)]) (w' := W) (by kernel_rfl) ?_
          obtain rfl := Option.some.inj h
          exact RunF.ret1 2 (.int .u64 x3_0) (fn := Go.Proofs.Try.f20) Go.Proofs.Try.func20 (by kernel_rfl) (by kernel_rfl) (by kernel_rfl) ⟨_, rfl, rfl, (hM.pick [] rfl rfl)⟩
  exact l0 k (Nat.le_refl _) 0 (a0.length : Int) _ (hM.pick [] rfl rfl) h

/-! ### scrim/scrimref1.rest: function 42 -/
def scrimref1_rest.f (k : Nat) (a0 : Int) (a1 : Int) : Option (Int) := if (decide (a1 = 0)) = true then (none) else (if (decide (a1 = 0)) = true then (none) else (some (Int.tmod (I64 ((Int.tmod a0 a1) + a1)) a1)))
set_option maxRecDepth 100000 in
theorem scrimref1_rest.calls (k : Nat) (a0 : Int) (a1 : Int) (r : Int) (w : World) (h : scrimref1_rest.f k a0 a1 = some r) :
    Calls Go.Proofs.Try.prog 42 #[.int .i64 a0, .int .i64 a1] w (Ret fun v w' => v = .int .i64 r ∧ Mem w w' []) := by
  unfold scrimref1_rest.f at h
  refine calls_of [.int .i64 a0, .int .i64 a1] (fn := Go.Proofs.Try.f42) Go.Proofs.Try.func42 (by kernel_rfl) (by kernel_rfl) ?_
  have hM := Mem.refl w
  refine RunF.go 8 [1, 5, 6] (k' := (pin Go.Proofs.Try.f42 [1, 0] 2)) (L' := [(1, .int .i64 a1), (5, .int .i64 a0), (6, .int .i64 a1)]) (w' := w) (by kernel_rfl) ?_
  rcases two (decide (a1 = 0)) with c1 | c1
  · replace h := of_true h c1
    cases h
  · replace h := of_false h c1
    refine RunF.y (div_y (d := some 7) (b := false) (kd := .i64) (x := a0) (y := a1) (k2 := (pin Go.Proofs.Try.f42 [1, 0] 3)) (by kernel_rfl) c1) trivial ?_
    refine RunF.go 3 [9, 10] (k' := (pin Go.Proofs.Try.f42 [1, 0] 6)) (L' := [(9, .int .i64 (I64 ((Int.tmod a0 a1) + a1))), (10, .int .i64 a1)]) (w' := w) (by kernel_rfl) ?_
    rcases two (decide (a1 = 0)) with c2 | c2
    · replace h := of_true h c2
      cases h
    · replace h := of_false h c2
      refine RunF.y (div_y (d := some 11) (b := false) (kd := .i64) (x := I64 ((Int.tmod a0 a1) + a1)) (y := a1) (k2 := (pin Go.Proofs.Try.f42 [1, 0] 7)) (by kernel_rfl) c2) trivial ?_
      refine RunF.go 2 [4] (k' := (pl Go.Proofs.Try.f42 [1, 1])) (L' := [(4, .int .i64 (Int.tmod (I64 ((Int.tmod a0 a1) + a1)) a1))]) (w' := w) (by kernel_rfl) ?_
      obtain rfl := Option.some.inj h
      exact RunF.ret1 4 (.int .i64 (Int.tmod (I64 ((Int.tmod a0 a1) + a1)) a1)) (fn := Go.Proofs.Try.f42) Go.Proofs.Try.func42 (by kernel_rfl) (by kernel_rfl) (by kernel_rfl) ⟨_, rfl, rfl, (hM.pick [] rfl rfl)⟩

/-! ### scrim/scrimref1.Rol32: function 21 -/
def scrimref1_Rol32.f (k : Nat) (a0 : Int) (a1 : Int) : Option (Int) := (scrimref1_rest.f k a1 32).bind fun t2 => (if (decide (0 ≤ (U64 (t2)))) = true then (if (decide (0 ≤ (U64 (32 - (U64 (t2)))))) = true then (some (bor .u32 (shlv .u32 a0 (U64 (t2))) (shrv .u32 a0 (U64 (32 - (U64 (t2))))))) else (none)) else (none))
set_option maxRecDepth 100000 in
theorem scrimref1_Rol32.calls (k : Nat) (a0 : Int) (a1 : Int) (r : Int) (w : World) (h : scrimref1_Rol32.f k a0 a1 = some r) :
    Calls Go.Proofs.Try.prog 21 #[.int .u32 a0, .int .i64 a1] w (Ret fun v w' => v = .int .u32 r ∧ Mem w w' []) := by
  unfold scrimref1_Rol32.f at h
  refine calls_of [.int .u32 a0, .int .i64 a1] (fn := Go.Proofs.Try.f21) Go.Proofs.Try.func21 (by kernel_rfl) (by kernel_rfl) ?_
  have hM := Mem.refl w
  refine RunF.go 7 [0, 6] (k' := (pin Go.Proofs.Try.f21 [1, 0] 1)) (L' := [(0, .int .u32 a0), (6, .int .i64 a1)]) (w' := w) (by kernel_rfl) ?_
  obtain ⟨t2, ht2, h⟩ := Option.bind_eq_some_iff.mp h
  refine RunF.call (d := some 7) (g := 42) (args := #[.int .i64 a1, .int .i64 32]) (k2 := (pin Go.Proofs.Try.f21 [1, 0] 2)) (by kernel_rfl) (scrimref1_rest.calls k a1 32 t2 _ ht2) ?_
  rintro _ W1 ⟨rfl, hM_⟩
  replace hM := hM.call hM_
  clear hM_ ht2
  refine RunF.go 7 [0, 5, 9, 10] (k' := (pin Go.Proofs.Try.f21 [1, 1, 0] 2)) (L' := [(0, .int .u32 a0), (5, .int .u64 (U64 (t2))), (9, .int .u32 a0), (10, .int .u64 (U64 (t2)))]) (w' := W1) (by kernel_rfl) ?_
  rcases two (decide (0 ≤ (U64 (t2)))) with c3 | c3
  · replace h := of_true h c3
    refine RunF.y (sh_y (d := some 11) (b := true) (kd := .u32) (x := a0) (y := U64 (t2)) (k2 := (pin Go.Proofs.Try.f21 [1, 1, 0] 3)) (by kernel_rfl) c3) trivial ?_
    refine RunF.go 3 [11, 12, 14] (k' := (pin Go.Proofs.Try.f21 [1, 1, 0] 6)) (L' := [(11, .int .u32 (shlv .u32 a0 (U64 (t2)))), (12, .int .u32 a0), (14, .int .u64 (U64 (32 - (U64 (t2)))))]) (w' := W1) (by kernel_rfl) ?_
    rcases two (decide (0 ≤ (U64 (32 - (U64 (t2)))))) with c4 | c4
    · replace h := of_true h c4
      refine RunF.y (sh_y (d := some 15) (b := false) (kd := .u32) (x := a0) (y := U64 (32 - (U64 (t2)))) (k2 := (pin Go.Proofs.Try.f21 [1, 1, 0] 7)) (by kernel_rfl) c4) trivial ?_
      refine RunF.go 3 [4] (k' := (pl Go.Proofs.Try.f21 [1, 1, 1])) (L' := [(4, .int .u32 (bor .u32 (shlv .u32 a0 (U64 (t2))) (shrv .u32 a0 (U64 (32 - (U64 (t2)))))))]) (w' := W1) (by kernel_rfl) ?_
      obtain rfl := Option.some.inj h
      exact RunF.ret1 4 (.int .u32 (bor .u32 (shlv .u32 a0 (U64 (t2))) (shrv .u32 a0 (U64 (32 - (U64 (t2))))))) (fn := Go.Proofs.Try.f21) Go.Proofs.Try.func21 (by kernel_rfl) (by kernel_rfl) (by kernel_rfl) ⟨_, rfl, rfl, (hM.pick [] rfl rfl)⟩
    · replace h := of_false h c4
      cases h
  · replace h := of_false h c3
    cases h

/-! ### scrim/scrimlaw9.TwofishWords: function 7 -/
mutual
def scrimlaw9_TwofishWords.l0 : Nat → Int → Int → (List Int × List Int × Int) → (List Int) → (List Int) → (List Int) → Int → Option (Bool)
  | 0, _, _, _, _, _, _, _ => none
  | k + 1, a2, a3, t11, t5, x13_0, x14_0, x15_0 => if (decide (x15_0 < (t5.length : Int))) = true then (if (decide (0 ≤ x15_0)) = true then (if (decide (x15_0 ≤ (I64 (x15_0 + 4)))) = true then (if (decide ((I64 (x15_0 + 4)) ≤ (t5.length : Int))) = true then ((scrimref1_Little.f k ((t5.take (I64 (x15_0 + 4) : Int).toNat).drop (x15_0 : Int).toNat)).bind fun t38 => (if (decide (x13_0.length + ([U32 (t38)] : List Int).length ≤ 1000000000)) = true then (if (decide (0 ≤ (I64 (x15_0 + 4)))) = true then (if (decide ((I64 (x15_0 + 4)) ≤ (I64 (x15_0 + 8)))) = true then (if (decide ((I64 (x15_0 + 8)) ≤ (t5.length : Int))) = true then ((scrimref1_Little.f k ((t5.take (I64 (x15_0 + 8) : Int).toNat).drop (I64 (x15_0 + 4) : Int).toNat)).bind fun t57 => (if (decide (x14_0.length + ([U32 (t57)] : List Int).length ≤ 1000000000)) = true then (scrimlaw9_TwofishWords.l0 k a2 a3 t11 t5 (x13_0 ++ ([U32 (t38)] : List Int)) (x14_0 ++ ([U32 (t57)] : List Int)) (I64 (x15_0 + 8))) else (none))) else (none)) else (none)) else (none)) else (none))) else (none)) else (none)) else (none)) else (scrimlaw9_TwofishWords.l1 k a2 a3 t11 t5 x13_0 x14_0 0)
def scrimlaw9_TwofishWords.l1 : Nat → Int → Int → (List Int × List Int × Int) → (List Int) → (List Int) → (List Int) → Int → Option (Bool)
  | 0, _, _, _, _, _, _, _ => none
  | k + 1, a2, a3, t11, t5, x13_0, x14_0, x16_1 => if (decide (x16_1 < 20)) = true then ((twofish_H.f k (U32 ((U32 (I64 (2 * x16_1))) * 16843009)) x13_0).bind fun t69 => ((some (U32 ((U32 (I64 ((I64 (2 * x16_1)) + 1))) * 16843009) : Int)).bind fun y70 => ((twofish_H.f k y70 x14_0).bind fun t72 => ((scrimref1_Rol32.f k t72 8).bind fun t74 => (if (decide (0 ≤ (I64 (2 * x16_1)))) = true then (if (decide ((I64 (2 * x16_1)) < (t11.1.length : Int))) = true then (if ((rd t11.1 (I64 (2 * x16_1))) != (U32 (t69 + t74))) = true then (some false) else (if (decide (0 ≤ (I64 ((I64 (2 * x16_1)) + 1)))) = true then (if (decide ((I64 ((I64 (2 * x16_1)) + 1)) < (t11.1.length : Int))) = true then ((scrimref1_Rol32.f k (U32 (t69 + (U32 (2 * t74)))) 9).bind fun t85 => ((some (((rd t11.1 (I64 ((I64 (2 * x16_1)) + 1))) != t85) : Bool)).bind fun y86 => ((some (((rd t11.1 (I64 (2 * x16_1))) != (U32 (t69 + t74))) : Bool)).bind fun y87 => (if y86 = true then (some false) else (scrimlaw9_TwofishWords.l1 k a2 a3 t11 t5 x13_0 x14_0 (I64 (x16_1 + 1))))))) else (none)) else (none))) else (none)) else (none)))))) else (if (decide (([] : List Int).length + t5.length ≤ 1000000000)) = true then ((scrimlaw9_within.f k a2 ((([] : List Int) ++ t5).length : Int)).bind fun t99 => (if (decide (0 ≤ t99)) = true then (if (decide (t99 < ((([] : List Int) ++ t5).length : Int))) = true then (if (decide (0 ≤ t99)) = true then (if (decide (t99 < ((([] : List Int) ++ t5).length : Int))) = true then ((twofish_Keys.f k ((([] : List Int) ++ t5).set (t99 : Int).toNat (bxor .u8 (rd (([] : List Int) ++ t5) t99) a3))).bind fun t108 => ((some (((t108.2.1.length : Int) != (t11.2.1.length : Int)) : Bool)).bind fun y117 => (if y117 = true then (some false) else (scrimlaw9_TwofishWords.l2 k a3 t108 t11 t99 0)))) else (none)) else (none)) else (none)) else (none))) else (none))
def scrimlaw9_TwofishWords.l2 : Nat → Int → (List Int × List Int × Int) → (List Int × List Int × Int) → Int → Int → Option (Bool)
  | 0, _, _, _, _, _ => none
  | k + 1, a3, t108, t11, t99, x24_2 => if (decide (x24_2 < (t11.2.1.length : Int))) = true then (if (decide (0 ≤ x24_2)) = true then (if (decide (x24_2 < (t11.2.1.length : Int))) = true then (if (decide (0 ≤ x24_2)) = true then (if (decide (x24_2 < (t108.2.1.length : Int))) = true then (if (a3 == 0) = true then ((some (!(((rd t11.2.1 x24_2) == (rd t108.2.1 x24_2)) == true) : Bool)).bind fun y129 => (if y129 = true then (some false) else (scrimlaw9_TwofishWords.l2 k a3 t108 t11 t99 (I64 (x24_2 + 1))))) else ((some (I64 ((I64 ((t11.2.1.length : Int) - 1)) - (I64 (Int.tdiv t99 8))) : Int)).bind fun y131 => ((some (!(((rd t11.2.1 x24_2) == (rd t108.2.1 x24_2)) == (x24_2 != y131)) : Bool)).bind fun y132 => (if y132 = true then (some false) else (scrimlaw9_TwofishWords.l2 k a3 t108 t11 t99 (I64 (x24_2 + 1))))))) else (none)) else (none)) else (none)) else (none)) else (some true)
end
def scrimlaw9_TwofishWords.f (k : Nat) (a0 : List Int) (a1 : Int) (a2 : Int) (a3 : Int) : Option (Bool) := (scrimlaw9_known.f k).bind fun t2 => (if (!t2) = true then (some false) else ((scrimlaw9_key.f k a0 a1).bind fun t5 => ((twofish_Keys.f k t5).bind fun t11 => (if (t11.2.2 != 0) = true then (some false) else (if ((t11.1.length : Int) != 40) = true then (some false) else ((some (((t11.2.1.length : Int) != (I64 (Int.tdiv (t5.length : Int) 8))) : Bool)).bind fun y22 => (if y22 = true then (some false) else (scrimlaw9_TwofishWords.l0 k a2 a3 t11 t5 ([] : List Int) ([] : List Int) 0))))))))
set_option maxRecDepth 100000 in
set_option maxHeartbeats 8000000 in
theorem scrimlaw9_TwofishWords.calls (k : Nat) (Ap0 : Option Addr) (np0 cp0 : Nat) (a0 : List Int) (a1 : Int) (a2 : Int) (a3 : Int) (r : Bool) (w : World) (hr0 : Rd w (.slice Ap0 np0 cp0) (nums .u8 a0)) (h : scrimlaw9_TwofishWords.f k a0 a1 a2 a3 = some r) :
    Calls Go.Proofs.Try.prog 7 #[(.slice Ap0 np0 cp0), .int .i64 a1, .int .i64 a2, .int .u8 a3] w (Ret fun v w' => v = .bool r ∧ Mem w w' []) := by
  obtain rfl : a0.length = np0 := by have h_ := hr0.1; simpa [nums_length, bools_length, strs_length] using h_
  unfold scrimlaw9_TwofishWords.f at h
  refine calls_of [.slice Ap0 a0.length cp0, .int .i64 a1, .int .i64 a2, .int .u8 a3] (fn := Go.Proofs.Try.f7) Go.Proofs.Try.func7 (by kernel_rfl) (by kernel_rfl) ?_
  have hM := Mem.refl w
  refine RunF.go 7 [0, 1, 2, 3] (k' := (pin Go.Proofs.Try.f7 [1, 0, 0] 0)) (L' := [(0, .slice Ap0 a0.length cp0), (1, .int .i64 a1), (2, .int .i64 a2), (3, .int .u8 a3)]) (w' := w) (by kernel_rfl) ?_
  obtain ⟨t2, ht2, h⟩ := Option.bind_eq_some_iff.mp h
  refine RunF.call (d := some 25) (g := 8) (args := #[]) (k2 := (pin Go.Proofs.Try.f7 [1, 0, 0] 1)) (by kernel_rfl) (scrimlaw9_known.calls k t2 _ ht2) ?_
  rintro _ W1 ⟨rfl, hM_⟩
  replace hM := hM.call hM_
  clear hM_ ht2
  refine RunF.go 2 [0, 1, 2, 3, 26] (k' := (pl Go.Proofs.Try.f7 [1, 0, 1])) (L' := [(0, .slice Ap0 a0.length cp0), (1, .int .i64 a1), (2, .int .i64 a2), (3, .int .u8 a3), (26, .bool (!t2))]) (w' := W1) (by kernel_rfl) ?_
  rcases two (!t2) with c3 | c3
  · replace h := of_true h c3
    refine RunF.know 26 (b := true) (by kernel_rfl) c3 ?_
    refine RunF.go 5 [8] (k' := (pl Go.Proofs.Try.f7 [1, 0, 1, 0, 1])) (L' := [(8, .bool false)]) (w' := W1) (by kernel_rfl) ?_
    obtain rfl := Option.some.inj h
    exact RunF.ret1 8 (.bool false) (fn := Go.Proofs.Try.f7) Go.Proofs.Try.func7 (by kernel_rfl) (by kernel_rfl) (by kernel_rfl) ⟨_, rfl, rfl, (hM.pick [] rfl rfl)⟩
  · replace h := of_false h c3
    refine RunF.know 26 (b := false) (by kernel_rfl) c3 ?_
    refine RunF.go 6 [2, 3, 27, 28] (k' := (pin Go.Proofs.Try.f7 [1, 1, 0] 2)) (L' := [(2, .int .i64 a2), (3, .int .u8 a3), (27, .slice Ap0 a0.length cp0), (28, .int .i64 a1)]) (w' := W1) (by kernel_rfl) ?_
    obtain ⟨t5, ht5, h⟩ := Option.bind_eq_some_iff.mp h
    refine RunF.call (d := some 29) (g := 10) (args := #[.slice Ap0 a0.length cp0, .int .i64 a1]) (k2 := (pin Go.Proofs.Try.f7 [1, 1, 0] 3)) (by kernel_rfl) (scrimlaw9_key.calls k Ap0 a0.length cp0 a0 a1 t5 _ (hr0.mono hM.below) ht5) ?_
    rintro _ W4 ⟨A6, n7, c8, rfl, hM_⟩
    obtain rfl : t5.length = n7 := by have h_ := (hM_.rd 0 rfl).1; simpa [nums_length, bools_length, strs_length] using h_
    replace hM := hM.call hM_
    clear hM_ ht5
    refine RunF.go 5 [2, 3, 9, 31] (k' := (pin Go.Proofs.Try.f7 [1, 1, 1, 0] 1)) (L' := [(2, .int .i64 a2), (3, .int .u8 a3), (9, .slice A6 t5.length c8), (31, .slice A6 t5.length c8)]) (w' := W4) (by kernel_rfl) ?_
    obtain ⟨t11, ht11, h⟩ := Option.bind_eq_some_iff.mp h
    refine RunF.call (d := some 32) (g := 9) (args := #[.slice A6 t5.length c8]) (k2 := (pin Go.Proofs.Try.f7 [1, 1, 1, 0] 2)) (by kernel_rfl) (twofish_Keys.calls k A6 t5.length c8 t5 t11 _ (hM.rd 0 rfl) ht11) ?_
    rintro _ W10 ⟨A12, n13, c14, A15, n16, c17, rfl, hM_⟩
    obtain rfl : t11.1.length = n13 := by have h_ := (hM_.rd 0 rfl).1; simpa [nums_length, bools_length, strs_length] using h_
    obtain rfl : t11.2.1.length = n16 := by have h_ := (hM_.rd 1 rfl).1; simpa [nums_length, bools_length, strs_length] using h_
    replace hM := hM.call hM_
    clear hM_ ht11
    refine RunF.go 14 [2, 3, 9, 10, 11, 38] (k' := (pin Go.Proofs.Try.f7 [1, 1, 1, 1, 0, 0] 3)) (L' := [(2, .int .i64 a2), (3, .int .u8 a3), (9, .slice A6 t5.length c8), (10, .slice A12 t11.1.length c14), (11, .slice A15 t11.2.1.length c17), (38, .bool (t11.2.2 != 0))]) (w' := W10) (by kernel_rfl) ?_
    rcases two ((t11.2.2 != 0)) with c20 | c20
    · replace h := of_true h c20
      refine RunF.know 38 (b := true) (by kernel_rfl) c20 ?_
      refine RunF.go 18 [8] (k' := (pl Go.Proofs.Try.f7 [1, 1, 1, 1, 0, 1, 0, 1])) (L' := [(8, .bool false)]) (w' := W10) (by kernel_rfl) ?_
      obtain rfl := Option.some.inj h
      exact RunF.ret1 8 (.bool false) (fn := Go.Proofs.Try.f7) Go.Proofs.Try.func7 (by kernel_rfl) (by kernel_rfl) (by kernel_rfl) ⟨_, rfl, rfl, (hM.pick [] rfl rfl)⟩
    · replace h := of_false h c20
      refine RunF.know 38 (b := false) (by kernel_rfl) c20 ?_
      refine RunF.go 5 [2, 3, 9, 10, 11, 43] (k' := (pin Go.Proofs.Try.f7 [1, 1, 1, 1, 0, 0] 8)) (L' := [(2, .int .i64 a2), (3, .int .u8 a3), (9, .slice A6 t5.length c8), (10, .slice A12 t11.1.length c14), (11, .slice A15 t11.2.1.length c17), (43, .bool ((t11.1.length : Int) != 40))]) (w' := W10) (by kernel_rfl) ?_
      rcases two (((t11.1.length : Int) != 40)) with c21 | c21
      · replace h := of_true h c21
        refine RunF.know 43 (b := true) (by kernel_rfl) c21 ?_
        refine RunF.go 13 [8] (k' := (pl Go.Proofs.Try.f7 [1, 1, 1, 1, 0, 1, 0, 1])) (L' := [(8, .bool false)]) (w' := W10) (by kernel_rfl) ?_
        obtain rfl := Option.some.inj h
        exact RunF.ret1 8 (.bool false) (fn := Go.Proofs.Try.f7) Go.Proofs.Try.func7 (by kernel_rfl) (by kernel_rfl) (by kernel_rfl) ⟨_, rfl, rfl, (hM.pick [] rfl rfl)⟩
      · replace h := of_false h c21
        refine RunF.know 43 (b := false) (by kernel_rfl) c21 ?_
        refine RunF.go 8 [2, 3, 9, 10, 11, 50] (k' := (pl Go.Proofs.Try.f7 [1, 1, 1, 1, 0, 1])) (L' := [(2, .int .i64 a2), (3, .int .u8 a3), (9, .slice A6 t5.length c8), (10, .slice A12 t11.1.length c14), (11, .slice A15 t11.2.1.length c17), (50, .bool ((t11.2.1.length : Int) != (I64 (Int.tdiv (t5.length : Int) 8))))]) (w' := W10) (by kernel_rfl) ?_
        obtain ⟨y22, hy, h⟩ := Option.bind_eq_some_iff.mp h
        rw [show (((t11.2.1.length : Int) != (I64 (Int.tdiv (t5.length : Int) 8)))) = y22 from Option.some.inj hy]
        clear hy
        rcases two (y22) with c23 | c23
        · replace h := of_true h c23
          refine RunF.know 50 (b := true) (by kernel_rfl) c23 ?_
          refine RunF.go 5 [8] (k' := (pl Go.Proofs.Try.f7 [1, 1, 1, 1, 0, 1, 0, 1])) (L' := [(8, .bool false)]) (w' := W10) (by kernel_rfl) ?_
          obtain rfl := Option.some.inj h
          exact RunF.ret1 8 (.bool false) (fn := Go.Proofs.Try.f7) Go.Proofs.Try.func7 (by kernel_rfl) (by kernel_rfl) (by kernel_rfl) ⟨_, rfl, rfl, (hM.pick [] rfl rfl)⟩
        · replace h := of_false h c23
          refine RunF.know 50 (b := false) (by kernel_rfl) c23 ?_
          refine RunF.go 14 [2, 3, 9, 10, 11, 13, 14, 15] (k' := (pl Go.Proofs.Try.f7 [1, 1, 1, 1, 1, 1, 0, 1, 0, 0])) (L' := [(2, .int .i64 a2), (3, .int .u8 a3), (9, .slice A6 t5.length c8), (10, .slice A12 t11.1.length c14), (11, .slice A15 t11.2.1.length c17), (13, .slice none 0 0), (14, .slice none 0 0), (15, .int .i64 0)]) (w' := W10) (by kernel_rfl) ?_
          replace hM := hM.nil 37
          replace hM := hM.nil 37
          have l0 : ∀ (k_ : Nat), k_ ≤ k → ∀ (A13_0 : Option Addr) (c13_0 : Nat) (x13_0 : List Int) (A14_0 : Option Addr) (c14_0 : Nat) (x14_0 : List Int) (x15_0 : Int) (W : World) (hM : Mem w W [⟨.slice A6 t5.length c8, 5, 1, nums .u8 t5⟩, ⟨.slice A12 t11.1.length c14, 37, 1, nums .u32 t11.1⟩, ⟨.slice A15 t11.2.1.length c17, 37, 1, nums .u32 t11.2.1⟩, ⟨.slice A13_0 x13_0.length c13_0, 37, 1, nums .u32 x13_0⟩, ⟨.slice A14_0 x14_0.length c14_0, 37, 1, nums .u32 x14_0⟩]) (h : scrimlaw9_TwofishWords.l0 k_ a2 a3 t11 t5 x13_0 x14_0 x15_0 = some r), RunF Go.Proofs.Try.prog (Ret fun v w' => v = .bool r ∧ Mem w w' []) 7 (pl Go.Proofs.Try.f7 [1, 1, 1, 1, 1, 1, 0, 1, 0, 0]) 172 [(2, .int .i64 a2), (3, .int .u8 a3), (9, .slice A6 t5.length c8), (10, .slice A12 t11.1.length c14), (11, .slice A15 t11.2.1.length c17), (13, .slice A13_0 x13_0.length c13_0), (14, .slice A14_0 x14_0.length c14_0), (15, .int .i64 x15_0)] W := by
            intro k_
            induction k_ using Nat.strongRecOn with
            | _ k_ ih0 =>
              intro hk A13_0 c13_0 x13_0 A14_0 c14_0 x14_0 x15_0 W hM h
              cases k_ with
              | zero => exact absurd h (by simp [scrimlaw9_TwofishWords.l0])
              | succ k =>
                simp only [scrimlaw9_TwofishWords.l0] at h
                replace ih0 : ∀ m, m ≤ k → _ := fun m hm => ih0 m (by omega) (by omega)
                refine RunF.go 8 [2, 3, 9, 10, 11, 13, 14, 15, 54] (k' := (pl Go.Proofs.Try.f7 [1, 1, 1, 1, 1, 1, 0, 1, 0, 0, 0, 1])) (L' := [(2, .int .i64 a2), (3, .int .u8 a3), (9, .slice A6 t5.length c8), (10, .slice A12 t11.1.length c14), (11, .slice A15 t11.2.1.length c17), (13, .slice A13_0 x13_0.length c13_0), (14, .slice A14_0 x14_0.length c14_0), (15, .int .i64 x15_0), (54, .bool (decide (x15_0 < (t5.length : Int))))]) (w' := W) (by kernel_rfl) ?_
                rcases two (decide (x15_0 < (t5.length : Int))) with c28 | c28
                · replace h := of_true h c28
                  refine RunF.know 54 (b := true) (by kernel_rfl) c28 ?_
                  refine RunF.go 11 [2, 3, 9, 10, 11, 14, 15, 57, 58, 59, 61] (k' := (pin Go.Proofs.Try.f7 [1, 1, 1, 1, 1, 1, 0, 1, 0, 0, 1, 0, 0, 0] 5)) (L' := [(2, .int .i64 a2), (3, .int .u8 a3), (9, .slice A6 t5.length c8), (10, .slice A12 t11.1.length c14), (11, .slice A15 t11.2.1.length c17), (14, .slice A14_0 x14_0.length c14_0), (15, .int .i64 x15_0), (57, .slice A13_0 x13_0.length c13_0), (58, .slice A6 t5.length c8), (59, .int .i64 x15_0), (61, .int .i64 (I64 (x15_0 + 4)))]) (w' := W) (by kernel_rfl) ?_
                  rcases two (decide (0 ≤ x15_0)) with c29 | c29
                  · replace h := of_true h c29
                    rcases two (decide (x15_0 ≤ (I64 (x15_0 + 4)))) with c30 | c30
                    · replace h := of_true h c30
                      rcases two (decide ((I64 (x15_0 + 4)) ≤ (t5.length : Int))) with c31 | c31
                      · replace h := of_true h c31
                        have zc29 := of_decide_eq_true c29
                        have zc30 := of_decide_eq_true c30
                        have zc31 := of_decide_eq_true c31
                        obtain ⟨A32, n33, c34, hy35, rfl, hs36⟩ := cut (P := Go.Proofs.Try.prog) (n := 172) (k := (pin Go.Proofs.Try.f7 [1, 1, 1, 1, 1, 1, 0, 1, 0, 0, 1, 0, 0, 0] 5)) (L := [(2, .int .i64 a2), (3, .int .u8 a3), (9, .slice A6 t5.length c8), (10, .slice A12 t11.1.length c14), (11, .slice A15 t11.2.1.length c17), (14, .slice A14_0 x14_0.length c14_0), (15, .int .i64 x15_0), (57, .slice A13_0 x13_0.length c13_0), (58, .slice A6 t5.length c8), (59, .int .i64 x15_0), (61, .int .i64 (I64 (x15_0 + 4)))]) (d := some 62) (A := A6) (m := t5.length) (c := c8) (l := x15_0) (h := I64 (x15_0 + 4)) (k2 := (pin Go.Proofs.Try.f7 [1, 1, 1, 1, 1, 1, 0, 1, 0, 0, 1, 0, 0, 0] 6)) .u8 t5 (by kernel_rfl) (by omega) (by omega) (by omega) (hM.rd 0 rfl)
                        clear zc29
                        clear zc30
                        clear zc31
                        refine RunF.y hy35 trivial ?_
                        obtain ⟨t38, ht38, h⟩ := Option.bind_eq_some_iff.mp h
                        refine RunF.call (d := some 63) (g := 20) (args := #[.slice A32 (((t5.take (I64 (x15_0 + 4) : Int).toNat).drop (x15_0 : Int).toNat).length) c34]) (k2 := (pin Go.Proofs.Try.f7 [1, 1, 1, 1, 1, 1, 0, 1, 0, 0, 1, 0, 0, 0] 7)) (by kernel_rfl) (scrimref1_Little.calls k A32 (((t5.take (I64 (x15_0 + 4) : Int).toNat).drop (x15_0 : Int).toNat).length) c34 ((t5.take (I64 (x15_0 + 4) : Int).toNat).drop (x15_0 : Int).toNat) t38 _ (hs36 _ (hM.rd 0 rfl)) ht38) ?_
                        rintro _ W37 ⟨rfl, hM_⟩
                        replace hM := hM.call hM_
                        clear hM_ ht38
                        refine RunF.go 1 [2, 3, 9, 10, 11, 14, 15, 57, 64] (k' := (pin Go.Proofs.Try.f7 [1, 1, 1, 1, 1, 1, 0, 1, 0, 0, 1, 0, 0, 0] 8)) (L' := [(2, .int .i64 a2), (3, .int .u8 a3), (9, .slice A6 t5.length c8), (10, .slice A12 t11.1.length c14), (11, .slice A15 t11.2.1.length c17), (14, .slice A14_0 x14_0.length c14_0), (15, .int .i64 x15_0), (57, .slice A13_0 x13_0.length c13_0), (64, .int .u32 (U32 (t38)))]) (w' := W37) (by kernel_rfl) ?_
                        refine RunF.new 37 1 1 (nums .u32 [U32 (t38)]) (d := some 65) (k2 := (pin Go.Proofs.Try.f7 [1, 1, 1, 1, 1, 1, 0, 1, 0, 0, 1, 0, 0, 0] 9)) hM (by simp [nums, bools, strs]) (by kernel_rfl) (by kernel_rfl) ?_
                        replace hM := hM
                        intro g39 W40 hM
                        rcases two (decide (x13_0.length + ([U32 (t38)] : List Int).length ≤ 1000000000)) with c46 | c46
                        · replace h := of_true h c46
                          have h_ := of_decide_eq_true c46
                          obtain ⟨A42, n43, c44, W45, hD, hM', hS_⟩ := app_does (P := Go.Proofs.Try.prog) (n := 172) (k := (pin Go.Proofs.Try.f7 [1, 1, 1, 1, 1, 1, 0, 1, 0, 0, 1, 0, 0, 0] 9)) (L := (upd [(2, .int .i64 a2), (3, .int .u8 a3), (9, .slice A6 t5.length c8), (10, .slice A12 t11.1.length c14), (11, .slice A15 t11.2.1.length c17), (14, .slice A14_0 x14_0.length c14_0), (15, .int .i64 x15_0), (57, .slice A13_0 x13_0.length c13_0), (64, .int .u32 (U32 (t38)))] (some 65) (.slice (some ⟨g39, 0, none⟩) 1 1))) (d := some 66) (e := 37) (A := A13_0) (m := x13_0.length) (c := c13_0) (A2 := (some ⟨g39, 0, none⟩)) (m2 := 1) (c2 := 1) (cs := nums .u32 x13_0) (ys := nums .u32 ([U32 (t38)] : List Int)) (k2 := (pin Go.Proofs.Try.f7 [1, 1, 1, 1, 1, 1, 0, 1, 0, 0, 1, 0, 0, 0] 10)) [⟨.slice (some ⟨g39, 0, none⟩) 1 1, 37, 1, nums .u32 [U32 (t38)]⟩, ⟨.slice A6 t5.length c8, 5, 1, nums .u8 t5⟩, ⟨.slice A12 t11.1.length c14, 37, 1, nums .u32 t11.1⟩, ⟨.slice A15 t11.2.1.length c17, 37, 1, nums .u32 t11.2.1⟩] [⟨.slice A14_0 x14_0.length c14_0, 37, 1, nums .u32 x14_0⟩] (by kernel_rfl) (hM.pick [0, 1, 2, 3, 4, 5] rfl rfl) (hM.rd 0 rfl) (one_nums _ _) (by omega)
                          rw [nums_append] at hM'
                          replace hM := hM'; clear h_ hM'
                          obtain rfl : (x13_0 ++ ([U32 (t38)] : List Int)).length = n43 := by have h_ := (hM.rd 4 rfl).1; simpa only [nums_length, bools_length, strs_length] using h_
                          refine RunF.does hD ?_
                          clear hD hS_
                          refine RunF.go 9 [2, 3, 9, 10, 11, 13, 15, 67, 68, 70, 72] (k' := (pin Go.Proofs.Try.f7 [1, 1, 1, 1, 1, 1, 0, 1, 0, 0, 1, 0, 0, 1] 6)) (L' := [(2, .int .i64 a2), (3, .int .u8 a3), (9, .slice A6 t5.length c8), (10, .slice A12 t11.1.length c14), (11, .slice A15 t11.2.1.length c17), (13, .slice A42 ((x13_0 ++ ([U32 (t38)] : List Int)).length) c44), (15, .int .i64 x15_0), (67, .slice A14_0 x14_0.length c14_0), (68, .slice A6 t5.length c8), (70, .int .i64 (I64 (x15_0 + 4))), (72, .int .i64 (I64 (x15_0 + 8)))]) (w' := W45) (by kernel_rfl) ?_
                          rcases two (decide (0 ≤ (I64 (x15_0 + 4)))) with c48 | c48
                          · replace h := of_true h c48
                            rcases two (decide ((I64 (x15_0 + 4)) ≤ (I64 (x15_0 + 8)))) with c49 | c49
                            · replace h := of_true h c49
                              rcases two (decide ((I64 (x15_0 + 8)) ≤ (t5.length : Int))) with c50 | c50
                              · replace h := of_true h c50
                                have zc48 := of_decide_eq_true c48
                                have zc49 := of_decide_eq_true c49
                                have zc50 := of_decide_eq_true c50
                                obtain ⟨A51, n52, c53, hy54, rfl, hs55⟩ := cut (P := Go.Proofs.Try.prog) (n := 172) (k := (pin Go.Proofs.Try.f7 [1, 1, 1, 1, 1, 1, 0, 1, 0, 0, 1, 0, 0, 1] 6)) (L := [(2, .int .i64 a2), (3, .int .u8 a3), (9, .slice A6 t5.length c8), (10, .slice A12 t11.1.length c14), (11, .slice A15 t11.2.1.length c17), (13, .slice A42 ((x13_0 ++ ([U32 (t38)] : List Int)).length) c44), (15, .int .i64 x15_0), (67, .slice A14_0 x14_0.length c14_0), (68, .slice A6 t5.length c8), (70, .int .i64 (I64 (x15_0 + 4))), (72, .int .i64 (I64 (x15_0 + 8)))]) (d := some 73) (A := A6) (m := t5.length) (c := c8) (l := I64 (x15_0 + 4)) (h := I64 (x15_0 + 8)) (k2 := (pin Go.Proofs.Try.f7 [1, 1, 1, 1, 1, 1, 0, 1, 0, 0, 1, 0, 0, 1] 7)) .u8 t5 (by kernel_rfl) (by omega) (by omega) (by omega) (hM.rd 1 rfl)
                                clear zc48
                                clear zc49
                                clear zc50
                                refine RunF.y hy54 trivial ?_
                                obtain ⟨t57, ht57, h⟩ := Option.bind_eq_some_iff.mp h
                                refine RunF.call (d := some 74) (g := 20) (args := #[.slice A51 (((t5.take (I64 (x15_0 + 8) : Int).toNat).drop (I64 (x15_0 + 4) : Int).toNat).length) c53]) (k2 := (pin Go.Proofs.Try.f7 [1, 1, 1, 1, 1, 1, 0, 1, 0, 0, 1, 0, 0, 1] 8)) (by kernel_rfl) (scrimref1_Little.calls k A51 (((t5.take (I64 (x15_0 + 8) : Int).toNat).drop (I64 (x15_0 + 4) : Int).toNat).length) c53 ((t5.take (I64 (x15_0 + 8) : Int).toNat).drop (I64 (x15_0 + 4) : Int).toNat) t57 _ (hs55 _ (hM.rd 1 rfl)) ht57) ?_
                                rintro _ W56 ⟨rfl, hM_⟩
                                replace hM := hM.call hM_
                                clear hM_ ht57
                                refine RunF.go 1 [2, 3, 9, 10, 11, 13, 15, 67, 75] (k' := (pin Go.Proofs.Try.f7 [1, 1, 1, 1, 1, 1, 0, 1, 0, 0, 1, 0, 0, 1] 9)) (L' := [(2, .int .i64 a2), (3, .int .u8 a3), (9, .slice A6 t5.length c8), (10, .slice A12 t11.1.length c14), (11, .slice A15 t11.2.1.length c17), (13, .slice A42 ((x13_0 ++ ([U32 (t38)] : List Int)).length) c44), (15, .int .i64 x15_0), (67, .slice A14_0 x14_0.length c14_0), (75, .int .u32 (U32 (t57)))]) (w' := W56) (by kernel_rfl) ?_
                                refine RunF.new 37 1 1 (nums .u32 [U32 (t57)]) (d := some 76) (k2 := (pin Go.Proofs.Try.f7 [1, 1, 1, 1, 1, 1, 0, 1, 0, 0, 1, 0, 0, 1] 10)) hM (by simp [nums, bools, strs]) (by kernel_rfl) (by kernel_rfl) ?_
                                replace hM := hM
                                intro g58 W59 hM
                                rcases two (decide (x14_0.length + ([U32 (t57)] : List Int).length ≤ 1000000000)) with c65 | c65
                                · replace h := of_true h c65
                                  have h_ := of_decide_eq_true c65
                                  obtain ⟨A61, n62, c63, W64, hD, hM', hS_⟩ := app_does (P := Go.Proofs.Try.prog) (n := 172) (k := (pin Go.Proofs.Try.f7 [1, 1, 1, 1, 1, 1, 0, 1, 0, 0, 1, 0, 0, 1] 10)) (L := (upd [(2, .int .i64 a2), (3, .int .u8 a3), (9, .slice A6 t5.length c8), (10, .slice A12 t11.1.length c14), (11, .slice A15 t11.2.1.length c17), (13, .slice A42 ((x13_0 ++ ([U32 (t38)] : List Int)).length) c44), (15, .int .i64 x15_0), (67, .slice A14_0 x14_0.length c14_0), (75, .int .u32 (U32 (t57)))] (some 76) (.slice (some ⟨g58, 0, none⟩) 1 1))) (d := some 77) (e := 37) (A := A14_0) (m := x14_0.length) (c := c14_0) (A2 := (some ⟨g58, 0, none⟩)) (m2 := 1) (c2 := 1) (cs := nums .u32 x14_0) (ys := nums .u32 ([U32 (t57)] : List Int)) (k2 := (pin Go.Proofs.Try.f7 [1, 1, 1, 1, 1, 1, 0, 1, 0, 0, 1, 0, 0, 1] 11)) [⟨.slice (some ⟨g58, 0, none⟩) 1 1, 37, 1, nums .u32 [U32 (t57)]⟩, ⟨.slice (some ⟨g39, 0, none⟩) 1 1, 37, 1, nums .u32 [U32 (t38)]⟩, ⟨.slice A6 t5.length c8, 5, 1, nums .u8 t5⟩, ⟨.slice A12 t11.1.length c14, 37, 1, nums .u32 t11.1⟩, ⟨.slice A15 t11.2.1.length c17, 37, 1, nums .u32 t11.2.1⟩, ⟨.slice A42 ((x13_0 ++ ([U32 (t38)] : List Int)).length) c44, 37, 1, nums .u32 (x13_0 ++ ([U32 (t38)] : List Int))⟩] [] (by kernel_rfl) (hM.pick [0, 1, 2, 3, 4, 5, 6] rfl rfl) (hM.rd 0 rfl) (one_nums _ _) (by omega)
                                  rw [nums_append] at hM'
                                  replace hM := hM'; clear h_ hM'
                                  obtain rfl : (x14_0 ++ ([U32 (t57)] : List Int)).length = n62 := by have h_ := (hM.rd 6 rfl).1; simpa only [nums_length, bools_length, strs_length] using h_
                                  refine RunF.does hD ?_
                                  clear hD hS_
                                  refine RunF.go 9 [2, 3, 9, 10, 11, 13, 14, 15] (k' := (pl Go.Proofs.Try.f7 [1, 1, 1, 1, 1, 1, 0, 1, 0, 0])) (L' := [(2, .int .i64 a2), (3, .int .u8 a3), (9, .slice A6 t5.length c8), (10, .slice A12 t11.1.length c14), (11, .slice A15 t11.2.1.length c17), (13, .slice A42 ((x13_0 ++ ([U32 (t38)] : List Int)).length) c44), (14, .slice A61 ((x14_0 ++ ([U32 (t57)] : List Int)).length) c63), (15, .int .i64 (I64 (x15_0 + 8)))]) (w' := W64) (by kernel_rfl) ?_
                                  exact ih0 k (by omega) A42 c44 (x13_0 ++ ([U32 (t38)] : List Int)) A61 c63 (x14_0 ++ ([U32 (t57)] : List Int)) (I64 (x15_0 + 8)) _ (hM.pick [2, 3, 4, 5, 6] rfl rfl) h
                                · replace h := of_false h c65
                                  cases h
                              · replace h := of_false h c50
                                cases h
                            · replace h := of_false h c49
                              cases h
                          · replace h := of_false h c48
                            cases h
                        · replace h := of_false h c46
                          cases h
                      · replace h := of_false h c31
                        cases h
                    · replace h := of_false h c30
                      cases h
                  · replace h := of_false h c29
                    cases h
                · replace h := of_false h c28
                  refine RunF.know 54 (b := false) (by kernel_rfl) c28 ?_
                  refine RunF.go 9 [2, 3, 9, 10, 11, 13, 14, 16] (k' := (pl Go.Proofs.Try.f7 [1, 1, 1, 1, 1, 1, 1, 0, 1, 0, 0])) (L' := [(2, .int .i64 a2), (3, .int .u8 a3), (9, .slice A6 t5.length c8), (10, .slice A12 t11.1.length c14), (11, .slice A15 t11.2.1.length c17), (13, .slice A13_0 x13_0.length c13_0), (14, .slice A14_0 x14_0.length c14_0), (16, .int .i64 0)]) (w' := W) (by kernel_rfl) ?_
                  have l1 : ∀ (k_ : Nat), k_ ≤ k → ∀ (x16_1 : Int) (W : World) (hM : Mem w W [⟨.slice A6 t5.length c8, 5, 1, nums .u8 t5⟩, ⟨.slice A12 t11.1.length c14, 37, 1, nums .u32 t11.1⟩, ⟨.slice A15 t11.2.1.length c17, 37, 1, nums .u32 t11.2.1⟩, ⟨.slice A13_0 x13_0.length c13_0, 37, 1, nums .u32 x13_0⟩, ⟨.slice A14_0 x14_0.length c14_0, 37, 1, nums .u32 x14_0⟩]) (h : scrimlaw9_TwofishWords.l1 k_ a2 a3 t11 t5 x13_0 x14_0 x16_1 = some r), RunF Go.Proofs.Try.prog (Ret fun v w' => v = .bool r ∧ Mem w w' []) 7 (pl Go.Proofs.Try.f7 [1, 1, 1, 1, 1, 1, 1, 0, 1, 0, 0]) 172 [(2, .int .i64 a2), (3, .int .u8 a3), (9, .slice A6 t5.length c8), (10, .slice A12 t11.1.length c14), (11, .slice A15 t11.2.1.length c17), (13, .slice A13_0 x13_0.length c13_0), (14, .slice A14_0 x14_0.length c14_0), (16, .int .i64 x16_1)] W := by
                    intro k_
                    induction k_ using Nat.strongRecOn with
                    | _ k_ ih1 =>
                      intro hk x16_1 W hM h
                      cases k_ with
                      | zero => exact absurd h (by simp [scrimlaw9_TwofishWords.l1])
                      | succ k =>
                        simp only [scrimlaw9_TwofishWords.l1] at h
                        replace ih1 : ∀ m, m ≤ k → _ := fun m hm => ih1 m (by omega) (by omega)
                        replace ih0 : ∀ m, m ≤ k → _ := fun m hm => ih0 m (by omega)
                        refine RunF.go 6 [2, 3, 9, 10, 11, 13, 14, 16, 79] (k' := (pl Go.Proofs.Try.f7 [1, 1, 1, 1, 1, 1, 1, 0, 1, 0, 0, 0, 1])) (L' := [(2, .int .i64 a2), (3, .int .u8 a3), (9, .slice A6 t5.length c8), (10, .slice A12 t11.1.length c14), (11, .slice A15 t11.2.1.length c17), (13, .slice A13_0 x13_0.length c13_0), (14, .slice A14_0 x14_0.length c14_0), (16, .int .i64 x16_1), (79, .bool (decide (x16_1 < 20)))]) (w' := W) (by kernel_rfl) ?_
                        rcases two (decide (x16_1 < 20)) with c67 | c67
                        · replace h := of_true h c67
                          refine RunF.know 79 (b := true) (by kernel_rfl) c67 ?_
                          refine RunF.go 11 [2, 3, 9, 10, 11, 13, 14, 16, 85, 86] (k' := (pin Go.Proofs.Try.f7 [1, 1, 1, 1, 1, 1, 1, 0, 1, 0, 0, 1, 0, 0, 0] 5)) (L' := [(2, .int .i64 a2), (3, .int .u8 a3), (9, .slice A6 t5.length c8), (10, .slice A12 t11.1.length c14), (11, .slice A15 t11.2.1.length c17), (13, .slice A13_0 x13_0.length c13_0), (14, .slice A14_0 x14_0.length c14_0), (16, .int .i64 x16_1), (85, .int .u32 (U32 ((U32 (I64 (2 * x16_1))) * 16843009))), (86, .slice A13_0 x13_0.length c13_0)]) (w' := W) (by kernel_rfl) ?_
                          obtain ⟨t69, ht69, h⟩ := Option.bind_eq_some_iff.mp h
                          refine RunF.call (d := some 87) (g := 16) (args := #[.int .u32 (U32 ((U32 (I64 (2 * x16_1))) * 16843009)), .slice A13_0 x13_0.length c13_0]) (k2 := (pin Go.Proofs.Try.f7 [1, 1, 1, 1, 1, 1, 1, 0, 1, 0, 0, 1, 0, 0, 0] 6)) (by kernel_rfl) (twofish_H.calls k (U32 ((U32 (I64 (2 * x16_1))) * 16843009)) A13_0 x13_0.length c13_0 x13_0 t69 _ (hM.rd 3 rfl) ht69) ?_
                          rintro _ W68 ⟨rfl, hM_⟩
                          replace hM := hM.call hM_
                          clear hM_ ht69
                          refine RunF.go 10 [2, 3, 9, 10, 11, 13, 14, 16, 17, 92, 93] (k' := (pin Go.Proofs.Try.f7 [1, 1, 1, 1, 1, 1, 1, 0, 1, 0, 0, 1, 0, 0, 1, 0] 6)) (L' := [(2, .int .i64 a2), (3, .int .u8 a3), (9, .slice A6 t5.length c8), (10, .slice A12 t11.1.length c14), (11, .slice A15 t11.2.1.length c17), (13, .slice A13_0 x13_0.length c13_0), (14, .slice A14_0 x14_0.length c14_0), (16, .int .i64 x16_1), (17, .int .u32 t69), (92, .int .u32 (U32 ((U32 (I64 ((I64 (2 * x16_1)) + 1))) * 16843009))), (93, .slice A14_0 x14_0.length c14_0)]) (w' := W68) (by kernel_rfl) ?_
                          obtain ⟨y70, hy, h⟩ := Option.bind_eq_some_iff.mp h
                          rw [show (U32 ((U32 (I64 ((I64 (2 * x16_1)) + 1))) * 16843009)) = y70 from Option.some.inj hy]
                          clear hy
                          obtain ⟨t72, ht72, h⟩ := Option.bind_eq_some_iff.mp h
                          refine RunF.call (d := some 94) (g := 16) (args := #[.int .u32 y70, .slice A14_0 x14_0.length c14_0]) (k2 := (pin Go.Proofs.Try.f7 [1, 1, 1, 1, 1, 1, 1, 0, 1, 0, 0, 1, 0, 0, 1, 0] 7)) (by kernel_rfl) (twofish_H.calls k y70 A14_0 x14_0.length c14_0 x14_0 t72 _ (hM.rd 4 rfl) ht72) ?_
                          rintro _ W71 ⟨rfl, hM_⟩
                          replace hM := hM.call hM_
                          clear hM_ ht72
                          obtain ⟨t74, ht74, h⟩ := Option.bind_eq_some_iff.mp h
                          refine RunF.call (d := some 95) (g := 21) (args := #[.int .u32 t72, .int .i64 8]) (k2 := (pin Go.Proofs.Try.f7 [1, 1, 1, 1, 1, 1, 1, 0, 1, 0, 0, 1, 0, 0, 1, 0] 8)) (by kernel_rfl) (scrimref1_Rol32.calls k t72 8 t74 _ ht74) ?_
                          rintro _ W73 ⟨rfl, hM_⟩
                          replace hM := hM.call hM_
                          clear hM_ ht74
                          refine RunF.go 3 [2, 3, 9, 10, 11, 13, 14, 16, 17, 18] (k' := (pl Go.Proofs.Try.f7 [1, 1, 1, 1, 1, 1, 1, 0, 1, 0, 0, 1, 0, 0, 1, 1, 0])) (L' := [(2, .int .i64 a2), (3, .int .u8 a3), (9, .slice A6 t5.length c8), (10, .slice A12 t11.1.length c14), (11, .slice A15 t11.2.1.length c17), (13, .slice A13_0 x13_0.length c13_0), (14, .slice A14_0 x14_0.length c14_0), (16, .int .i64 x16_1), (17, .int .u32 t69), (18, .int .u32 t74)]) (w' := W73) (by kernel_rfl) ?_
                          refine RunF.draw (Still ({ W73 with drawn := W73.drawn + 1 } : World) []) (by kernel_rfl) (by kernel_rfl) ?_
                          have hMd76 := hM.drew
                          have hS := Still.refl ({ W73 with drawn := W73.drawn + 1 } : World) []
                          generalize ({ W73 with drawn := W73.drawn + 1 } : World) = W75 at hMd76 hS ⊢
                          replace hM := hMd76
                          refine RunAny.y 0 (by kernel_rfl) (yl_pure (d := some 96) (v := .slice A12 t11.1.length c14) (k2 := [.inRegion (opsOf (pl Go.Proofs.Try.f7 [1, 1, 1, 1, 1, 1, 1, 0, 1, 0, 0, 1, 0, 0, 1, 1, 0])) []]) fun w => by kernel_rfl) (fun _ _ => trivial) hS ?_
                          refine RunAny.y 1 (by kernel_rfl) (yl_pure (d := some 97) (v := .int .i64 x16_1) (k2 := [.inRegion (opsOf (pl Go.Proofs.Try.f7 [1, 1, 1, 1, 1, 1, 1, 0, 1, 0, 0, 1, 0, 0, 1, 1, 0])) []]) fun w => by kernel_rfl) (fun _ _ => trivial) hS ?_
                          refine RunAny.y 2 (by kernel_rfl) (yl_pure (d := some 98) (v := .int .i64 (I64 (2 * x16_1))) (k2 := [.inRegion (opsOf (pl Go.Proofs.Try.f7 [1, 1, 1, 1, 1, 1, 1, 0, 1, 0, 0, 1, 0, 0, 1, 1, 0])) []]) fun w => by kernel_rfl) (fun _ _ => trivial) hS ?_
                          rcases two (decide (0 ≤ (I64 (2 * x16_1)))) with c78 | c78
                          · replace h := of_true h c78
                            rcases two (decide ((I64 (2 * x16_1)) < (t11.1.length : Int))) with c79 | c79
                            · replace h := of_true h c79
                              obtain ⟨q77, hAq77, hcq77, hfq77, hlq77⟩ := hM.num_at 1 rfl (i := I64 (2 * x16_1)) (of_decide_eq_true c78) (by have h_ := of_decide_eq_true c79; omega)
                              refine RunAny.y 3 (by kernel_rfl) (idx_own (d := some 99) (A := A12) (m := t11.1.length) (i := I64 (2 * x16_1)) (k2 := [.inRegion (opsOf (pl Go.Proofs.Try.f7 [1, 1, 1, 1, 1, 1, 1, 0, 1, 0, 0, 1, 0, 0, 1, 1, 0])) []]) (by kernel_rfl) (of_decide_eq_true c78) (by have h_ := of_decide_eq_true c79; omega) hAq77) (fun _ _ => trivial) hS ?_
                              refine RunAny.y 4 (by kernel_rfl) (ld_y (d := some 100) (p := ⟨q77, (I64 (2 * x16_1) : Int).toNat, none⟩) (k2 := [.inRegion (opsOf (pl Go.Proofs.Try.f7 [1, 1, 1, 1, 1, 1, 1, 0, 1, 0, 0, 1, 0, 0, 1, 1, 0])) []]) (.int .u32 (rd t11.1 (I64 (2 * x16_1)))) (by kernel_rfl)) (fun _ hs => hs.cell hcq77 (by simp)) hS ?_
                              refine RunAny.y 5 (by kernel_rfl) (yl_pure (d := some 101) (v := .int .u32 t69) (k2 := [.inRegion (opsOf (pl Go.Proofs.Try.f7 [1, 1, 1, 1, 1, 1, 1, 0, 1, 0, 0, 1, 0, 0, 1, 1, 0])) []]) fun w => by kernel_rfl) (fun _ _ => trivial) hS ?_
                              refine RunAny.y 6 (by kernel_rfl) (yl_pure (d := some 102) (v := .int .u32 t74) (k2 := [.inRegion (opsOf (pl Go.Proofs.Try.f7 [1, 1, 1, 1, 1, 1, 1, 0, 1, 0, 0, 1, 0, 0, 1, 1, 0])) []]) fun w => by kernel_rfl) (fun _ _ => trivial) hS ?_
                              refine RunAny.y 7 (by kernel_rfl) (yl_pure (d := some 103) (v := .int .u32 (U32 (t69 + t74))) (k2 := [.inRegion (opsOf (pl Go.Proofs.Try.f7 [1, 1, 1, 1, 1, 1, 1, 0, 1, 0, 0, 1, 0, 0, 1, 1, 0])) []]) fun w => by kernel_rfl) (fun _ _ => trivial) hS ?_
                              refine RunAny.y 8 (by kernel_rfl) (yl_pure (d := some 104) (v := .bool ((rd t11.1 (I64 (2 * x16_1))) != (U32 (t69 + t74)))) (k2 := [.inRegion (opsOf (pl Go.Proofs.Try.f7 [1, 1, 1, 1, 1, 1, 1, 0, 1, 0, 0, 1, 0, 0, 1, 1, 0])) []]) fun w => by kernel_rfl) (fun _ _ => trivial) hS ?_
                              refine RunAny.y 9 (by kernel_rfl) (yl_pure (d := some 105) (v := .bool ((rd t11.1 (I64 (2 * x16_1))) != (U32 (t69 + t74)))) (k2 := [.inRegion (opsOf (pl Go.Proofs.Try.f7 [1, 1, 1, 1, 1, 1, 1, 0, 1, 0, 0, 1, 0, 0, 1, 1, 0])) []]) fun w => by kernel_rfl) (fun _ _ => trivial) hS ?_
                              rcases two (((rd t11.1 (I64 (2 * x16_1))) != (U32 (t69 + t74)))) with c80 | c80
                              · replace h := of_true h c80
                                refine RunAny.know 105 (b := true) (by kernel_rfl) c80 ?_
                                refine RunAny.off 10 (d := some 106) (by kernel_rfl) (by kernel_rfl) hS ?_
                                refine RunAny.off 11 (d := some 107) (by kernel_rfl) (by kernel_rfl) hS ?_
                                refine RunAny.off 12 (d := some 108) (by kernel_rfl) (by kernel_rfl) hS ?_
                                refine RunAny.off 13 (d := some 109) (by kernel_rfl) (by kernel_rfl) hS ?_
                                refine RunAny.off 14 (d := some 110) (by kernel_rfl) (by kernel_rfl) hS ?_
                                refine RunAny.off 15 (d := some 111) (by kernel_rfl) (by kernel_rfl) hS ?_
                                refine RunAny.off 16 (d := some 112) (by kernel_rfl) (by kernel_rfl) hS ?_
                                refine RunAny.off 17 (d := some 113) (by kernel_rfl) (by kernel_rfl) hS ?_
                                refine RunAny.off 18 (d := some 114) (by kernel_rfl) (by kernel_rfl) hS ?_
                                refine RunAny.off 19 (d := some 115) (by kernel_rfl) (by kernel_rfl) hS ?_
                                refine RunAny.off 20 (d := some 116) (by kernel_rfl) (by kernel_rfl) hS ?_
                                refine RunAny.off 21 (d := some 117) (by kernel_rfl) (by kernel_rfl) hS ?_
                                refine RunAny.y 22 (by kernel_rfl) (yl_pure (d := some 118) (v := .bool true) (k2 := [.inRegion (opsOf (pl Go.Proofs.Try.f7 [1, 1, 1, 1, 1, 1, 1, 0, 1, 0, 0, 1, 0, 0, 1, 1, 0])) []]) fun w => by kernel_rfl) (fun _ _ => trivial) hS ?_
                                refine RunAny.done (by kernel_rfl) ?_
                                clear hS
                                refine RunF.go 5 [8] (k' := (pl Go.Proofs.Try.f7 [1, 1, 1, 1, 1, 1, 1, 0, 1, 0, 0, 1, 0, 0, 1, 1, 1, 0, 1])) (L' := [(8, .bool false)]) (w' := W75) (by kernel_rfl) ?_
                                obtain rfl := Option.some.inj h
                                exact RunF.ret1 8 (.bool false) (fn := Go.Proofs.Try.f7) Go.Proofs.Try.func7 (by kernel_rfl) (by kernel_rfl) (by kernel_rfl) ⟨_, rfl, rfl, (hM.pick [] rfl rfl)⟩
                              · replace h := of_false h c80
                                refine RunAny.know 105 (b := false) (by kernel_rfl) c80 ?_
                                refine RunAny.y 10 (by kernel_rfl) (yl_pure (d := some 106) (v := .slice A12 t11.1.length c14) (k2 := [.inRegion (opsOf (pl Go.Proofs.Try.f7 [1, 1, 1, 1, 1, 1, 1, 0, 1, 0, 0, 1, 0, 0, 1, 1, 0])) []]) fun w => by kernel_rfl) (fun _ _ => trivial) hS ?_
                                refine RunAny.y 11 (by kernel_rfl) (yl_pure (d := some 107) (v := .int .i64 x16_1) (k2 := [.inRegion (opsOf (pl Go.Proofs.Try.f7 [1, 1, 1, 1, 1, 1, 1, 0, 1, 0, 0, 1, 0, 0, 1, 1, 0])) []]) fun w => by kernel_rfl) (fun _ _ => trivial) hS ?_
                                refine RunAny.y 12 (by kernel_rfl) (yl_pure (d := some 108) (v := .int .i64 (I64 (2 * x16_1))) (k2 := [.inRegion (opsOf (pl Go.Proofs.Try.f7 [1, 1, 1, 1, 1, 1, 1, 0, 1, 0, 0, 1, 0, 0, 1, 1, 0])) []]) fun w => by kernel_rfl) (fun _ _ => trivial) hS ?_
                                refine RunAny.y 13 (by kernel_rfl) (yl_pure (d := some 109) (v := .int .i64 (I64 ((I64 (2 * x16_1)) + 1))) (k2 := [.inRegion (opsOf (pl Go.Proofs.Try.f7 [1, 1, 1, 1, 1, 1, 1, 0, 1, 0, 0, 1, 0, 0, 1, 1, 0])) []]) fun w => by kernel_rfl) (fun _ _ => trivial) hS ?_
                                rcases two (decide (0 ≤ (I64 ((I64 (2 * x16_1)) + 1)))) with c82 | c82
                                · replace h := of_true h c82
                                  rcases two (decide ((I64 ((I64 (2 * x16_1)) + 1)) < (t11.1.length : Int))) with c83 | c83
                                  · replace h := of_true h c83
                                    obtain ⟨q81, hAq81, hcq81, hfq81, hlq81⟩ := hM.num_at 1 rfl (i := I64 ((I64 (2 * x16_1)) + 1)) (of_decide_eq_true c82) (by have h_ := of_decide_eq_true c83; omega)
                                    refine RunAny.y 14 (by kernel_rfl) (idx_own (d := some 110) (A := A12) (m := t11.1.length) (i := I64 ((I64 (2 * x16_1)) + 1)) (k2 := [.inRegion (opsOf (pl Go.Proofs.Try.f7 [1, 1, 1, 1, 1, 1, 1, 0, 1, 0, 0, 1, 0, 0, 1, 1, 0])) []]) (by kernel_rfl) (of_decide_eq_true c82) (by have h_ := of_decide_eq_true c83; omega) hAq81) (fun _ _ => trivial) hS ?_
                                    refine RunAny.y 15 (by kernel_rfl) (ld_y (d := some 111) (p := ⟨q81, (I64 ((I64 (2 * x16_1)) + 1) : Int).toNat, none⟩) (k2 := [.inRegion (opsOf (pl Go.Proofs.Try.f7 [1, 1, 1, 1, 1, 1, 1, 0, 1, 0, 0, 1, 0, 0, 1, 1, 0])) []]) (.int .u32 (rd t11.1 (I64 ((I64 (2 * x16_1)) + 1)))) (by kernel_rfl)) (fun _ hs => hs.cell hcq81 (by simp)) hS ?_
                                    refine RunAny.y 16 (by kernel_rfl) (yl_pure (d := some 112) (v := .int .u32 t69) (k2 := [.inRegion (opsOf (pl Go.Proofs.Try.f7 [1, 1, 1, 1, 1, 1, 1, 0, 1, 0, 0, 1, 0, 0, 1, 1, 0])) []]) fun w => by kernel_rfl) (fun _ _ => trivial) hS ?_
                                    refine RunAny.y 17 (by kernel_rfl) (yl_pure (d := some 113) (v := .int .u32 t74) (k2 := [.inRegion (opsOf (pl Go.Proofs.Try.f7 [1, 1, 1, 1, 1, 1, 1, 0, 1, 0, 0, 1, 0, 0, 1, 1, 0])) []]) fun w => by kernel_rfl) (fun _ _ => trivial) hS ?_
                                    refine RunAny.y 18 (by kernel_rfl) (yl_pure (d := some 114) (v := .int .u32 (U32 (2 * t74))) (k2 := [.inRegion (opsOf (pl Go.Proofs.Try.f7 [1, 1, 1, 1, 1, 1, 1, 0, 1, 0, 0, 1, 0, 0, 1, 1, 0])) []]) fun w => by kernel_rfl) (fun _ _ => trivial) hS ?_
                                    refine RunAny.y 19 (by kernel_rfl) (yl_pure (d := some 115) (v := .int .u32 (U32 (t69 + (U32 (2 * t74))))) (k2 := [.inRegion (opsOf (pl Go.Proofs.Try.f7 [1, 1, 1, 1, 1, 1, 1, 0, 1, 0, 0, 1, 0, 0, 1, 1, 0])) []]) fun w => by kernel_rfl) (fun _ _ => trivial) hS ?_
                                    obtain ⟨t85, ht85, h⟩ := Option.bind_eq_some_iff.mp h
                                    refine RunAny.call 20 (d := some 116) (g := 21) (args := #[.int .u32 (U32 (t69 + (U32 (2 * t74)))), .int .i64 9]) (by kernel_rfl) (by kernel_rfl) (scrimref1_Rol32.calls k (U32 (t69 + (U32 (2 * t74)))) 9 t85 _ ht85) (by rintro _ _ ⟨rfl, hM_⟩; exact hS.below hM_.below) ?_
                                    rintro _ W84 ⟨rfl, hM_⟩
                                    replace hS := hS.below hM_.below
                                    replace hM := hM.call hM_
                                    clear hM_ ht85
                                    refine RunAny.rebase hS ?_
                                    replace hS := Still.refl W84 []
                                    refine RunAny.y 21 (by kernel_rfl) (yl_pure (d := some 117) (v := .bool ((rd t11.1 (I64 ((I64 (2 * x16_1)) + 1))) != t85)) (k2 := [.inRegion (opsOf (pl Go.Proofs.Try.f7 [1, 1, 1, 1, 1, 1, 1, 0, 1, 0, 0, 1, 0, 0, 1, 1, 0])) []]) fun w => by kernel_rfl) (fun _ _ => trivial) hS ?_
                                    refine RunAny.y 22 (by kernel_rfl) (yl_pure (d := some 118) (v := .bool ((rd t11.1 (I64 ((I64 (2 * x16_1)) + 1))) != t85)) (k2 := [.inRegion (opsOf (pl Go.Proofs.Try.f7 [1, 1, 1, 1, 1, 1, 1, 0, 1, 0, 0, 1, 0, 0, 1, 1, 0])) []]) fun w => by kernel_rfl) (fun _ _ => trivial) hS ?_
                                    refine RunAny.done (by kernel_rfl) ?_
                                    clear hS
                                    obtain ⟨y86, hy, h⟩ := Option.bind_eq_some_iff.mp h
                                    rw [show (((rd t11.1 (I64 ((I64 (2 * x16_1)) + 1))) != t85)) = y86 from Option.some.inj hy]
                                    clear hy
                                    obtain ⟨y87, hy, h⟩ := Option.bind_eq_some_iff.mp h
                                    rw [show (((rd t11.1 (I64 (2 * x16_1))) != (U32 (t69 + t74)))) = y87 from Option.some.inj hy]
                                    clear hy
                                    rcases two (y86) with c88 | c88
                                    · replace h := of_true h c88
                                      refine RunF.know 118 (b := true) (by kernel_rfl) c88 ?_
                                      refine RunF.go 5 [8] (k' := (pl Go.Proofs.Try.f7 [1, 1, 1, 1, 1, 1, 1, 0, 1, 0, 0, 1, 0, 0, 1, 1, 1, 0, 1])) (L' := [(8, .bool false)]) (w' := W84) (by kernel_rfl) ?_
                                      obtain rfl := Option.some.inj h
                                      exact RunF.ret1 8 (.bool false) (fn := Go.Proofs.Try.f7) Go.Proofs.Try.func7 (by kernel_rfl) (by kernel_rfl) (by kernel_rfl) ⟨_, rfl, rfl, (hM.pick [] rfl rfl)⟩
                                    · replace h := of_false h c88
                                      refine RunF.know 118 (b := false) (by kernel_rfl) c88 ?_
                                      refine RunF.go 9 [2, 3, 9, 10, 11, 13, 14, 16] (k' := (pl Go.Proofs.Try.f7 [1, 1, 1, 1, 1, 1, 1, 0, 1, 0, 0])) (L' := [(2, .int .i64 a2), (3, .int .u8 a3), (9, .slice A6 t5.length c8), (10, .slice A12 t11.1.length c14), (11, .slice A15 t11.2.1.length c17), (13, .slice A13_0 x13_0.length c13_0), (14, .slice A14_0 x14_0.length c14_0), (16, .int .i64 (I64 (x16_1 + 1)))]) (w' := W84) (by kernel_rfl) ?_
                                      exact ih1 k (by omega) (I64 (x16_1 + 1)) _ (hM.pick [0, 1, 2, 3, 4] rfl rfl) h
                                  · replace h := of_false h c83
                                    cases h
                                · replace h := of_false h c82
                                  cases h
                            · replace h := of_false h c79
                              cases h
                          · replace h := of_false h c78
                            cases h
                        · replace h := of_false h c67
                          refine RunF.know 79 (b := false) (by kernel_rfl) c67 ?_
                          refine RunF.go 4 [2, 3, 9, 11] (k' := (pin Go.Proofs.Try.f7 [1, 1, 1, 1, 1, 1, 1, 1, 0] 0)) (L' := [(2, .int .i64 a2), (3, .int .u8 a3), (9, .slice A6 t5.length c8), (11, .slice A15 t11.2.1.length c17)]) (w' := W) (by kernel_rfl) ?_
                          refine RunF.new 5 1 0 (nums .u8 []) (d := some 119) (k2 := (pin Go.Proofs.Try.f7 [1, 1, 1, 1, 1, 1, 1, 1, 0] 1)) hM (by simp [nums, bools, strs]) (by kernel_rfl) (by kernel_rfl) ?_
                          replace hM := hM
                          intro g89 W90 hM
                          refine RunF.go 1 [2, 3, 11, 119, 120] (k' := (pin Go.Proofs.Try.f7 [1, 1, 1, 1, 1, 1, 1, 1, 0] 2)) (L' := [(2, .int .i64 a2), (3, .int .u8 a3), (11, .slice A15 t11.2.1.length c17), (119, .slice (some ⟨g89, 0, none⟩) 0 0), (120, .slice A6 t5.length c8)]) (w' := W90) (by kernel_rfl) ?_
                          rcases two (decide (([] : List Int).length + t5.length ≤ 1000000000)) with c96 | c96
                          · replace h := of_true h c96
                            have h_ := of_decide_eq_true c96
                            obtain ⟨A92, n93, c94, W95, hD, hM', hS_⟩ := app_does (P := Go.Proofs.Try.prog) (n := 172) (k := (pin Go.Proofs.Try.f7 [1, 1, 1, 1, 1, 1, 1, 1, 0] 2)) (L := [(2, .int .i64 a2), (3, .int .u8 a3), (11, .slice A15 t11.2.1.length c17), (119, .slice (some ⟨g89, 0, none⟩) 0 0), (120, .slice A6 t5.length c8)]) (d := some 121) (e := 5) (A := (some ⟨g89, 0, none⟩)) (m := 0) (c := 0) (A2 := A6) (m2 := t5.length) (c2 := c8) (cs := nums .u8 ([] : List Int)) (ys := nums .u8 t5) (k2 := (pin Go.Proofs.Try.f7 [1, 1, 1, 1, 1, 1, 1, 1, 0] 3)) [] [⟨.slice A6 t5.length c8, 5, 1, nums .u8 t5⟩, ⟨.slice A12 t11.1.length c14, 37, 1, nums .u32 t11.1⟩, ⟨.slice A15 t11.2.1.length c17, 37, 1, nums .u32 t11.2.1⟩, ⟨.slice A13_0 x13_0.length c13_0, 37, 1, nums .u32 x13_0⟩, ⟨.slice A14_0 x14_0.length c14_0, 37, 1, nums .u32 x14_0⟩] (by kernel_rfl) (hM.pick [0, 1, 2, 3, 4, 5] rfl rfl) (hM.rd 1 rfl) (one_nums _ _) (by omega)
                            rw [nums_append] at hM'
                            replace hM := hM'; clear h_ hM'
                            obtain rfl : (([] : List Int) ++ t5).length = n93 := by have h_ := (hM.rd 0 rfl).1; simpa only [nums_length, bools_length, strs_length] using h_
                            refine RunF.does hD ?_
                            clear hD hS_
                            refine RunF.go 7 [3, 11, 19, 122, 124] (k' := (pin Go.Proofs.Try.f7 [1, 1, 1, 1, 1, 1, 1, 1, 1, 0] 3)) (L' := [(3, .int .u8 a3), (11, .slice A15 t11.2.1.length c17), (19, .slice A92 ((([] : List Int) ++ t5).length) c94), (122, .int .i64 a2), (124, .int .i64 ((([] : List Int) ++ t5).length : Int))]) (w' := W95) (by kernel_rfl) ?_
                            obtain ⟨t99, ht99, h⟩ := Option.bind_eq_some_iff.mp h
                            refine RunF.call (d := some 125) (g := 13) (args := #[.int .i64 a2, .int .i64 ((([] : List Int) ++ t5).length : Int)]) (k2 := (pin Go.Proofs.Try.f7 [1, 1, 1, 1, 1, 1, 1, 1, 1, 0] 4)) (by kernel_rfl) (scrimlaw9_within.calls k a2 ((([] : List Int) ++ t5).length : Int) t99 _ ht99) ?_
                            rintro _ W98 ⟨rfl, hM_⟩
                            replace hM := hM.call hM_
                            clear hM_ ht99
                            refine RunF.go 6 [3, 11, 19, 20, 126, 127] (k' := (pin Go.Proofs.Try.f7 [1, 1, 1, 1, 1, 1, 1, 1, 1, 1, 0] 2)) (L' := [(3, .int .u8 a3), (11, .slice A15 t11.2.1.length c17), (19, .slice A92 ((([] : List Int) ++ t5).length) c94), (20, .int .i64 t99), (126, .slice A92 ((([] : List Int) ++ t5).length) c94), (127, .int .i64 t99)]) (w' := W98) (by kernel_rfl) ?_
                            rcases two (decide (0 ≤ t99)) with c101 | c101
                            · replace h := of_true h c101
                              rcases two (decide (t99 < ((([] : List Int) ++ t5).length : Int))) with c102 | c102
                              · replace h := of_true h c102
                                obtain ⟨q100, hAq100, hcq100, hfq100, hlq100⟩ := hM.num_at 0 rfl (i := t99) (of_decide_eq_true c101) (by have h_ := of_decide_eq_true c102; omega)
                                refine RunF.y (idx_own (d := some 128) (A := A92) (m := (([] : List Int) ++ t5).length) (i := t99) (k2 := (pin Go.Proofs.Try.f7 [1, 1, 1, 1, 1, 1, 1, 1, 1, 1, 0] 3)) (by kernel_rfl) (of_decide_eq_true c101) (by have h_ := of_decide_eq_true c102; omega) hAq100) trivial ?_
                                refine RunF.y (ld_y (d := some 129) (p := ⟨q100, (t99 : Int).toNat, none⟩) (k2 := (pin Go.Proofs.Try.f7 [1, 1, 1, 1, 1, 1, 1, 1, 1, 1, 0] 4)) (.int .u8 (rd (([] : List Int) ++ t5) t99)) (by kernel_rfl)) hcq100 ?_
                                refine RunF.go 2 [3, 11, 19, 20, 126, 127, 131] (k' := (pin Go.Proofs.Try.f7 [1, 1, 1, 1, 1, 1, 1, 1, 1, 1, 0] 6)) (L' := [(3, .int .u8 a3), (11, .slice A15 t11.2.1.length c17), (19, .slice A92 ((([] : List Int) ++ t5).length) c94), (20, .int .i64 t99), (126, .slice A92 ((([] : List Int) ++ t5).length) c94), (127, .int .i64 t99), (131, .int .u8 (bxor .u8 (rd (([] : List Int) ++ t5) t99) a3))]) (w' := W98) (by kernel_rfl) ?_
                                rcases two (decide (0 ≤ t99)) with c104 | c104
                                · replace h := of_true h c104
                                  rcases two (decide (t99 < ((([] : List Int) ++ t5).length : Int))) with c105 | c105
                                  · replace h := of_true h c105
                                    obtain ⟨q103, hAq103, hcq103, hfq103, hlq103⟩ := hM.num_at 0 rfl (i := t99) (of_decide_eq_true c104) (by have h_ := of_decide_eq_true c105; omega)
                                    refine RunF.y (idx_own (d := some 132) (A := A92) (m := (([] : List Int) ++ t5).length) (i := t99) (k2 := (pin Go.Proofs.Try.f7 [1, 1, 1, 1, 1, 1, 1, 1, 1, 1, 0] 7)) (by kernel_rfl) (of_decide_eq_true c104) (by have h_ := of_decide_eq_true c105; omega) hAq103) trivial ?_
                                    obtain ⟨g_, hA_, hc_, hf_, hl_⟩ := hM.num_at 0 rfl (i := t99) (of_decide_eq_true c104) (by have h_ := of_decide_eq_true c105; omega)
                                    obtain rfl : q103 = g_ := by rw [hAq103] at hA_; injection hA_ with hA_; injection hA_
                                    refine RunF.doesU (st_u (p := (⟨q103, (t99 : Int).toNat, none⟩ : Addr)) (v := .int .u8 (bxor .u8 (rd (([] : List Int) ++ t5) t99) a3)) (k2 := (pin Go.Proofs.Try.f7 [1, 1, 1, 1, 1, 1, 1, 1, 1, 1, 0] 8)) (by kernel_rfl) hc_ hf_) ?_
                                    replace hM : Mem w (W98.setCell (⟨q103, (t99 : Int).toNat, none⟩ : Addr) (.int .u8 (bxor .u8 (rd (([] : List Int) ++ t5) t99) a3))) [⟨.slice A92 ((([] : List Int) ++ t5).length) c94, 5, 1, nums .u8 ((([] : List Int) ++ t5).set (t99 : Int).toNat (bxor .u8 (rd (([] : List Int) ++ t5) t99) a3))⟩, ⟨.slice A6 t5.length c8, 5, 1, nums .u8 t5⟩, ⟨.slice A12 t11.1.length c14, 37, 1, nums .u32 t11.1⟩, ⟨.slice A15 t11.2.1.length c17, 37, 1, nums .u32 t11.2.1⟩, ⟨.slice A13_0 x13_0.length c13_0, 37, 1, nums .u32 x13_0⟩, ⟨.slice A14_0 x14_0.length c14_0, 37, 1, nums .u32 x14_0⟩] := Mem.put_num [] [⟨.slice A6 t5.length c8, 5, 1, nums .u8 t5⟩, ⟨.slice A12 t11.1.length c14, 37, 1, nums .u32 t11.1⟩, ⟨.slice A15 t11.2.1.length c17, 37, 1, nums .u32 t11.2.1⟩, ⟨.slice A13_0 x13_0.length c13_0, 37, 1, nums .u32 x13_0⟩, ⟨.slice A14_0 x14_0.length c14_0, 37, 1, nums .u32 x14_0⟩] (hM.pick [0, 1, 2, 3, 4, 5] rfl rfl) hAq103 _ hl_ _
                                    generalize W98.setCell (⟨q103, (t99 : Int).toNat, none⟩ : Addr) (.int .u8 (bxor .u8 (rd (([] : List Int) ++ t5) t99) a3)) = W106 at hM ⊢
                                    clear hc_ hf_ hl_ hA_ hcq103
                                    refine RunF.go 4 [3, 11, 20, 134] (k' := (pin Go.Proofs.Try.f7 [1, 1, 1, 1, 1, 1, 1, 1, 1, 1, 1, 0] 1)) (L' := [(3, .int .u8 a3), (11, .slice A15 t11.2.1.length c17), (20, .int .i64 t99), (134, .slice A92 ((([] : List Int) ++ t5).length) c94)]) (w' := W106) (by kernel_rfl) ?_
                                    obtain ⟨t108, ht108, h⟩ := Option.bind_eq_some_iff.mp h
                                    refine RunF.call (d := some 135) (g := 9) (args := #[.slice A92 ((([] : List Int) ++ t5).length) c94]) (k2 := (pin Go.Proofs.Try.f7 [1, 1, 1, 1, 1, 1, 1, 1, 1, 1, 1, 0] 2)) (by kernel_rfl) (twofish_Keys.calls k A92 ((([] : List Int) ++ t5).length) c94 ((([] : List Int) ++ t5).set (t99 : Int).toNat (bxor .u8 (rd (([] : List Int) ++ t5) t99) a3)) t108 _ (hM.rd 0 rfl) ht108) ?_
                                    rintro _ W107 ⟨A109, n110, c111, A112, n113, c114, rfl, hM_⟩
                                    obtain rfl : t108.1.length = n110 := by have h_ := (hM_.rd 0 rfl).1; simpa [nums_length, bools_length, strs_length] using h_
                                    obtain rfl : t108.2.1.length = n113 := by have h_ := (hM_.rd 1 rfl).1; simpa [nums_length, bools_length, strs_length] using h_
                                    replace hM := hM.call hM_
                                    clear hM_ ht108
                                    refine RunF.go 17 [3, 11, 20, 22, 143] (k' := (pl Go.Proofs.Try.f7 [1, 1, 1, 1, 1, 1, 1, 1, 1, 1, 1, 1, 0, 1])) (L' := [(3, .int .u8 a3), (11, .slice A15 t11.2.1.length c17), (20, .int .i64 t99), (22, .slice A112 t108.2.1.length c114), (143, .bool ((t108.2.1.length : Int) != (t11.2.1.length : Int)))]) (w' := W107) (by kernel_rfl) ?_
                                    obtain ⟨y117, hy, h⟩ := Option.bind_eq_some_iff.mp h
                                    rw [show (((t108.2.1.length : Int) != (t11.2.1.length : Int))) = y117 from Option.some.inj hy]
                                    clear hy
                                    rcases two (y117) with c118 | c118
                                    · replace h := of_true h c118
                                      refine RunF.know 143 (b := true) (by kernel_rfl) c118 ?_
                                      refine RunF.go 5 [8] (k' := (pl Go.Proofs.Try.f7 [1, 1, 1, 1, 1, 1, 1, 1, 1, 1, 1, 1, 0, 1, 0, 1])) (L' := [(8, .bool false)]) (w' := W107) (by kernel_rfl) ?_
                                      obtain rfl := Option.some.inj h
                                      exact RunF.ret1 8 (.bool false) (fn := Go.Proofs.Try.f7) Go.Proofs.Try.func7 (by kernel_rfl) (by kernel_rfl) (by kernel_rfl) ⟨_, rfl, rfl, (hM.pick [] rfl rfl)⟩
                                    · replace h := of_false h c118
                                      refine RunF.know 143 (b := false) (by kernel_rfl) c118 ?_
                                      refine RunF.go 9 [3, 11, 20, 22, 24] (k' := (pl Go.Proofs.Try.f7 [1, 1, 1, 1, 1, 1, 1, 1, 1, 1, 1, 1, 1, 0, 1, 0, 0])) (L' := [(3, .int .u8 a3), (11, .slice A15 t11.2.1.length c17), (20, .int .i64 t99), (22, .slice A112 t108.2.1.length c114), (24, .int .i64 0)]) (w' := W107) (by kernel_rfl) ?_
                                      have l2 : ∀ (k_ : Nat), k_ ≤ k → ∀ (x24_2 : Int) (W : World) (hM : Mem w W [⟨.slice A15 t11.2.1.length c17, 37, 1, nums .u32 t11.2.1⟩, ⟨.slice A112 t108.2.1.length c114, 37, 1, nums .u32 t108.2.1⟩]) (h : scrimlaw9_TwofishWords.l2 k_ a3 t108 t11 t99 x24_2 = some r), RunF Go.Proofs.Try.prog (Ret fun v w' => v = .bool r ∧ Mem w w' []) 7 (pl Go.Proofs.Try.f7 [1, 1, 1, 1, 1, 1, 1, 1, 1, 1, 1, 1, 1, 0, 1, 0, 0]) 172 [(3, .int .u8 a3), (11, .slice A15 t11.2.1.length c17), (20, .int .i64 t99), (22, .slice A112 t108.2.1.length c114), (24, .int .i64 x24_2)] W := by
                                        intro k_
                                        induction k_ using Nat.strongRecOn with
                                        | _ k_ ih2 =>
                                          intro hk x24_2 W hM h
                                          cases k_ with
                                          | zero => exact absurd h (by simp [scrimlaw9_TwofishWords.l2])
                                          | succ k =>
                                            simp only [scrimlaw9_TwofishWords.l2] at h
                                            replace ih2 : ∀ m, m ≤ k → _ := fun m hm => ih2 m (by omega) (by omega)
                                            replace ih0 : ∀ m, m ≤ k → _ := fun m hm => ih0 m (by omega)
                                            replace ih1 : ∀ m, m ≤ k → _ := fun m hm => ih1 m (by omega)
                                            refine RunF.go 8 [3, 11, 20, 22, 24, 147] (k' := (pl Go.Proofs.Try.f7 [1, 1, 1, 1, 1, 1, 1, 1, 1, 1, 1, 1, 1, 0, 1, 0, 0, 0, 1])) (L' := [(3, .int .u8 a3), (11, .slice A15 t11.2.1.length c17), (20, .int .i64 t99), (22, .slice A112 t108.2.1.length c114), (24, .int .i64 x24_2), (147, .bool (decide (x24_2 < (t11.2.1.length : Int))))]) (w' := W) (by kernel_rfl) ?_
                                            rcases two (decide (x24_2 < (t11.2.1.length : Int))) with c119 | c119
                                            · replace h := of_true h c119
                                              refine RunF.know 147 (b := true) (by kernel_rfl) c119 ?_
                                              refine RunF.go 5 [3, 11, 20, 22, 24] (k' := (pl Go.Proofs.Try.f7 [1, 1, 1, 1, 1, 1, 1, 1, 1, 1, 1, 1, 1, 0, 1, 0, 0, 1, 0, 0, 0])) (L' := [(3, .int .u8 a3), (11, .slice A15 t11.2.1.length c17), (20, .int .i64 t99), (22, .slice A112 t108.2.1.length c114), (24, .int .i64 x24_2)]) (w' := W) (by kernel_rfl) ?_
                                              refine RunF.draw (Still ({ W with drawn := W.drawn + 1 } : World) []) (by kernel_rfl) (by kernel_rfl) ?_
                                              have hMd121 := hM.drew
                                              have hS := Still.refl ({ W with drawn := W.drawn + 1 } : World) []
                                              generalize ({ W with drawn := W.drawn + 1 } : World) = W120 at hMd121 hS ⊢
                                              replace hM := hMd121
                                              refine RunAny.y 0 (by kernel_rfl) (yl_pure (d := some 150) (v := .slice A15 t11.2.1.length c17) (k2 := [.inRegion (opsOf (pl Go.Proofs.Try.f7 [1, 1, 1, 1, 1, 1, 1, 1, 1, 1, 1, 1, 1, 0, 1, 0, 0, 1, 0, 0, 0])) []]) fun w => by kernel_rfl) (fun _ _ => trivial) hS ?_
                                              refine RunAny.y 1 (by kernel_rfl) (yl_pure (d := some 151) (v := .int .i64 x24_2) (k2 := [.inRegion (opsOf (pl Go.Proofs.Try.f7 [1, 1, 1, 1, 1, 1, 1, 1, 1, 1, 1, 1, 1, 0, 1, 0, 0, 1, 0, 0, 0])) []]) fun w => by kernel_rfl) (fun _ _ => trivial) hS ?_
                                              rcases two (decide (0 ≤ x24_2)) with c123 | c123
                                              · replace h := of_true h c123
                                                rcases two (decide (x24_2 < (t11.2.1.length : Int))) with c124 | c124
                                                · replace h := of_true h c124
                                                  obtain ⟨q122, hAq122, hcq122, hfq122, hlq122⟩ := hM.num_at 0 rfl (i := x24_2) (of_decide_eq_true c123) (by have h_ := of_decide_eq_true c124; omega)
                                                  refine RunAny.y 2 (by kernel_rfl) (idx_own (d := some 152) (A := A15) (m := t11.2.1.length) (i := x24_2) (k2 := [.inRegion (opsOf (pl Go.Proofs.Try.f7 [1, 1, 1, 1, 1, 1, 1, 1, 1, 1, 1, 1, 1, 0, 1, 0, 0, 1, 0, 0, 0])) []]) (by kernel_rfl) (of_decide_eq_true c123) (by have h_ := of_decide_eq_true c124; omega) hAq122) (fun _ _ => trivial) hS ?_
                                                  refine RunAny.y 3 (by kernel_rfl) (ld_y (d := some 153) (p := ⟨q122, (x24_2 : Int).toNat, none⟩) (k2 := [.inRegion (opsOf (pl Go.Proofs.Try.f7 [1, 1, 1, 1, 1, 1, 1, 1, 1, 1, 1, 1, 1, 0, 1, 0, 0, 1, 0, 0, 0])) []]) (.int .u32 (rd t11.2.1 x24_2)) (by kernel_rfl)) (fun _ hs => hs.cell hcq122 (by simp)) hS ?_
                                                  refine RunAny.y 4 (by kernel_rfl) (yl_pure (d := some 154) (v := .slice A112 t108.2.1.length c114) (k2 := [.inRegion (opsOf (pl Go.Proofs.Try.f7 [1, 1, 1, 1, 1, 1, 1, 1, 1, 1, 1, 1, 1, 0, 1, 0, 0, 1, 0, 0, 0])) []]) fun w => by kernel_rfl) (fun _ _ => trivial) hS ?_
                                                  refine RunAny.y 5 (by kernel_rfl) (yl_pure (d := some 155) (v := .int .i64 x24_2) (k2 := [.inRegion (opsOf (pl Go.Proofs.Try.f7 [1, 1, 1, 1, 1, 1, 1, 1, 1, 1, 1, 1, 1, 0, 1, 0, 0, 1, 0, 0, 0])) []]) fun w => by kernel_rfl) (fun _ _ => trivial) hS ?_
                                                  rcases two (decide (0 ≤ x24_2)) with c126 | c126
                                                  · replace h := of_true h c126
                                                    rcases two (decide (x24_2 < (t108.2.1.length : Int))) with c127 | c127
                                                    · replace h := of_true h c127
                                                      obtain ⟨q125, hAq125, hcq125, hfq125, hlq125⟩ := hM.num_at 1 rfl (i := x24_2) (of_decide_eq_true c126) (by have h_ := of_decide_eq_true c127; omega)
                                                      refine RunAny.y 6 (by kernel_rfl) (idx_own (d := some 156) (A := A112) (m := t108.2.1.length) (i := x24_2) (k2 := [.inRegion (opsOf (pl Go.Proofs.Try.f7 [1, 1, 1, 1, 1, 1, 1, 1, 1, 1, 1, 1, 1, 0, 1, 0, 0, 1, 0, 0, 0])) []]) (by kernel_rfl) (of_decide_eq_true c126) (by have h_ := of_decide_eq_true c127; omega) hAq125) (fun _ _ => trivial) hS ?_
                                                      refine RunAny.y 7 (by kernel_rfl) (ld_y (d := some 157) (p := ⟨q125, (x24_2 : Int).toNat, none⟩) (k2 := [.inRegion (opsOf (pl Go.Proofs.Try.f7 [1, 1, 1, 1, 1, 1, 1, 1, 1, 1, 1, 1, 1, 0, 1, 0, 0, 1, 0, 0, 0])) []]) (.int .u32 (rd t108.2.1 x24_2)) (by kernel_rfl)) (fun _ hs => hs.cell hcq125 (by simp)) hS ?_
                                                      refine RunAny.y 8 (by kernel_rfl) (yl_pure (d := some 158) (v := .bool ((rd t11.2.1 x24_2) == (rd t108.2.1 x24_2))) (k2 := [.inRegion (opsOf (pl Go.Proofs.Try.f7 [1, 1, 1, 1, 1, 1, 1, 1, 1, 1, 1, 1, 1, 0, 1, 0, 0, 1, 0, 0, 0])) []]) fun w => by kernel_rfl) (fun _ _ => trivial) hS ?_
                                                      refine RunAny.y 9 (by kernel_rfl) (yl_pure (d := some 159) (v := .int .u8 a3) (k2 := [.inRegion (opsOf (pl Go.Proofs.Try.f7 [1, 1, 1, 1, 1, 1, 1, 1, 1, 1, 1, 1, 1, 0, 1, 0, 0, 1, 0, 0, 0])) []]) fun w => by kernel_rfl) (fun _ _ => trivial) hS ?_
                                                      refine RunAny.y 10 (by kernel_rfl) (yl_pure (d := some 160) (v := .bool (a3 == 0)) (k2 := [.inRegion (opsOf (pl Go.Proofs.Try.f7 [1, 1, 1, 1, 1, 1, 1, 1, 1, 1, 1, 1, 1, 0, 1, 0, 0, 1, 0, 0, 0])) []]) fun w => by kernel_rfl) (fun _ _ => trivial) hS ?_
                                                      refine RunAny.y 11 (by kernel_rfl) (yl_pure (d := some 161) (v := .bool (a3 == 0)) (k2 := [.inRegion (opsOf (pl Go.Proofs.Try.f7 [1, 1, 1, 1, 1, 1, 1, 1, 1, 1, 1, 1, 1, 0, 1, 0, 0, 1, 0, 0, 0])) []]) fun w => by kernel_rfl) (fun _ _ => trivial) hS ?_
                                                      rcases two ((a3 == 0)) with c128 | c128
                                                      · replace h := of_true h c128
                                                        refine RunAny.know 161 (b := true) (by kernel_rfl) c128 ?_
                                                        refine RunAny.off 12 (d := some 162) (by kernel_rfl) (by kernel_rfl) hS ?_
                                                        refine RunAny.off 13 (d := some 163) (by kernel_rfl) (by kernel_rfl) hS ?_
                                                        refine RunAny.off 14 (d := some 164) (by kernel_rfl) (by kernel_rfl) hS ?_
                                                        refine RunAny.off 15 (d := some 165) (by kernel_rfl) (by kernel_rfl) hS ?_
                                                        refine RunAny.off 16 (d := some 166) (by kernel_rfl) (by kernel_rfl) hS ?_
                                                        refine RunAny.off 17 (d := some 167) (by kernel_rfl) (by kernel_rfl) hS ?_
                                                        refine RunAny.off 18 (d := some 168) (by kernel_rfl) (by kernel_rfl) hS ?_
                                                        refine RunAny.off 19 (d := some 169) (by kernel_rfl) (by kernel_rfl) hS ?_
                                                        refine RunAny.y 20 (by kernel_rfl) (yl_pure (d := some 170) (v := .bool true) (k2 := [.inRegion (opsOf (pl Go.Proofs.Try.f7 [1, 1, 1, 1, 1, 1, 1, 1, 1, 1, 1, 1, 1, 0, 1, 0, 0, 1, 0, 0, 0])) []]) fun w => by kernel_rfl) (fun _ _ => trivial) hS ?_
                                                        refine RunAny.y 21 (by kernel_rfl) (yl_pure (d := some 171) (v := .bool (!(((rd t11.2.1 x24_2) == (rd t108.2.1 x24_2)) == true))) (k2 := [.inRegion (opsOf (pl Go.Proofs.Try.f7 [1, 1, 1, 1, 1, 1, 1, 1, 1, 1, 1, 1, 1, 0, 1, 0, 0, 1, 0, 0, 0])) []]) fun w => by kernel_rfl) (fun _ _ => trivial) hS ?_
                                                        refine RunAny.done (by kernel_rfl) ?_
                                                        clear hS
                                                        obtain ⟨y129, hy, h⟩ := Option.bind_eq_some_iff.mp h
                                                        rw [show (!(((rd t11.2.1 x24_2) == (rd t108.2.1 x24_2)) == true)) = y129 from Option.some.inj hy]
                                                        clear hy
                                                        rcases two (y129) with c130 | c130
                                                        · replace h := of_true h c130
                                                          refine RunF.know 171 (b := true) (by kernel_rfl) c130 ?_
                                                          refine RunF.go 5 [8] (k' := (pl Go.Proofs.Try.f7 [1, 1, 1, 1, 1, 1, 1, 1, 1, 1, 1, 1, 1, 0, 1, 0, 0, 1, 0, 0, 1, 0, 1])) (L' := [(8, .bool false)]) (w' := W120) (by kernel_rfl) ?_
                                                          obtain rfl := Option.some.inj h
                                                          exact RunF.ret1 8 (.bool false) (fn := Go.Proofs.Try.f7) Go.Proofs.Try.func7 (by kernel_rfl) (by kernel_rfl) (by kernel_rfl) ⟨_, rfl, rfl, (hM.pick [] rfl rfl)⟩
                                                        · replace h := of_false h c130
                                                          refine RunF.know 171 (b := false) (by kernel_rfl) c130 ?_
                                                          refine RunF.go 9 [3, 11, 20, 22, 24] (k' := (pl Go.Proofs.Try.f7 [1, 1, 1, 1, 1, 1, 1, 1, 1, 1, 1, 1, 1, 0, 1, 0, 0])) (L' := [(3, .int .u8 a3), (11, .slice A15 t11.2.1.length c17), (20, .int .i64 t99), (22, .slice A112 t108.2.1.length c114), (24, .int .i64 (I64 (x24_2 + 1)))]) (w' := W120) (by kernel_rfl) ?_
                                                          exact ih2 k (by omega) (I64 (x24_2 + 1)) _ (hM.pick [0, 1] rfl rfl) h
                                                      · replace h := of_false h c128
                                                        refine RunAny.know 161 (b := false) (by kernel_rfl) c128 ?_
                                                        refine RunAny.y 12 (by kernel_rfl) (yl_pure (d := some 162) (v := .int .i64 x24_2) (k2 := [.inRegion (opsOf (pl Go.Proofs.Try.f7 [1, 1, 1, 1, 1, 1, 1, 1, 1, 1, 1, 1, 1, 0, 1, 0, 0, 1, 0, 0, 0])) []]) fun w => by kernel_rfl) (fun _ _ => trivial) hS ?_
                                                        refine RunAny.y 13 (by kernel_rfl) (yl_pure (d := some 163) (v := .slice A15 t11.2.1.length c17) (k2 := [.inRegion (opsOf (pl Go.Proofs.Try.f7 [1, 1, 1, 1, 1, 1, 1, 1, 1, 1, 1, 1, 1, 0, 1, 0, 0, 1, 0, 0, 0])) []]) fun w => by kernel_rfl) (fun _ _ => trivial) hS ?_
                                                        refine RunAny.y 14 (by kernel_rfl) (yl_pure (d := some 164) (v := .int .i64 (t11.2.1.length : Int)) (k2 := [.inRegion (opsOf (pl Go.Proofs.Try.f7 [1, 1, 1, 1, 1, 1, 1, 1, 1, 1, 1, 1, 1, 0, 1, 0, 0, 1, 0, 0, 0])) []]) fun w => by kernel_rfl) (fun _ _ => trivial) hS ?_
                                                        refine RunAny.y 15 (by kernel_rfl) (yl_pure (d := some 165) (v := .int .i64 (I64 ((t11.2.1.length : Int) - 1))) (k2 := [.inRegion (opsOf (pl Go.Proofs.Try.f7 [1, 1, 1, 1, 1, 1, 1, 1, 1, 1, 1, 1, 1, 0, 1, 0, 0, 1, 0, 0, 0])) []]) fun w => by kernel_rfl) (fun _ _ => trivial) hS ?_
                                                        refine RunAny.y 16 (by kernel_rfl) (yl_pure (d := some 166) (v := .int .i64 t99) (k2 := [.inRegion (opsOf (pl Go.Proofs.Try.f7 [1, 1, 1, 1, 1, 1, 1, 1, 1, 1, 1, 1, 1, 0, 1, 0, 0, 1, 0, 0, 0])) []]) fun w => by kernel_rfl) (fun _ _ => trivial) hS ?_
                                                        refine RunAny.y 17 (by kernel_rfl) (yl_pure (d := some 167) (v := .int .i64 (I64 (Int.tdiv t99 8))) (k2 := [.inRegion (opsOf (pl Go.Proofs.Try.f7 [1, 1, 1, 1, 1, 1, 1, 1, 1, 1, 1, 1, 1, 0, 1, 0, 0, 1, 0, 0, 0])) []]) fun w => by kernel_rfl) (fun _ _ => trivial) hS ?_
                                                        refine RunAny.y 18 (by kernel_rfl) (yl_pure (d := some 168) (v := .int .i64 (I64 ((I64 ((t11.2.1.length : Int) - 1)) - (I64 (Int.tdiv t99 8))))) (k2 := [.inRegion (opsOf (pl Go.Proofs.Try.f7 [1, 1, 1, 1, 1, 1, 1, 1, 1, 1, 1, 1, 1, 0, 1, 0, 0, 1, 0, 0, 0])) []]) fun w => by kernel_rfl) (fun _ _ => trivial) hS ?_
                                                        refine RunAny.y 19 (by kernel_rfl) (yl_pure (d := some 169) (v := .bool (x24_2 != (I64 ((I64 ((t11.2.1.length : Int) - 1)) - (I64 (Int.tdiv t99 8)))))) (k2 := [.inRegion (opsOf (pl Go.Proofs.Try.f7 [1, 1, 1, 1, 1, 1, 1, 1, 1, 1, 1, 1, 1, 0, 1, 0, 0, 1, 0, 0, 0])) []]) fun w => by kernel_rfl) (fun _ _ => trivial) hS ?_
                                                        refine RunAny.y 20 (by kernel_rfl) (yl_pure (d := some 170) (v := .bool (x24_2 != (I64 ((I64 ((t11.2.1.length : Int) - 1)) - (I64 (Int.tdiv t99 8)))))) (k2 := [.inRegion (opsOf (pl Go.Proofs.Try.f7 [1, 1, 1, 1, 1, 1, 1, 1, 1, 1, 1, 1, 1, 0, 1, 0, 0, 1, 0, 0, 0])) []]) fun w => by kernel_rfl) (fun _ _ => trivial) hS ?_
                                                        refine RunAny.y 21 (by kernel_rfl) (yl_pure (d := some 171) (v := .bool (!(((rd t11.2.1 x24_2) == (rd t108.2.1 x24_2)) == (x24_2 != (I64 ((I64 ((t11.2.1.length : Int) - 1)) - (I64 (Int.tdiv t99 8)))))))) (k2 := [.inRegion (opsOf (pl Go.Proofs.Try.f7 [1, 1, 1, 1, 1, 1, 1, 1, 1, 1, 1, 1, 1, 0, 1, 0, 0, 1, 0, 0, 0])) []]) fun w => by kernel_rfl) (fun _ _ => trivial) hS ?_
                                                        refine RunAny.done (by kernel_rfl) ?_
                                                        clear hS
                                                        obtain ⟨y131, hy, h⟩ := Option.bind_eq_some_iff.mp h
                                                        rw [show (I64 ((I64 ((t11.2.1.length : Int) - 1)) - (I64 (Int.tdiv t99 8)))) = y131 from Option.some.inj hy]
                                                        clear hy
                                                        obtain ⟨y132, hy, h⟩ := Option.bind_eq_some_iff.mp h
                                                        rw [show (!(((rd t11.2.1 x24_2) == (rd t108.2.1 x24_2)) == (x24_2 != y131))) = y132 from Option.some.inj hy]
                                                        clear hy
                                                        rcases two (y132) with c133 | c133
                                                        · replace h := of_true h c133
                                                          refine RunF.know 171 (b := true) (by kernel_rfl) c133 ?_
                                                          refine RunF.go 5 [8] (k' := (pl Go.Proofs.Try.f7 [1, 1, 1, 1, 1, 1, 1, 1, 1, 1, 1, 1, 1, 0, 1, 0, 0, 1, 0, 0, 1, 0, 1])) (L' := [(8, .bool false)]) (w' := W120) (by kernel_rfl) ?_
                                                          obtain rfl := Option.some.inj h
                                                          exact RunF.ret1 8 (.bool false) (fn := Go.Proofs.Try.f7) Go.Proofs.Try.func7 (by kernel_rfl) (by kernel_rfl) (by kernel_rfl) ⟨_, rfl, rfl, (hM.pick [] rfl rfl)⟩
                                                        · replace h := of_false h c133
                                                          refine RunF.know 171 (b := false) (by kernel_rfl) c133 ?_
                                                          refine RunF.go 9 [3, 11, 20, 22, 24] (k' := (pl Go.Proofs.Try.f7 [1, 1, 1, 1, 1, 1, 1, 1, 1, 1, 1, 1, 1, 0, 1, 0, 0])) (L' := [(3, .int .u8 a3), (11, .slice A15 t11.2.1.length c17), (20, .int .i64 t99), (22, .slice A112 t108.2.1.length c114), (24, .int .i64 (I64 (x24_2 + 1)))]) (w' := W120) (by kernel_rfl) ?_
                                                          exact ih2 k (by omega) (I64 (x24_2 + 1)) _ (hM.pick [0, 1] rfl rfl) h
                                                    · replace h := of_false h c127
                                                      cases h
                                                  · replace h := of_false h c126
                                                    cases h
                                                · replace h := of_false h c124
                                                  cases h
                                              · replace h := of_false h c123
                                                cases h
                                            · replace h := of_false h c119
                                              refine RunF.know 147 (b := false) (by kernel_rfl) c119 ?_
                                              refine RunF.go 6 [8] (k' := (pl Go.Proofs.Try.f7 [1, 1, 1, 1, 1, 1, 1, 1, 1, 1, 1, 1, 1, 1, 1])) (L' := [(8, .bool true)]) (w' := W) (by kernel_rfl) ?_
                                              obtain rfl := Option.some.inj h
                                              exact RunF.ret1 8 (.bool true) (fn := Go.Proofs.Try.f7) Go.Proofs.Try.func7 (by kernel_rfl) (by kernel_rfl) (by kernel_rfl) ⟨_, rfl, rfl, (hM.pick [] rfl rfl)⟩
                                      exact l2 k (Nat.le_refl _) 0 _ (hM.pick [5, 1] rfl rfl) h
                                  · replace h := of_false h c105
                                    cases h
                                · replace h := of_false h c104
                                  cases h
                              · replace h := of_false h c102
                                cases h
                            · replace h := of_false h c101
                              cases h
                          · replace h := of_false h c96
                            cases h
                  exact l1 k (Nat.le_refl _) 0 _ (hM.pick [0, 1, 2, 3, 4] rfl rfl) h
          exact l0 k (Nat.le_refl _) none 0 ([] : List Int) none 0 ([] : List Int) 0 _ (hM.pick [4, 2, 3, 1, 0] rfl rfl) h


end Go.Scr.S
