/- The functions that the law TwofishRounds reaches, as plain functions, and that each call answers so. -/
import Derived.Test.YtngagagokcnnaaaProg
import Derived.Test.YtngagagokcnnaaaFnTwofishRounds2
set_option linter.unusedVariables false
set_option linter.unusedSimpArgs false
set_option linter.unnecessarySimpa false
namespace Go.Scr.S
open Go.RowKit (Below)
/-! ### scrim/scrimlaw9.key: function 10 -/
def scrimlaw9_key.f (k : Nat) (a0 : List Int) (a1 : Int) : Option (List Int) := (scrimlaw9_within.f k a1 3).bind fun t5 => (if (decide (0 ≤ t5)) = true then (if (decide (t5 < (3 : Int))) = true then ((scrimlaw9_Bytes.f k (rd ([16, 24, 32] : List Int) t5) a0).bind fun t10 => (some t10)) else (none)) else (none))
set_option maxRecDepth 100000 in
theorem scrimlaw9_key.calls (k : Nat) (Ap0 : Option Addr) (np0 cp0 : Nat) (a0 : List Int) (a1 : Int) (r : List Int) (w : World) (hr0 : Rd w (.slice Ap0 np0 cp0) (nums .u8 a0)) (h : scrimlaw9_key.f k a0 a1 = some r) :
    Calls Go.Proofs.Try.prog 10 #[(.slice Ap0 np0 cp0), .int .i64 a1] w (Ret fun v w' => ∃ A0' n0' c0', v = .slice A0' n0' c0' ∧ Mem w w' [⟨.slice A0' n0' c0', 5, 1, nums .u8 r⟩]) := by
  obtain rfl : a0.length = np0 := by have h_ := hr0.1; simpa [nums_length, bools_length, strs_length] using h_
  unfold scrimlaw9_key.f at h
  refine calls_of [.slice Ap0 a0.length cp0, .int .i64 a1] (fn := Go.Proofs.Try.f10) Go.Proofs.Try.func10 (by kernel_rfl) (by kernel_rfl) ?_
  have hM := Mem.refl w
  refine RunF.go 6 [0, 1] (k' := (pin Go.Proofs.Try.f10 [1, 0] 0)) (L' := [(0, .slice Ap0 a0.length cp0), (1, .int .i64 a1)]) (w' := w) (by kernel_rfl) ?_
  refine RunF.new 3 1 3 (nums .i64 [16, 24, 32]) (d := some 5) (k2 := (pin Go.Proofs.Try.f10 [1, 0] 1)) hM (by simp [nums, bools, strs]) (by kernel_rfl) (by kernel_rfl) ?_
  replace hM := hM
  intro g1 W2 hM
  refine RunF.go 1 [0, 5, 6] (k' := (pin Go.Proofs.Try.f10 [1, 0] 2)) (L' := [(0, .slice Ap0 a0.length cp0), (5, .slice (some ⟨g1, 0, none⟩) 3 3), (6, .int .i64 a1)]) (w' := W2) (by kernel_rfl) ?_
  obtain ⟨t5, ht5, h⟩ := Option.bind_eq_some_iff.mp h
  refine RunF.call (d := some 7) (g := 13) (args := #[.int .i64 a1, .int .i64 3]) (k2 := (pin Go.Proofs.Try.f10 [1, 0] 3)) (by kernel_rfl) (scrimlaw9_within.calls k a1 3 t5 _ ht5) ?_
  rintro _ W4 ⟨rfl, hM_⟩
  replace hM := hM.call hM_
  clear hM_ ht5
  rcases two (decide (0 ≤ t5)) with c7 | c7
  · replace h := of_true h c7
    rcases two (decide (t5 < (3 : Int))) with c8 | c8
    · replace h := of_true h c8
      obtain ⟨q6, hAq6, hcq6, hfq6, hlq6⟩ := hM.num_at 0 rfl (i := t5) (of_decide_eq_true c7) (by have h_ := of_decide_eq_true c8; omega)
      refine RunF.y (idx_own (d := some 8) (A := (some ⟨g1, 0, none⟩)) (m := 3) (i := t5) (k2 := (pin Go.Proofs.Try.f10 [1, 0] 4)) (by kernel_rfl) (of_decide_eq_true c7) (by have h_ := of_decide_eq_true c8; omega) hAq6) trivial ?_
      refine RunF.y (ld_y (d := some 9) (p := ⟨q6, (t5 : Int).toNat, none⟩) (k2 := (pin Go.Proofs.Try.f10 [1, 0] 5)) (.int .i64 (rd ([16, 24, 32] : List Int) t5)) (by kernel_rfl)) hcq6 ?_
      refine RunF.go 1 [9, 10] (k' := (pin Go.Proofs.Try.f10 [1, 0] 6)) (L' := [(9, .int .i64 (rd ([16, 24, 32] : List Int) t5)), (10, .slice Ap0 a0.length cp0)]) (w' := W4) (by kernel_rfl) ?_
      obtain ⟨t10, ht10, h⟩ := Option.bind_eq_some_iff.mp h
      refine RunF.call (d := some 11) (g := 19) (args := #[.int .i64 (rd ([16, 24, 32] : List Int) t5), .slice Ap0 a0.length cp0]) (k2 := (pin Go.Proofs.Try.f10 [1, 0] 7)) (by kernel_rfl) (scrimlaw9_Bytes.calls k (rd ([16, 24, 32] : List Int) t5) Ap0 a0.length cp0 a0 t10 _ (hr0.mono hM.below) ht10) ?_
      rintro _ W9 ⟨A11, n12, c13, rfl, hM_⟩
      obtain rfl : t10.length = n12 := by have h_ := (hM_.rd 0 rfl).1; simpa [nums_length, bools_length, strs_length] using h_
      replace hM := hM.call hM_
      clear hM_ ht10
      refine RunF.go 2 [4] (k' := (pl Go.Proofs.Try.f10 [1, 1])) (L' := [(4, .slice A11 t10.length c13)]) (w' := W9) (by kernel_rfl) ?_
      obtain rfl := Option.some.inj h
      exact RunF.ret1 4 (.slice A11 t10.length c13) (fn := Go.Proofs.Try.f10) Go.Proofs.Try.func10 (by kernel_rfl) (by kernel_rfl) (by kernel_rfl) ⟨_, rfl, A11, t10.length, c13, rfl, (hM.pick [0] rfl rfl)⟩
    · replace h := of_false h c8
      cases h
  · replace h := of_false h c7
    cases h

/-! ### scrim/scrimref1.Little: function 20 -/
def scrimref1_Little.l0 : Nat → (List Int) → Int → Int → Option (Int)
  | 0, _, _, _ => none
  | k + 1, a0, x3_0, x4_0 => if (decide (x4_0 > 0)) = true then (if (decide (0 ≤ (I64 (x4_0 - 1)))) = true then (if (decide ((I64 (x4_0 - 1)) < (a0.length : Int))) = true then ((some (bor .u64 (shl .u64 x3_0 8) (U64 (rd a0 (I64 (x4_0 - 1)))) : Int)).bind fun y5 => (scrimref1_Little.l0 k a0 y5 (I64 (x4_0 - 1)))) else (none)) else (none)) else (some x3_0)
def scrimref1_Little.f (k : Nat) (a0 : List Int) : Option (Int) := scrimref1_Little.l0 k a0 0 (a0.length : Int)
set_option maxRecDepth 100000 in
theorem scrimref1_Little.calls (k : Nat) (Ap0 : Option Addr) (np0 cp0 : Nat) (a0 : List Int) (r : Int) (w : World) (hr0 : Rd w (.slice Ap0 np0 cp0) (nums .u8 a0)) (h : scrimref1_Little.f k a0 = some r) :
    Calls Go.Proofs.Try.prog 20 #[(.slice Ap0 np0 cp0)] w (Ret fun v w' => v = .int .u64 r ∧ Mem w w' []) := by
  obtain rfl : a0.length = np0 := by have h_ := hr0.1; simpa [nums_length, bools_length, strs_length] using h_
  unfold scrimref1_Little.f at h
  refine calls_of [.slice Ap0 a0.length cp0] (fn := Go.Proofs.Try.f20) Go.Proofs.Try.func20 (by kernel_rfl) (by kernel_rfl) ?_
  have hM := Mem.refl w
  refine RunF.go 17 [0, 3, 4] (k' := (pl Go.Proofs.Try.f20 [1, 1, 0, 1, 0, 0])) (L' := [(0, .slice Ap0 a0.length cp0), (3, .int .u64 0), (4, .int .i64 (a0.length : Int))]) (w' := w) (by kernel_rfl) ?_
  have l0 : ∀ (k_ : Nat), k_ ≤ k → ∀ (x3_0 : Int) (x4_0 : Int) (W : World) (hM : Mem w W []) (h : scrimref1_Little.l0 k_ a0 x3_0 x4_0 = some r), RunF Go.Proofs.Try.prog (Ret fun v w' => v = .int .u64 r ∧ Mem w w' []) 20 (pl Go.Proofs.Try.f20 [1, 1, 0, 1, 0, 0]) 21 [(0, .slice Ap0 a0.length cp0), (3, .int .u64 x3_0), (4, .int .i64 x4_0)] W := by
    intro k_
    induction k_ using Nat.strongRecOn with
    | _ k_ ih0 =>
      intro hk x3_0 x4_0 W hM h
      cases k_ with
      | zero => exact absurd h (by simp [scrimref1_Little.l0])
      | succ k =>
        simp only [scrimref1_Little.l0] at h
        replace ih0 : ∀ m, m ≤ k → _ := fun m hm => ih0 m (by omega) (by omega)
        refine RunF.go 6 [0, 3, 4, 8] (k' := (pl Go.Proofs.Try.f20 [1, 1, 0, 1, 0, 0, 0, 1])) (L' := [(0, .slice Ap0 a0.length cp0), (3, .int .u64 x3_0), (4, .int .i64 x4_0), (8, .bool (decide (x4_0 > 0)))]) (w' := W) (by kernel_rfl) ?_
        rcases two (decide (x4_0 > 0)) with c1 | c1
        · replace h := of_true h c1
          refine RunF.know 8 (b := true) (by kernel_rfl) c1 ?_
          refine RunF.go 10 [0, 4, 12, 13, 15] (k' := (pin Go.Proofs.Try.f20 [1, 1, 0, 1, 0, 0, 1, 0, 0] 5)) (L' := [(0, .slice Ap0 a0.length cp0), (4, .int .i64 x4_0), (12, .int .u64 (shl .u64 x3_0 8)), (13, .slice Ap0 a0.length cp0), (15, .int .i64 (I64 (x4_0 - 1)))]) (w' := W) (by kernel_rfl) ?_
          rcases two (decide (0 ≤ (I64 (x4_0 - 1)))) with c3 | c3
          · replace h := of_true h c3
            rcases two (decide ((I64 (x4_0 - 1)) < (a0.length : Int))) with c4 | c4
            · replace h := of_true h c4
              obtain ⟨q2, hAq2, hcq2⟩ := Rd.num (hr0.mono hM.below) (i := I64 (x4_0 - 1)) (of_decide_eq_true c3) (by have h_ := of_decide_eq_true c4; omega)
              refine RunF.y (idx_y (d := some 16) (A := Ap0) (m := a0.length) (i := I64 (x4_0 - 1)) (k2 := (pin Go.Proofs.Try.f20 [1, 1, 0, 1, 0, 0, 1, 0, 0] 6)) (by kernel_rfl) (of_decide_eq_true c3) (by have h_ := of_decide_eq_true c4; omega) hAq2) trivial ?_
              refine RunF.y (ld_y (d := some 17) (p := (q2.add (I64 (x4_0 - 1) : Int).toNat)) (k2 := (pin Go.Proofs.Try.f20 [1, 1, 0, 1, 0, 0, 1, 0, 0] 7)) (.int .u8 (rd a0 (I64 (x4_0 - 1)))) (by kernel_rfl)) hcq2 ?_
              refine RunF.go 11 [0, 3, 4] (k' := (pl Go.Proofs.Try.f20 [1, 1, 0, 1, 0, 0])) (L' := [(0, .slice Ap0 a0.length cp0), (3, .int .u64 (bor .u64 (shl .u64 x3_0 8) (U64 (rd a0 (I64 (x4_0 - 1)))))), (4, .int .i64 (I64 (x4_0 - 1)))]) (w' := W) (by kernel_rfl) ?_
              obtain ⟨y5, hy, h⟩ := Option.bind_eq_some_iff.mp h
              rw [show (bor .u64 (shl .u64 x3_0 8) (U64 (rd a0 (I64 (x4_0 - 1))))) = y5 from Option.some.inj hy]
              clear hy
              exact ih0 k (by omega) y5 (I64 (x4_0 - 1)) _ (hM.pick [] rfl rfl) h
            · replace h := of_false h c4
              cases h
          · replace h := of_false h c3
            cases h
        · replace h := of_false h c1
          refine RunF.know 8 (b := false) (by kernel_rfl) c1 ?_
          refine RunF.go 7 [2] (k' := (pl Go.Proofs.Try.f20 [1, 1, 1, 1])) (L' := [(2, .int .u64 x3_0)]) (w' := W) (by kernel_rfl) ?_
          obtain rfl := Option.some.inj h
          exact RunF.ret1 2 (.int .u64 x3_0) (fn := Go.Proofs.Try.f20) Go.Proofs.Try.func20 (by kernel_rfl) (by kernel_rfl) (by kernel_rfl) ⟨_, rfl, rfl, (hM.pick [] rfl rfl)⟩
  exact l0 k (Nat.le_refl _) 0 (a0.length : Int) _ (hM.pick [] rfl rfl) h

/-! ### scrim/scrimref1.rest: function 42 -/
def scrimref1_rest.f (k : Nat) (a0 : Int) (a1 : Int) : Option (Int) := if (decide (a1 = 0)) = true then (none) else (if (decide (a1 = 0)) = true then (none) else (some (Int.tmod (I64 ((Int.tmod a0 a1) + a1)) a1)))
set_option maxRecDepth 100000 in
theorem scrimref1_rest.calls (k : Nat) (a0 : Int) (a1 : Int) (r : Int) (w : World) (h : scrimref1_rest.f k a0 a1 = some r) :
    Calls Go.Proofs.Try.prog 42 #[.int .i64 a0, .int .i64 a1] w (Ret fun v w' => v = .int .i64 r ∧ Mem w w' []) := by
  unfold scrimref1_rest.f at h
  refine calls_of [.int .i64 a0, .int .i64 a1] (fn := Go.Proofs.Try.f42) Go.Proofs.Try.func42 (by kernel_rfl) (by kernel_rfl) ?_
  have hM := Mem.refl w
  refine RunF.go 8 [1, 5, 6] (k' := (pin Go.Proofs.Try.f42 [1, 0] 2)) (L' := [(1, .int .i64 a1), (5, .int .i64 a0), (6, .int .i64 a1)]) (w' := w) (by kernel_rfl) ?_
  rcases two (decide (a1 = 0)) with c1 | c1
  · replace h := of_true h c1
    cases h
  · replace h := of_false h c1
    refine RunF.y (div_y (d := some 7) (b := false) (kd := .i64) (x := a0) (y := a1) (k2 := (pin Go.Proofs.Try.f42 [1, 0] 3)) (by kernel_rfl) c1) trivial ?_
    refine RunF.go 3 [9, 10] (k' := (pin Go.Proofs.Try.f42 [1, 0] 6)) (L' := [(9, .int .i64 (I64 ((Int.tmod a0 a1) + a1))), (10, .int .i64 a1)]) (w' := w) (by kernel_rfl) ?_
    rcases two (decide (a1 = 0)) with c2 | c2
    · replace h := of_true h c2
      cases h
    · replace h := of_false h c2
      refine RunF.y (div_y (d := some 11) (b := false) (kd := .i64) (x := I64 ((Int.tmod a0 a1) + a1)) (y := a1) (k2 := (pin Go.Proofs.Try.f42 [1, 0] 7)) (by kernel_rfl) c2) trivial ?_
      refine RunF.go 2 [4] (k' := (pl Go.Proofs.Try.f42 [1, 1])) (L' := [(4, .int .i64 (Int.tmod (I64 ((Int.tmod a0 a1) + a1)) a1))]) (w' := w) (by kernel_rfl) ?_
      obtain rfl := Option.some.inj h
      exact RunF.ret1 4 (.int .i64 (Int.tmod (I64 ((Int.tmod a0 a1) + a1)) a1)) (fn := Go.Proofs.Try.f42) Go.Proofs.Try.func42 (by kernel_rfl) (by kernel_rfl) (by kernel_rfl) ⟨_, rfl, rfl, (hM.pick [] rfl rfl)⟩

/-! ### scrim/scrimref1.Rol32: function 21 -/
def scrimref1_Rol32.f (k : Nat) (a0 : Int) (a1 : Int) : Option (Int) := (scrimref1_rest.f k a1 32).bind fun t2 => (if (decide (0 ≤ (U64 (t2)))) = true then (if (decide (0 ≤ (U64 (32 - (U64 (t2)))))) = true then (some (bor .u32 (shlv .u32 a0 (U64 (t2))) (shrv .u32 a0 (U64 (32 - (U64 (t2))))))) else (none)) else (none))
set_option maxRecDepth 100000 in
theorem scrimref1_Rol32.calls (k : Nat) (a0 : Int) (a1 : Int) (r : Int) (w : World) (h : scrimref1_Rol32.f k a0 a1 = some r) :
    Calls Go.Proofs.Try.prog 21 #[.int .u32 a0, .int .i64 a1] w (Ret fun v w' => v = .int .u32 r ∧ Mem w w' []) := by
  unfold scrimref1_Rol32.f at h
  refine calls_of [.int .u32 a0, .int .i64 a1] (fn := Go.Proofs.Try.f21) Go.Proofs.Try.func21 (by kernel_rfl) (by kernel_rfl) ?_
  have hM := Mem.refl w
  refine RunF.go 7 [0, 6] (k' := (pin Go.Proofs.Try.f21 [1, 0] 1)) (L' := [(0, .int .u32 a0), (6, .int .i64 a1)]) (w' := w) (by kernel_rfl) ?_
  obtain ⟨t2, ht2, h⟩ := Option.bind_eq_some_iff.mp h
  refine RunF.call (d := some 7) (g := 42) (args := #[.int .i64 a1, .int .i64 32]) (k2 := (pin Go.Proofs.Try.f21 [1, 0] 2)) (by kernel_rfl) (scrimref1_rest.calls k a1 32 t2 _ ht2) ?_
  rintro _ W1 ⟨rfl, hM_⟩
  replace hM := hM.call hM_
  clear hM_ ht2
  refine RunF.go 7 [0, 5, 9, 10] (k' := (pin Go.Proofs.Try.f21 [1, 1, 0] 2)) (L' := [(0, .int .u32 a0), (5, .int .u64 (U64 (t2))), (9, .int .u32 a0), (10, .int .u64 (U64 (t2)))]) (w' := W1) (by kernel_rfl) ?_
  rcases two (decide (0 ≤ (U64 (t2)))) with c3 | c3
  · replace h := of_true h c3
    refine RunF.y (sh_y (d := some 11) (b := true) (kd := .u32) (x := a0) (y := U64 (t2)) (k2 := (pin Go.Proofs.Try.f21 [1, 1, 0] 3)) (by kernel_rfl) c3) trivial ?_
    refine RunF.go 3 [11, 12, 14] (k' := (pin Go.Proofs.Try.f21 [1, 1, 0] 6)) (L' := [(11, .int .u32 (shlv .u32 a0 (U64 (t2)))), (12, .int .u32 a0), (14, .int .u64 (U64 (32 - (U64 (t2)))))]) (w' := W1) (by kernel_rfl) ?_
    rcases two (decide (0 ≤ (U64 (32 - (U64 (t2)))))) with c4 | c4
    · replace h := of_true h c4
      refine RunF.y (sh_y (d := some 15) (b := false) (kd := .u32) (x := a0) (y := U64 (32 - (U64 (t2)))) (k2 := (pin Go.Proofs.Try.f21 [1, 1, 0] 7)) (by kernel_rfl) c4) trivial ?_
      refine RunF.go 3 [4] (k' := (pl Go.Proofs.Try.f21 [1, 1, 1])) (L' := [(4, .int .u32 (bor .u32 (shlv .u32 a0 (U64 (t2))) (shrv .u32 a0 (U64 (32 - (U64 (t2)))))))]) (w' := W1) (by kernel_rfl) ?_
      obtain rfl := Option.some.inj h
      exact RunF.ret1 4 (.int .u32 (bor .u32 (shlv .u32 a0 (U64 (t2))) (shrv .u32 a0 (U64 (32 - (U64 (t2))))))) (fn := Go.Proofs.Try.f21) Go.Proofs.Try.func21 (by kernel_rfl) (by kernel_rfl) (by kernel_rfl) ⟨_, rfl, rfl, (hM.pick [] rfl rfl)⟩
    · replace h := of_false h c4
      cases h
  · replace h := of_false h c3
    cases h

/-! ### scrim/scrimref1.PutLe32: function 23 -/
def scrimref1_PutLe32.f (k : Nat) (a0 : Int) : Option (List Int) := some ([U8 (a0), U8 (shr a0 8), U8 (shr a0 16), U8 (shr a0 24)] : List Int)
set_option maxRecDepth 100000 in
theorem scrimref1_PutLe32.calls (k : Nat) (a0 : Int) (r : List Int) (w : World) (h : scrimref1_PutLe32.f k a0 = some r) :
    Calls Go.Proofs.Try.prog 23 #[.int .u32 a0] w (Ret fun v w' => ∃ A0' n0' c0', v = .slice A0' n0' c0' ∧ Mem w w' [⟨.slice A0' n0' c0', 5, 1, nums .u8 r⟩]) := by
  unfold scrimref1_PutLe32.f at h
  refine calls_of [.int .u32 a0] (fn := Go.Proofs.Try.f23) Go.Proofs.Try.func23 (by kernel_rfl) (by kernel_rfl) ?_
  have hM := Mem.refl w
  refine RunF.go 17 [4, 7, 10, 13] (k' := (pin Go.Proofs.Try.f23 [1, 0] 11)) (L' := [(4, .int .u8 (U8 (a0))), (7, .int .u8 (U8 (shr a0 8))), (10, .int .u8 (U8 (shr a0 16))), (13, .int .u8 (U8 (shr a0 24)))]) (w' := w) (by kernel_rfl) ?_
  refine RunF.new 5 1 4 (nums .u8 [U8 (a0), U8 (shr a0 8), U8 (shr a0 16), U8 (shr a0 24)]) (d := some 14) (k2 := (pin Go.Proofs.Try.f23 [1, 0] 12)) hM (by simp [nums, bools, strs]) (by kernel_rfl) (by kernel_rfl) ?_
  replace hM := hM
  intro g1 W2 hM
  refine RunF.go 2 [2] (k' := (pl Go.Proofs.Try.f23 [1, 1])) (L' := [(2, .slice (some ⟨g1, 0, none⟩) 4 4)]) (w' := W2) (by kernel_rfl) ?_
  obtain rfl := Option.some.inj h
  exact RunF.ret1 2 (.slice (some ⟨g1, 0, none⟩) 4 4) (fn := Go.Proofs.Try.f23) Go.Proofs.Try.func23 (by kernel_rfl) (by kernel_rfl) (by kernel_rfl) ⟨_, rfl, (some ⟨g1, 0, none⟩), 4, 4, rfl, (hM.pick [0] rfl rfl)⟩

/-! ### scrim/scrimlaw9.TwofishRounds: function 6 -/
mutual
def scrimlaw9_TwofishRounds.l0 : Nat → ((List Int) × (List Int)) → (List Int × List Int × Int) → (List Int) → (List Int) → Int → Option (Bool)
  | 0, _, _, _, _, _ => none
  | k + 1, s31, t19, t37, x13_0, x14_0 => if (decide (x14_0 < 4)) = true then (if (decide (0 ≤ (I64 (4 * x14_0)))) = true then (if (decide ((I64 (4 * x14_0)) ≤ (I64 ((I64 (4 * x14_0)) + 4)))) = true then (if (decide ((I64 ((I64 (4 * x14_0)) + 4)) ≤ (t37.length : Int))) = true then (if (decide (0 ≤ x14_0)) = true then (if (decide (x14_0 < (t19.1.length : Int))) = true then ((scrimref1_Little.f k ((t37.take (I64 ((I64 (4 * x14_0)) + 4) : Int).toNat).drop (I64 (4 * x14_0) : Int).toNat)).bind fun t60 => (if (decide (0 ≤ x14_0)) = true then (if (decide (x14_0 < (4 : Int))) = true then (scrimlaw9_TwofishRounds.l0 k s31 t19 t37 (x13_0.set (x14_0 : Int).toNat (bxor .u32 (U32 (t60)) (rd t19.1 x14_0))) (I64 (x14_0 + 1))) else (none)) else (none))) else (none)) else (none)) else (none)) else (none)) else (none)) else (scrimlaw9_TwofishRounds.l1 k s31 t19 t37 x13_0 0)
def scrimlaw9_TwofishRounds.l1 : Nat → ((List Int) × (List Int)) → (List Int × List Int × Int) → (List Int) → (List Int) → Int → Option (Bool)
  | 0, _, _, _, _, _ => none
  | k + 1, s31, t19, t37, x13_1, x15_1 => if (decide (x15_1 < 16)) = true then ((twofish_H.f k (rd x13_1 0) t19.2.1).bind fun t71 => ((scrimref1_Rol32.f k (rd x13_1 1) 8).bind fun t73 => ((twofish_H.f k t73 t19.2.1).bind fun t75 => (if (decide (0 ≤ (I64 ((I64 (2 * x15_1)) + 8)))) = true then (if (decide ((I64 ((I64 (2 * x15_1)) + 8)) < (t19.1.length : Int))) = true then ((scrimref1_Rol32.f k (bxor .u32 (rd x13_1 2) (U32 ((U32 (t71 + t75)) + (rd t19.1 (I64 ((I64 (2 * x15_1)) + 8)))))) 31).bind fun t83 => (if (decide (0 ≤ (I64 ((I64 (2 * x15_1)) + 9)))) = true then (if (decide ((I64 ((I64 (2 * x15_1)) + 9)) < (t19.1.length : Int))) = true then ((scrimref1_Rol32.f k (rd x13_1 3) 1).bind fun t91 => ((some (bxor .u32 t91 (U32 ((U32 (t71 + (U32 (2 * t75)))) + (rd t19.1 (I64 ((I64 (2 * x15_1)) + 9))))) : Int)).bind fun y92 => (scrimlaw9_TwofishRounds.l1 k s31 t19 t37 ([t83, y92, rd x13_1 0, rd x13_1 1] : List Int) (I64 (x15_1 + 1))))) else (none)) else (none))) else (none)) else (none))))) else ((twofish_Twofish_Block.f k s31 t37 false).bind fun t97 => (scrimlaw9_TwofishRounds.l2 k t19 t97 x13_1 (⟨#[]⟩ : ByteArray) 0))
def scrimlaw9_TwofishRounds.l2 : Nat → (List Int × List Int × Int) → (List Int × Int) → (List Int) → ByteArray → Int → Option (Bool)
  | 0, _, _, _, _, _ => none
  | k + 1, t19, t97, x13_1, x22_2, x23_2 => if (decide (x23_2 < 4)) = true then (if (decide (0 ≤ (Int.tmod (I64 (x23_2 + 2)) 4))) = true then (if (decide ((Int.tmod (I64 (x23_2 + 2)) 4) < (4 : Int))) = true then (if (decide (0 ≤ (I64 (x23_2 + 4)))) = true then (if (decide ((I64 (x23_2 + 4)) < (t19.1.length : Int))) = true then ((scrimref1_PutLe32.f k (bxor .u32 (rd x13_1 (Int.tmod (I64 (x23_2 + 2)) 4)) (rd t19.1 (I64 (x23_2 + 4))))).bind fun t112 => (if (decide (x22_2.size + (strOf t112).size ≤ 1000000000)) = true then (scrimlaw9_TwofishRounds.l2 k t19 t97 x13_1 (x22_2 ++ (strOf t112)) (I64 (x23_2 + 1))) else (none))) else (none)) else (none)) else (none)) else (none)) else (some ((strOf t97.1).toList == x22_2.toList))
end
def scrimlaw9_TwofishRounds.f (k : Nat) (a0 : List Int) (a1 : Int) (a2 : List Int) : Option (Bool) := (scrimlaw9_known.f k).bind fun t2 => (if (!t2) = true then (some false) else ((scrimlaw9_key.f k a0 a1).bind fun t5 => ((twofish_New.f k t5).bind fun t11 => ((scrimlaw9_key.f k a0 a1).bind fun t13 => ((twofish_Keys.f k t13).bind fun t19 => (if (t11.2 != 0) = true then (some false) else (if (t19.2.2 != 0) = true then (some false) else (if t11.1.isSome = true then ((t11.1).bind fun s31 => (if ((t19.1.length : Int) != 40) = true then (some false) else (if (decide ((t19.2.1.length : Int) < 2)) = true then (some false) else ((scrimlaw9_Bytes.f k 16 a2).bind fun t37 => (scrimlaw9_TwofishRounds.l0 k s31 t19 t37 (List.replicate 4 (0 : Int)) 0))))) else (some false)))))))))
set_option maxRecDepth 100000 in
set_option maxHeartbeats 8000000 in
theorem scrimlaw9_TwofishRounds.calls (k : Nat) (Ap0 : Option Addr) (np0 cp0 : Nat) (a0 : List Int) (a1 : Int) (Ap2 : Option Addr) (np2 cp2 : Nat) (a2 : List Int) (r : Bool) (w : World) (hr0 : Rd w (.slice Ap0 np0 cp0) (nums .u8 a0)) (hr2 : Rd w (.slice Ap2 np2 cp2) (nums .u8 a2)) (h : scrimlaw9_TwofishRounds.f k a0 a1 a2 = some r) :
    Calls Go.Proofs.Try.prog 6 #[(.slice Ap0 np0 cp0), .int .i64 a1, (.slice Ap2 np2 cp2)] w (Ret fun v w' => v = .bool r ∧ Mem w w' []) := by
  obtain rfl : a0.length = np0 := by have h_ := hr0.1; simpa [nums_length, bools_length, strs_length] using h_
  obtain rfl : a2.length = np2 := by have h_ := hr2.1; simpa [nums_length, bools_length, strs_length] using h_
  unfold scrimlaw9_TwofishRounds.f at h
  refine calls_of [.slice Ap0 a0.length cp0, .int .i64 a1, .slice Ap2 a2.length cp2] (fn := Go.Proofs.Try.f6) Go.Proofs.Try.func6 (by kernel_rfl) (by kernel_rfl) ?_
  have hM := Mem.refl w
  refine RunF.go 7 [0, 1, 2] (k' := (pin Go.Proofs.Try.f6 [1, 0, 0] 0)) (L' := [(0, .slice Ap0 a0.length cp0), (1, .int .i64 a1), (2, .slice Ap2 a2.length cp2)]) (w' := w) (by kernel_rfl) ?_
  obtain ⟨t2, ht2, h⟩ := Option.bind_eq_some_iff.mp h
  refine RunF.call (d := some 24) (g := 8) (args := #[]) (k2 := (pin Go.Proofs.Try.f6 [1, 0, 0] 1)) (by kernel_rfl) (scrimlaw9_known.calls k t2 _ ht2) ?_
  rintro _ W1 ⟨rfl, hM_⟩
  replace hM := hM.call hM_
  clear hM_ ht2
  refine RunF.go 2 [0, 1, 2, 25] (k' := (pl Go.Proofs.Try.f6 [1, 0, 1])) (L' := [(0, .slice Ap0 a0.length cp0), (1, .int .i64 a1), (2, .slice Ap2 a2.length cp2), (25, .bool (!t2))]) (w' := W1) (by kernel_rfl) ?_
  rcases two (!t2) with c3 | c3
  · replace h := of_true h c3
    refine RunF.know 25 (b := true) (by kernel_rfl) c3 ?_
    refine RunF.go 5 [6] (k' := (pl Go.Proofs.Try.f6 [1, 0, 1, 0, 1])) (L' := [(6, .bool false)]) (w' := W1) (by kernel_rfl) ?_
    obtain rfl := Option.some.inj h
    exact RunF.ret1 6 (.bool false) (fn := Go.Proofs.Try.f6) Go.Proofs.Try.func6 (by kernel_rfl) (by kernel_rfl) (by kernel_rfl) ⟨_, rfl, rfl, (hM.pick [] rfl rfl)⟩
  · replace h := of_false h c3
    refine RunF.know 25 (b := false) (by kernel_rfl) c3 ?_
    refine RunF.go 6 [0, 1, 2, 27, 28] (k' := (pin Go.Proofs.Try.f6 [1, 1, 0] 2)) (L' := [(0, .slice Ap0 a0.length cp0), (1, .int .i64 a1), (2, .slice Ap2 a2.length cp2), (27, .slice Ap0 a0.length cp0), (28, .int .i64 a1)]) (w' := W1) (by kernel_rfl) ?_
    obtain ⟨t5, ht5, h⟩ := Option.bind_eq_some_iff.mp h
    refine RunF.call (d := some 29) (g := 10) (args := #[.slice Ap0 a0.length cp0, .int .i64 a1]) (k2 := (pin Go.Proofs.Try.f6 [1, 1, 0] 3)) (by kernel_rfl) (scrimlaw9_key.calls k Ap0 a0.length cp0 a0 a1 t5 _ (hr0.mono hM.below) ht5) ?_
    rintro _ W4 ⟨A6, n7, c8, rfl, hM_⟩
    obtain rfl : t5.length = n7 := by have h_ := (hM_.rd 0 rfl).1; simpa [nums_length, bools_length, strs_length] using h_
    replace hM := hM.call hM_
    clear hM_ ht5
    obtain ⟨t11, ht11, h⟩ := Option.bind_eq_some_iff.mp h
    refine RunF.call (d := some 30) (g := 18) (args := #[.slice A6 t5.length c8]) (k2 := (pin Go.Proofs.Try.f6 [1, 1, 0] 4)) (by kernel_rfl) (twofish_New.calls k A6 t5.length c8 t5 t11 _ (hM.rd 0 rfl) ht11) ?_
    rintro _ W10 ⟨vt11_0, Ft11_0, rfl, hRt11_0, hM_⟩
    replace hM : Mem w W10 (Gs [⟨.slice A6 t5.length c8, 5, 1, nums .u8 t5⟩] [Ft11_0]) := (Mem.callG (hM.as (H' := Gs [⟨.slice A6 t5.length c8, 5, 1, nums .u8 t5⟩] []) rfl) hM_).as rfl
    clear hM_ ht11
    refine RunF.go 10 [2, 7, 8, 34, 35] (k' := (pin Go.Proofs.Try.f6 [1, 1, 1, 0] 2)) (L' := [(2, .slice Ap2 a2.length cp2), (7, vt11_0), (8, .int .i64 t11.2), (34, .slice Ap0 a0.length cp0), (35, .int .i64 a1)]) (w' := W10) (by kernel_rfl) ?_
    obtain ⟨t13, ht13, h⟩ := Option.bind_eq_some_iff.mp h
    refine RunF.call (d := some 36) (g := 10) (args := #[.slice Ap0 a0.length cp0, .int .i64 a1]) (k2 := (pin Go.Proofs.Try.f6 [1, 1, 1, 0] 3)) (by kernel_rfl) (scrimlaw9_key.calls k Ap0 a0.length cp0 a0 a1 t13 _ (hr0.mono hM.below) ht13) ?_
    rintro _ W12 ⟨A14, n15, c16, rfl, hM_⟩
    obtain rfl : t13.length = n15 := by have h_ := (hM_.rd 0 rfl).1; simpa [nums_length, bools_length, strs_length] using h_
    replace hM : Mem w W12 (Gs [⟨.slice A14 t13.length c16, 5, 1, nums .u8 t13⟩, ⟨.slice A6 t5.length c8, 5, 1, nums .u8 t5⟩] [Ft11_0]) := (Mem.callG (hM.as (H' := Gs [⟨.slice A6 t5.length c8, 5, 1, nums .u8 t5⟩] [Ft11_0]) rfl) hM_.grp).as rfl
    clear hM_ ht13
    obtain ⟨t19, ht19, h⟩ := Option.bind_eq_some_iff.mp h
    refine RunF.call (d := some 37) (g := 9) (args := #[.slice A14 t13.length c16]) (k2 := (pin Go.Proofs.Try.f6 [1, 1, 1, 0] 4)) (by kernel_rfl) (twofish_Keys.calls k A14 t13.length c16 t13 t19 _ (hM.rd 0 rfl) ht19) ?_
    rintro _ W18 ⟨A20, n21, c22, A23, n24, c25, rfl, hM_⟩
    obtain rfl : t19.1.length = n21 := by have h_ := (hM_.rd 0 rfl).1; simpa [nums_length, bools_length, strs_length] using h_
    obtain rfl : t19.2.1.length = n24 := by have h_ := (hM_.rd 1 rfl).1; simpa [nums_length, bools_length, strs_length] using h_
    replace hM : Mem w W18 (Gs [⟨.slice A20 t19.1.length c22, 37, 1, nums .u32 t19.1⟩, ⟨.slice A23 t19.2.1.length c25, 37, 1, nums .u32 t19.2.1⟩, ⟨.slice A14 t13.length c16, 5, 1, nums .u8 t13⟩, ⟨.slice A6 t5.length c8, 5, 1, nums .u8 t5⟩] [Ft11_0]) := (Mem.callG (hM.as (H' := Gs [⟨.slice A14 t13.length c16, 5, 1, nums .u8 t13⟩, ⟨.slice A6 t5.length c8, 5, 1, nums .u8 t5⟩] [Ft11_0]) rfl) hM_.grp).as rfl
    clear hM_ ht19
    refine RunF.go 14 [2, 7, 9, 10, 11, 43] (k' := (pin Go.Proofs.Try.f6 [1, 1, 1, 1, 0, 0] 3)) (L' := [(2, .slice Ap2 a2.length cp2), (7, vt11_0), (9, .slice A20 t19.1.length c22), (10, .slice A23 t19.2.1.length c25), (11, .int .i64 t19.2.2), (43, .bool (t11.2 != 0))]) (w' := W18) (by kernel_rfl) ?_
    rcases two ((t11.2 != 0)) with c28 | c28
    · replace h := of_true h c28
      refine RunF.know 43 (b := true) (by kernel_rfl) c28 ?_
      refine RunF.go 23 [6] (k' := (pl Go.Proofs.Try.f6 [1, 1, 1, 1, 0, 1, 0, 1])) (L' := [(6, .bool false)]) (w' := W18) (by kernel_rfl) ?_
      obtain rfl := Option.some.inj h
      exact RunF.ret1 6 (.bool false) (fn := Go.Proofs.Try.f6) Go.Proofs.Try.func6 (by kernel_rfl) (by kernel_rfl) (by kernel_rfl) ⟨_, rfl, rfl, (Mem.pickF (hM.as (H' := Gs [⟨.slice A20 t19.1.length c22, 37, 1, nums .u32 t19.1⟩, ⟨.slice A23 t19.2.1.length c25, 37, 1, nums .u32 t19.2.1⟩, ⟨.slice A14 t13.length c16, 5, 1, nums .u8 t13⟩, ⟨.slice A6 t5.length c8, 5, 1, nums .u8 t5⟩] [Ft11_0]) rfl) [] rfl rfl rfl).ungrp⟩
    · replace h := of_false h c28
      refine RunF.know 43 (b := false) (by kernel_rfl) c28 ?_
      refine RunF.go 4 [2, 7, 9, 10, 47] (k' := (pin Go.Proofs.Try.f6 [1, 1, 1, 1, 0, 0] 7)) (L' := [(2, .slice Ap2 a2.length cp2), (7, vt11_0), (9, .slice A20 t19.1.length c22), (10, .slice A23 t19.2.1.length c25), (47, .bool (t19.2.2 != 0))]) (w' := W18) (by kernel_rfl) ?_
      rcases two ((t19.2.2 != 0)) with c29 | c29
      · replace h := of_true h c29
        refine RunF.know 47 (b := true) (by kernel_rfl) c29 ?_
        refine RunF.go 19 [6] (k' := (pl Go.Proofs.Try.f6 [1, 1, 1, 1, 0, 1, 0, 1])) (L' := [(6, .bool false)]) (w' := W18) (by kernel_rfl) ?_
        obtain rfl := Option.some.inj h
        exact RunF.ret1 6 (.bool false) (fn := Go.Proofs.Try.f6) Go.Proofs.Try.func6 (by kernel_rfl) (by kernel_rfl) (by kernel_rfl) ⟨_, rfl, rfl, (Mem.pickF (hM.as (H' := Gs [⟨.slice A20 t19.1.length c22, 37, 1, nums .u32 t19.1⟩, ⟨.slice A23 t19.2.1.length c25, 37, 1, nums .u32 t19.2.1⟩, ⟨.slice A14 t13.length c16, 5, 1, nums .u8 t13⟩, ⟨.slice A6 t5.length c8, 5, 1, nums .u8 t5⟩] [Ft11_0]) rfl) [] rfl rfl rfl).ungrp⟩
      · replace h := of_false h c29
        refine RunF.know 47 (b := false) (by kernel_rfl) c29 ?_
        refine RunF.go 1 [2, 7, 9, 10, 47, 48] (k' := (pin Go.Proofs.Try.f6 [1, 1, 1, 1, 0, 0] 8)) (L' := [(2, .slice Ap2 a2.length cp2), (7, vt11_0), (9, .slice A20 t19.1.length c22), (10, .slice A23 t19.2.1.length c25), (47, .bool false), (48, vt11_0)]) (w' := W18) (by kernel_rfl) ?_
        rcases two (t11.1.isSome) with c30 | c30
        · replace h := of_true h c30
          obtain ⟨s31, hx_, h⟩ := Option.bind_eq_some_iff.mp h
          have hps31 := rOpt.some hRt11_0 hx_
          obtain ⟨g32, _, rfl, hco33, _, _, rfl, ⟨Ao33_0, co33_0, rfl, ho33_0⟩, ⟨Ao33_1, co33_1, rfl, ho33_1⟩⟩ := id hps31
          refine RunF.go 8 [2, 7, 9, 10, 56] (k' := (pin Go.Proofs.Try.f6 [1, 1, 1, 1, 0, 0] 16)) (L' := [(2, .slice Ap2 a2.length cp2), (7, .pointer (some ⟨g32, 0, none⟩)), (9, .slice A20 t19.1.length c22), (10, .slice A23 t19.2.1.length c25), (56, .bool ((t19.1.length : Int) != 40))]) (w' := W18) (by kernel_rfl) ?_
          rcases two (((t19.1.length : Int) != 40)) with c34 | c34
          · replace h := of_true h c34
            refine RunF.know 56 (b := true) (by kernel_rfl) c34 ?_
            refine RunF.go 10 [6] (k' := (pl Go.Proofs.Try.f6 [1, 1, 1, 1, 0, 1, 0, 1])) (L' := [(6, .bool false)]) (w' := W18) (by kernel_rfl) ?_
            obtain rfl := Option.some.inj h
            exact RunF.ret1 6 (.bool false) (fn := Go.Proofs.Try.f6) Go.Proofs.Try.func6 (by kernel_rfl) (by kernel_rfl) (by kernel_rfl) ⟨_, rfl, rfl, (Mem.pickF (hM.as (H' := Gs [⟨.slice A20 t19.1.length c22, 37, 1, nums .u32 t19.1⟩, ⟨.slice A23 t19.2.1.length c25, 37, 1, nums .u32 t19.2.1⟩, ⟨.slice A14 t13.length c16, 5, 1, nums .u8 t13⟩, ⟨.slice A6 t5.length c8, 5, 1, nums .u8 t5⟩] [Ft11_0]) rfl) [] rfl rfl rfl).ungrp⟩
          · replace h := of_false h c34
            refine RunF.know 56 (b := false) (by kernel_rfl) c34 ?_
            refine RunF.go 5 [2, 7, 9, 10, 60] (k' := (pl Go.Proofs.Try.f6 [1, 1, 1, 1, 0, 1])) (L' := [(2, .slice Ap2 a2.length cp2), (7, .pointer (some ⟨g32, 0, none⟩)), (9, .slice A20 t19.1.length c22), (10, .slice A23 t19.2.1.length c25), (60, .bool (decide ((t19.2.1.length : Int) < 2)))]) (w' := W18) (by kernel_rfl) ?_
            rcases two (decide ((t19.2.1.length : Int) < 2)) with c35 | c35
            · replace h := of_true h c35
              refine RunF.know 60 (b := true) (by kernel_rfl) c35 ?_
              refine RunF.go 5 [6] (k' := (pl Go.Proofs.Try.f6 [1, 1, 1, 1, 0, 1, 0, 1])) (L' := [(6, .bool false)]) (w' := W18) (by kernel_rfl) ?_
              obtain rfl := Option.some.inj h
              exact RunF.ret1 6 (.bool false) (fn := Go.Proofs.Try.f6) Go.Proofs.Try.func6 (by kernel_rfl) (by kernel_rfl) (by kernel_rfl) ⟨_, rfl, rfl, (Mem.pickF (hM.as (H' := Gs [⟨.slice A20 t19.1.length c22, 37, 1, nums .u32 t19.1⟩, ⟨.slice A23 t19.2.1.length c25, 37, 1, nums .u32 t19.2.1⟩, ⟨.slice A14 t13.length c16, 5, 1, nums .u8 t13⟩, ⟨.slice A6 t5.length c8, 5, 1, nums .u8 t5⟩] [Ft11_0]) rfl) [] rfl rfl rfl).ungrp⟩
            · replace h := of_false h c35
              refine RunF.know 60 (b := false) (by kernel_rfl) c35 ?_
              refine RunF.go 5 [7, 9, 10, 61] (k' := (pin Go.Proofs.Try.f6 [1, 1, 1, 1, 1, 0] 1)) (L' := [(7, .pointer (some ⟨g32, 0, none⟩)), (9, .slice A20 t19.1.length c22), (10, .slice A23 t19.2.1.length c25), (61, .slice Ap2 a2.length cp2)]) (w' := W18) (by kernel_rfl) ?_
              obtain ⟨t37, ht37, h⟩ := Option.bind_eq_some_iff.mp h
              refine RunF.call (d := some 62) (g := 19) (args := #[.int .i64 16, .slice Ap2 a2.length cp2]) (k2 := (pin Go.Proofs.Try.f6 [1, 1, 1, 1, 1, 0] 2)) (by kernel_rfl) (scrimlaw9_Bytes.calls k 16 Ap2 a2.length cp2 a2 t37 _ (hr2.mono hM.below) ht37) ?_
              rintro _ W36 ⟨A38, n39, c40, rfl, hM_⟩
              obtain rfl : t37.length = n39 := by have h_ := (hM_.rd 0 rfl).1; simpa [nums_length, bools_length, strs_length] using h_
              replace hM : Mem w W36 (Gs [⟨.slice A38 t37.length c40, 5, 1, nums .u8 t37⟩, ⟨.slice A20 t19.1.length c22, 37, 1, nums .u32 t19.1⟩, ⟨.slice A23 t19.2.1.length c25, 37, 1, nums .u32 t19.2.1⟩, ⟨.slice A14 t13.length c16, 5, 1, nums .u8 t13⟩, ⟨.slice A6 t5.length c8, 5, 1, nums .u8 t5⟩] [Ft11_0]) := (Mem.callG (hM.as (H' := Gs [⟨.slice A20 t19.1.length c22, 37, 1, nums .u32 t19.1⟩, ⟨.slice A23 t19.2.1.length c25, 37, 1, nums .u32 t19.2.1⟩, ⟨.slice A14 t13.length c16, 5, 1, nums .u8 t13⟩, ⟨.slice A6 t5.length c8, 5, 1, nums .u8 t5⟩] [Ft11_0]) rfl) hM_.grp).as rfl
              clear hM_ ht37
              refine RunF.go 4 [7, 9, 10, 12] (k' := (pin Go.Proofs.Try.f6 [1, 1, 1, 1, 1, 1, 0] 0)) (L' := [(7, .pointer (some ⟨g32, 0, none⟩)), (9, .slice A20 t19.1.length c22), (10, .slice A23 t19.2.1.length c25), (12, .slice A38 t37.length c40)]) (w' := W36) (by kernel_rfl) ?_
              refine RunF.newVar 44 (nums .u32 (List.replicate 4 (0 : Int))) (d := some 13) (k2 := (pin Go.Proofs.Try.f6 [1, 1, 1, 1, 1, 1, 0] 1)) hM (by kernel_rfl) ?_
              intro g42 W43 hM
              refine RunF.go 8 [7, 9, 10, 12, 13, 14] (k' := (pl Go.Proofs.Try.f6 [1, 1, 1, 1, 1, 1, 1, 0, 1, 0, 0])) (L' := [(7, .pointer (some ⟨g32, 0, none⟩)), (9, .slice A20 t19.1.length c22), (10, .slice A23 t19.2.1.length c25), (12, .slice A38 t37.length c40), (13, .pointer (some ⟨g42, 0, none⟩)), (14, .int .i64 0)]) (w' := W43) (by kernel_rfl) ?_
              have l0 : ∀ (k_ : Nat), k_ ≤ k → ∀ (x13_0 : List Int) (x14_0 : Int) (W : World) (hM : Mem w W (Gs [⟨.slice A20 t19.1.length c22, 37, 1, nums .u32 t19.1⟩, ⟨.slice A23 t19.2.1.length c25, 37, 1, nums .u32 t19.2.1⟩, ⟨.slice A38 t37.length c40, 5, 1, nums .u8 t37⟩, ⟨.pointer (some ⟨g42, 0, none⟩), 44, 0, nums .u32 x13_0⟩] [Ft11_0])) (hlx13_0 : x13_0.length = 4) (h : scrimlaw9_TwofishRounds.l0 k_ s31 t19 t37 x13_0 x14_0 = some r), RunF Go.Proofs.Try.prog (Ret fun v w' => v = .bool r ∧ Mem w w' []) 6 (pl Go.Proofs.Try.f6 [1, 1, 1, 1, 1, 1, 1, 0, 1, 0, 0]) 161 [(7, .pointer (some ⟨g32, 0, none⟩)), (9, .slice A20 t19.1.length c22), (10, .slice A23 t19.2.1.length c25), (12, .slice A38 t37.length c40), (13, .pointer (some ⟨g42, 0, none⟩)), (14, .int .i64 x14_0)] W := by
                intro k_
                induction k_ using Nat.strongRecOn with
                | _ k_ ih0 =>
                  intro hk x13_0 x14_0 W hM hlx13_0 h
                  cases k_ with
                  | zero => exact absurd h (by simp [scrimlaw9_TwofishRounds.l0])
                  | succ k =>
                    simp only [scrimlaw9_TwofishRounds.l0] at h
                    replace ih0 : ∀ m, m ≤ k → _ := fun m hm => ih0 m (by omega) (by omega)
                    refine RunF.go 6 [7, 9, 10, 12, 13, 14, 64] (k' := (pl Go.Proofs.Try.f6 [1, 1, 1, 1, 1, 1, 1, 0, 1, 0, 0, 0, 1])) (L' := [(7, .pointer (some ⟨g32, 0, none⟩)), (9, .slice A20 t19.1.length c22), (10, .slice A23 t19.2.1.length c25), (12, .slice A38 t37.length c40), (13, .pointer (some ⟨g42, 0, none⟩)), (14, .int .i64 x14_0), (64, .bool (decide (x14_0 < 4)))]) (w' := W) (by kernel_rfl) ?_
                    rcases two (decide (x14_0 < 4)) with c45 | c45
                    · replace h := of_true h c45
                      refine RunF.know 64 (b := true) (by kernel_rfl) c45 ?_
                      refine RunF.go 4 [7, 9, 10, 12, 13, 14] (k' := (pl Go.Proofs.Try.f6 [1, 1, 1, 1, 1, 1, 1, 0, 1, 0, 0, 1, 0, 0])) (L' := [(7, .pointer (some ⟨g32, 0, none⟩)), (9, .slice A20 t19.1.length c22), (10, .slice A23 t19.2.1.length c25), (12, .slice A38 t37.length c40), (13, .pointer (some ⟨g42, 0, none⟩)), (14, .int .i64 x14_0)]) (w' := W) (by kernel_rfl) ?_
                      refine RunF.draw (Still ({ W with drawn := W.drawn + 1 } : World) [.pointer (some ⟨g42, 0, none⟩)]) (by kernel_rfl) (by kernel_rfl) ?_
                      have hMd47 := hM.drew
                      have hS := Still.refl ({ W with drawn := W.drawn + 1 } : World) [.pointer (some ⟨g42, 0, none⟩)]
                      generalize ({ W with drawn := W.drawn + 1 } : World) = W46 at hMd47 hS ⊢
                      replace hM := hMd47
                      refine RunAny.y 0 (by kernel_rfl) (yl_pure (d := some 67) (v := .int .i64 x14_0) (k2 := [.inRegion (opsOf (pl Go.Proofs.Try.f6 [1, 1, 1, 1, 1, 1, 1, 0, 1, 0, 0, 1, 0, 0])) []]) fun w => by kernel_rfl) (fun _ _ => trivial) hS ?_
                      refine RunAny.y 1 (by kernel_rfl) (yl_pure (d := some 68) (v := .slice A38 t37.length c40) (k2 := [.inRegion (opsOf (pl Go.Proofs.Try.f6 [1, 1, 1, 1, 1, 1, 1, 0, 1, 0, 0, 1, 0, 0])) []]) fun w => by kernel_rfl) (fun _ _ => trivial) hS ?_
                      refine RunAny.y 2 (by kernel_rfl) (yl_pure (d := some 69) (v := .int .i64 x14_0) (k2 := [.inRegion (opsOf (pl Go.Proofs.Try.f6 [1, 1, 1, 1, 1, 1, 1, 0, 1, 0, 0, 1, 0, 0])) []]) fun w => by kernel_rfl) (fun _ _ => trivial) hS ?_
                      refine RunAny.y 3 (by kernel_rfl) (yl_pure (d := some 70) (v := .int .i64 (I64 (4 * x14_0))) (k2 := [.inRegion (opsOf (pl Go.Proofs.Try.f6 [1, 1, 1, 1, 1, 1, 1, 0, 1, 0, 0, 1, 0, 0])) []]) fun w => by kernel_rfl) (fun _ _ => trivial) hS ?_
                      refine RunAny.y 4 (by kernel_rfl) (yl_pure (d := some 71) (v := .int .i64 x14_0) (k2 := [.inRegion (opsOf (pl Go.Proofs.Try.f6 [1, 1, 1, 1, 1, 1, 1, 0, 1, 0, 0, 1, 0, 0])) []]) fun w => by kernel_rfl) (fun _ _ => trivial) hS ?_
                      refine RunAny.y 5 (by kernel_rfl) (yl_pure (d := some 72) (v := .int .i64 (I64 (4 * x14_0))) (k2 := [.inRegion (opsOf (pl Go.Proofs.Try.f6 [1, 1, 1, 1, 1, 1, 1, 0, 1, 0, 0, 1, 0, 0])) []]) fun w => by kernel_rfl) (fun _ _ => trivial) hS ?_
                      refine RunAny.y 6 (by kernel_rfl) (yl_pure (d := some 73) (v := .int .i64 (I64 ((I64 (4 * x14_0)) + 4))) (k2 := [.inRegion (opsOf (pl Go.Proofs.Try.f6 [1, 1, 1, 1, 1, 1, 1, 0, 1, 0, 0, 1, 0, 0])) []]) fun w => by kernel_rfl) (fun _ _ => trivial) hS ?_
                      rcases two (decide (0 ≤ (I64 (4 * x14_0)))) with c48 | c48
                      · replace h := of_true h c48
                        rcases two (decide ((I64 (4 * x14_0)) ≤ (I64 ((I64 (4 * x14_0)) + 4)))) with c49 | c49
                        · replace h := of_true h c49
                          rcases two (decide ((I64 ((I64 (4 * x14_0)) + 4)) ≤ (t37.length : Int))) with c50 | c50
                          · replace h := of_true h c50
                            have zc48 := of_decide_eq_true c48
                            have zc49 := of_decide_eq_true c49
                            have zc50 := of_decide_eq_true c50
                            obtain ⟨A51, n52, c53, hy54, rfl, hs55⟩ := cut (P := Go.Proofs.Try.prog) (n := 161) (k := (one (opsOf (pl Go.Proofs.Try.f6 [1, 1, 1, 1, 1, 1, 1, 0, 1, 0, 0, 1, 0, 0])) 7)) (L := (upd (upd (upd (upd (upd (upd (upd [(7, .pointer (some ⟨g32, 0, none⟩)), (9, .slice A20 t19.1.length c22), (10, .slice A23 t19.2.1.length c25), (12, .slice A38 t37.length c40), (13, .pointer (some ⟨g42, 0, none⟩)), (14, .int .i64 x14_0)] (some 67) (.int .i64 x14_0)) (some 68) (.slice A38 t37.length c40)) (some 69) (.int .i64 x14_0)) (some 70) (.int .i64 (I64 (4 * x14_0)))) (some 71) (.int .i64 x14_0)) (some 72) (.int .i64 (I64 (4 * x14_0)))) (some 73) (.int .i64 (I64 ((I64 (4 * x14_0)) + 4))))) (d := some 74) (A := A38) (m := t37.length) (c := c40) (l := I64 (4 * x14_0)) (h := I64 ((I64 (4 * x14_0)) + 4)) (k2 := [.inRegion (opsOf (pl Go.Proofs.Try.f6 [1, 1, 1, 1, 1, 1, 1, 0, 1, 0, 0, 1, 0, 0])) []]) .u8 t37 (by kernel_rfl) (by omega) (by omega) (by omega) (hM.rd 2 rfl)
                            clear zc48
                            clear zc49
                            clear zc50
                            refine RunAny.y 7 (by kernel_rfl) hy54 (fun _ _ => trivial) hS ?_
                            refine RunAny.y 10 (by kernel_rfl) (yl_pure (d := some 77) (v := .slice A20 t19.1.length c22) (k2 := [.inRegion (opsOf (pl Go.Proofs.Try.f6 [1, 1, 1, 1, 1, 1, 1, 0, 1, 0, 0, 1, 0, 0])) []]) fun w => by kernel_rfl) (fun _ _ => trivial) hS ?_
                            refine RunAny.y 11 (by kernel_rfl) (yl_pure (d := some 78) (v := .int .i64 x14_0) (k2 := [.inRegion (opsOf (pl Go.Proofs.Try.f6 [1, 1, 1, 1, 1, 1, 1, 0, 1, 0, 0, 1, 0, 0])) []]) fun w => by kernel_rfl) (fun _ _ => trivial) hS ?_
                            rcases two (decide (0 ≤ x14_0)) with c57 | c57
                            · replace h := of_true h c57
                              rcases two (decide (x14_0 < (t19.1.length : Int))) with c58 | c58
                              · replace h := of_true h c58
                                obtain ⟨q56, hAq56, hcq56, hfq56, hlq56⟩ := hM.num_at 0 rfl (i := x14_0) (of_decide_eq_true c57) (by have h_ := of_decide_eq_true c58; omega)
                                refine RunAny.y 12 (by kernel_rfl) (idx_own (d := some 79) (A := A20) (m := t19.1.length) (i := x14_0) (k2 := [.inRegion (opsOf (pl Go.Proofs.Try.f6 [1, 1, 1, 1, 1, 1, 1, 0, 1, 0, 0, 1, 0, 0])) []]) (by kernel_rfl) (of_decide_eq_true c57) (by have h_ := of_decide_eq_true c58; omega) hAq56) (fun _ _ => trivial) hS ?_
                                refine RunAny.y 13 (by kernel_rfl) (ld_y (d := some 80) (p := ⟨q56, (x14_0 : Int).toNat, none⟩) (k2 := [.inRegion (opsOf (pl Go.Proofs.Try.f6 [1, 1, 1, 1, 1, 1, 1, 0, 1, 0, 0, 1, 0, 0])) []]) (.int .u32 (rd t19.1 x14_0)) (by kernel_rfl)) (fun _ hs => hs.cell hcq56 (by intro v hv; simp only [List.mem_cons, List.not_mem_nil, or_false] at hv; rcases hv with rfl; exact (hM.ne 0 3 rfl rfl rfl (by rw [hAq56]; rfl)))) hS ?_
                                obtain ⟨t60, ht60, h⟩ := Option.bind_eq_some_iff.mp h
                                refine RunAny.call 8 (d := some 75) (g := 20) (args := #[.slice A51 (((t37.take (I64 ((I64 (4 * x14_0)) + 4) : Int).toNat).drop (I64 (4 * x14_0) : Int).toNat).length) c53]) (by kernel_rfl) (by kernel_rfl) (scrimref1_Little.calls k A51 (((t37.take (I64 ((I64 (4 * x14_0)) + 4) : Int).toNat).drop (I64 (4 * x14_0) : Int).toNat).length) c53 ((t37.take (I64 ((I64 (4 * x14_0)) + 4) : Int).toNat).drop (I64 (4 * x14_0) : Int).toNat) t60 _ (hs55 _ (hM.rd 2 rfl)) ht60) (by rintro _ _ ⟨rfl, hM_⟩; exact hS.below hM_.below) ?_
                                rintro _ W59 ⟨rfl, hM_⟩
                                replace hS := hS.below hM_.below
                                replace hM : Mem w W59 (Gs [⟨.slice A20 t19.1.length c22, 37, 1, nums .u32 t19.1⟩, ⟨.slice A23 t19.2.1.length c25, 37, 1, nums .u32 t19.2.1⟩, ⟨.slice A38 t37.length c40, 5, 1, nums .u8 t37⟩, ⟨.pointer (some ⟨g42, 0, none⟩), 44, 0, nums .u32 x13_0⟩] [Ft11_0]) := (Mem.callG (hM.as (H' := Gs [⟨.slice A20 t19.1.length c22, 37, 1, nums .u32 t19.1⟩, ⟨.slice A23 t19.2.1.length c25, 37, 1, nums .u32 t19.2.1⟩, ⟨.slice A38 t37.length c40, 5, 1, nums .u8 t37⟩, ⟨.pointer (some ⟨g42, 0, none⟩), 44, 0, nums .u32 x13_0⟩] [Ft11_0]) rfl) hM_.grp).as rfl
                                clear hM_ ht60
                                refine RunAny.rebase hS ?_
                                replace hS := Still.refl W59 [.pointer (some ⟨g42, 0, none⟩)]
                                refine RunAny.y 9 (by kernel_rfl) (yl_pure (d := some 76) (v := .int .u32 (U32 (t60))) (k2 := [.inRegion (opsOf (pl Go.Proofs.Try.f6 [1, 1, 1, 1, 1, 1, 1, 0, 1, 0, 0, 1, 0, 0])) []]) fun w => by kernel_rfl) (fun _ _ => trivial) hS ?_
                                refine RunAny.y 14 (by kernel_rfl) (yl_pure (d := some 81) (v := .int .u32 (bxor .u32 (U32 (t60)) (rd t19.1 x14_0))) (k2 := [.inRegion (opsOf (pl Go.Proofs.Try.f6 [1, 1, 1, 1, 1, 1, 1, 0, 1, 0, 0, 1, 0, 0])) []]) fun w => by kernel_rfl) (fun _ _ => trivial) hS ?_
                                rcases two (decide (0 ≤ x14_0)) with c62 | c62
                                · replace h := of_true h c62
                                  rcases two (decide (x14_0 < (4 : Int))) with c63 | c63
                                  · replace h := of_true h c63
                                    obtain ⟨hcq61, hfq61, hlq61⟩ := hM.arr_num 3 rfl (i := x14_0) (of_decide_eq_true c62) (N := 4) hlx13_0 (of_decide_eq_true c63)
                                    refine RunAny.y 15 (by kernel_rfl) (idxArr_own (d := some 82) (g := g42) (len := 4) (i := x14_0) (k2 := [.inRegion (opsOf (pl Go.Proofs.Try.f6 [1, 1, 1, 1, 1, 1, 1, 0, 1, 0, 0, 1, 0, 0])) []]) (by kernel_rfl) (of_decide_eq_true c62) (of_decide_eq_true c63)) (fun _ _ => trivial) hS ?_
                                    obtain ⟨hc_, hf_, hl_⟩ := hM.arr_num 3 rfl (i := x14_0) (of_decide_eq_true c62) (N := 4) hlx13_0 (of_decide_eq_true c63)
                                    have hS' := hS.set (v := .pointer (some ⟨g42, 0, none⟩)) (g := g42) (i := (x14_0 : Int).toNat) (by simp) rfl (.int .u32 (bxor .u32 (U32 (t60)) (rd t19.1 x14_0)))
                                    refine RunAny.doesU 16 (by kernel_rfl) (st_u (p := (⟨g42, (x14_0 : Int).toNat, none⟩ : Addr)) (v := .int .u32 (bxor .u32 (U32 (t60)) (rd t19.1 x14_0))) (k2 := [.inRegion (opsOf (pl Go.Proofs.Try.f6 [1, 1, 1, 1, 1, 1, 1, 0, 1, 0, 0, 1, 0, 0])) []]) (by kernel_rfl) hc_ hf_) hS' ?_
                                    replace hM : Mem w (W59.setCell (⟨g42, (x14_0 : Int).toNat, none⟩ : Addr) (.int .u32 (bxor .u32 (U32 (t60)) (rd t19.1 x14_0)))) (Gs [⟨.slice A20 t19.1.length c22, 37, 1, nums .u32 t19.1⟩, ⟨.slice A23 t19.2.1.length c25, 37, 1, nums .u32 t19.2.1⟩, ⟨.slice A38 t37.length c40, 5, 1, nums .u8 t37⟩, ⟨.pointer (some ⟨g42, 0, none⟩), 44, 0, nums .u32 (x13_0.set (x14_0 : Int).toNat (bxor .u32 (U32 (t60)) (rd t19.1 x14_0)))⟩] [Ft11_0]) := Mem.arr_put_num [⟨.slice A20 t19.1.length c22, 37, 1, nums .u32 t19.1⟩, ⟨.slice A23 t19.2.1.length c25, 37, 1, nums .u32 t19.2.1⟩, ⟨.slice A38 t37.length c40, 5, 1, nums .u8 t37⟩] (Gs [] [Ft11_0]) (hM.as rfl) _ hl_ _
                                    generalize W59.setCell (⟨g42, (x14_0 : Int).toNat, none⟩ : Addr) (.int .u32 (bxor .u32 (U32 (t60)) (rd t19.1 x14_0))) = W64 at hM hS' ⊢
                                    clear hc_ hf_ hl_ hcq61 hfq61 hlq61
                                    replace hS := hS'
                                    refine RunAny.rebase hS ?_
                                    replace hS := Still.refl W64 [.pointer (some ⟨g42, 0, none⟩)]
                                    refine RunAny.done (by kernel_rfl) ?_
                                    clear hS
                                    refine RunF.go 7 [7, 9, 10, 12, 13, 14] (k' := (pl Go.Proofs.Try.f6 [1, 1, 1, 1, 1, 1, 1, 0, 1, 0, 0])) (L' := [(7, .pointer (some ⟨g32, 0, none⟩)), (9, .slice A20 t19.1.length c22), (10, .slice A23 t19.2.1.length c25), (12, .slice A38 t37.length c40), (13, .pointer (some ⟨g42, 0, none⟩)), (14, .int .i64 (I64 (x14_0 + 1)))]) (w' := W64) (by kernel_rfl) ?_
                                    exact ih0 k (by omega) (x13_0.set (x14_0 : Int).toNat (bxor .u32 (U32 (t60)) (rd t19.1 x14_0))) (I64 (x14_0 + 1)) _ (Mem.pickF (hM.as (H' := Gs [⟨.slice A20 t19.1.length c22, 37, 1, nums .u32 t19.1⟩, ⟨.slice A23 t19.2.1.length c25, 37, 1, nums .u32 t19.2.1⟩, ⟨.slice A38 t37.length c40, 5, 1, nums .u8 t37⟩, ⟨.pointer (some ⟨g42, 0, none⟩), 44, 0, nums .u32 (x13_0.set (x14_0 : Int).toNat (bxor .u32 (U32 (t60)) (rd t19.1 x14_0)))⟩] [Ft11_0]) rfl) [0, 1, 2, 3, 4] rfl rfl rfl) (List.length_set.trans hlx13_0) h
                                  · replace h := of_false h c63
                                    cases h
                                · replace h := of_false h c62
                                  cases h
                              · replace h := of_false h c58
                                cases h
                            · replace h := of_false h c57
                              cases h
                          · replace h := of_false h c50
                            cases h
                        · replace h := of_false h c49
                          cases h
                      · replace h := of_false h c48
                        cases h
                    · replace h := of_false h c45
                      refine RunF.know 64 (b := false) (by kernel_rfl) c45 ?_
                      refine RunF.go 9 [7, 9, 10, 12, 13, 15] (k' := (pl Go.Proofs.Try.f6 [1, 1, 1, 1, 1, 1, 1, 1, 0, 1, 0, 0])) (L' := [(7, .pointer (some ⟨g32, 0, none⟩)), (9, .slice A20 t19.1.length c22), (10, .slice A23 t19.2.1.length c25), (12, .slice A38 t37.length c40), (13, .pointer (some ⟨g42, 0, none⟩)), (15, .int .i64 0)]) (w' := W) (by kernel_rfl) ?_
                      have l1 : ∀ (k_ : Nat), k_ ≤ k → ∀ (x13_1 : List Int) (x15_1 : Int) (W : World) (hM : Mem w W (Gs [⟨.slice A20 t19.1.length c22, 37, 1, nums .u32 t19.1⟩, ⟨.slice A23 t19.2.1.length c25, 37, 1, nums .u32 t19.2.1⟩, ⟨.slice A38 t37.length c40, 5, 1, nums .u8 t37⟩, ⟨.pointer (some ⟨g42, 0, none⟩), 44, 0, nums .u32 x13_1⟩] [Ft11_0])) (hlx13_1 : x13_1.length = 4) (h : scrimlaw9_TwofishRounds.l1 k_ s31 t19 t37 x13_1 x15_1 = some r), RunF Go.Proofs.Try.prog (Ret fun v w' => v = .bool r ∧ Mem w w' []) 6 (pl Go.Proofs.Try.f6 [1, 1, 1, 1, 1, 1, 1, 1, 0, 1, 0, 0]) 161 [(7, .pointer (some ⟨g32, 0, none⟩)), (9, .slice A20 t19.1.length c22), (10, .slice A23 t19.2.1.length c25), (12, .slice A38 t37.length c40), (13, .pointer (some ⟨g42, 0, none⟩)), (15, .int .i64 x15_1)] W := by
                        intro k_
                        induction k_ using Nat.strongRecOn with
                        | _ k_ ih1 =>
                          intro hk x13_1 x15_1 W hM hlx13_1 h
                          cases k_ with
                          | zero => exact absurd h (by simp [scrimlaw9_TwofishRounds.l1])
                          | succ k =>
                            simp only [scrimlaw9_TwofishRounds.l1] at h
                            replace ih1 : ∀ m, m ≤ k → _ := fun m hm => ih1 m (by omega) (by omega)
                            replace ih0 : ∀ m, m ≤ k → _ := fun m hm => ih0 m (by omega)
                            refine RunF.go 6 [7, 9, 10, 12, 13, 15, 84] (k' := (pl Go.Proofs.Try.f6 [1, 1, 1, 1, 1, 1, 1, 1, 0, 1, 0, 0, 0, 1])) (L' := [(7, .pointer (some ⟨g32, 0, none⟩)), (9, .slice A20 t19.1.length c22), (10, .slice A23 t19.2.1.length c25), (12, .slice A38 t37.length c40), (13, .pointer (some ⟨g42, 0, none⟩)), (15, .int .i64 x15_1), (84, .bool (decide (x15_1 < 16)))]) (w' := W) (by kernel_rfl) ?_
                            rcases two (decide (x15_1 < 16)) with c65 | c65
                            · replace h := of_true h c65
                              refine RunF.know 84 (b := true) (by kernel_rfl) c65 ?_
                              refine RunF.go 5 [7, 9, 10, 12, 13, 15] (k' := (pl Go.Proofs.Try.f6 [1, 1, 1, 1, 1, 1, 1, 1, 0, 1, 0, 0, 1, 0, 0, 0])) (L' := [(7, .pointer (some ⟨g32, 0, none⟩)), (9, .slice A20 t19.1.length c22), (10, .slice A23 t19.2.1.length c25), (12, .slice A38 t37.length c40), (13, .pointer (some ⟨g42, 0, none⟩)), (15, .int .i64 x15_1)]) (w' := W) (by kernel_rfl) ?_
                              refine RunF.draw (Still ({ W with drawn := W.drawn + 1 } : World) []) (by kernel_rfl) (by kernel_rfl) ?_
                              have hMd67 := hM.drew
                              have hS := Still.refl ({ W with drawn := W.drawn + 1 } : World) []
                              generalize ({ W with drawn := W.drawn + 1 } : World) = W66 at hMd67 hS ⊢
                              replace hM := hMd67
                              obtain ⟨hcq68, hfq68, hlq68⟩ := hM.arr_num 3 rfl (i := 0) (by omega) (N := 4) hlx13_1 (by decide)
                              refine RunAny.y 0 (by kernel_rfl) (idxArr_own (d := some 87) (g := g42) (len := 4) (i := 0) (k2 := [.inRegion (opsOf (pl Go.Proofs.Try.f6 [1, 1, 1, 1, 1, 1, 1, 1, 0, 1, 0, 0, 1, 0, 0, 0])) []]) (by kernel_rfl) (by omega) (by decide)) (fun _ _ => trivial) hS ?_
                              refine RunAny.y 1 (by kernel_rfl) (ld_y (d := some 88) (p := ⟨g42, (0 : Int).toNat, none⟩) (k2 := [.inRegion (opsOf (pl Go.Proofs.Try.f6 [1, 1, 1, 1, 1, 1, 1, 1, 0, 1, 0, 0, 1, 0, 0, 0])) []]) (.int .u32 (rd x13_1 0)) (by kernel_rfl)) (fun _ hs => hs.cell hcq68 (by simp)) hS ?_
                              refine RunAny.y 2 (by kernel_rfl) (yl_pure (d := some 89) (v := .slice A23 t19.2.1.length c25) (k2 := [.inRegion (opsOf (pl Go.Proofs.Try.f6 [1, 1, 1, 1, 1, 1, 1, 1, 0, 1, 0, 0, 1, 0, 0, 0])) []]) fun w => by kernel_rfl) (fun _ _ => trivial) hS ?_
                              obtain ⟨hcq69, hfq69, hlq69⟩ := hM.arr_num 3 rfl (i := 1) (by omega) (N := 4) hlx13_1 (by decide)
                              refine RunAny.y 4 (by kernel_rfl) (idxArr_own (d := some 91) (g := g42) (len := 4) (i := 1) (k2 := [.inRegion (opsOf (pl Go.Proofs.Try.f6 [1, 1, 1, 1, 1, 1, 1, 1, 0, 1, 0, 0, 1, 0, 0, 0])) []]) (by kernel_rfl) (by omega) (by decide)) (fun _ _ => trivial) hS ?_
                              refine RunAny.y 5 (by kernel_rfl) (ld_y (d := some 92) (p := ⟨g42, (1 : Int).toNat, none⟩) (k2 := [.inRegion (opsOf (pl Go.Proofs.Try.f6 [1, 1, 1, 1, 1, 1, 1, 1, 0, 1, 0, 0, 1, 0, 0, 0])) []]) (.int .u32 (rd x13_1 1)) (by kernel_rfl)) (fun _ hs => hs.cell hcq69 (by simp)) hS ?_
                              refine RunAny.y 7 (by kernel_rfl) (yl_pure (d := some 94) (v := .slice A23 t19.2.1.length c25) (k2 := [.inRegion (opsOf (pl Go.Proofs.Try.f6 [1, 1, 1, 1, 1, 1, 1, 1, 0, 1, 0, 0, 1, 0, 0, 0])) []]) fun w => by kernel_rfl) (fun _ _ => trivial) hS ?_
                              obtain ⟨t71, ht71, h⟩ := Option.bind_eq_some_iff.mp h
                              refine RunAny.call 3 (d := some 90) (g := 16) (args := #[.int .u32 (rd x13_1 0), .slice A23 t19.2.1.length c25]) (by kernel_rfl) (by kernel_rfl) (twofish_H.calls k (rd x13_1 0) A23 t19.2.1.length c25 t19.2.1 t71 _ (hM.rd 1 rfl) ht71) (by rintro _ _ ⟨rfl, hM_⟩; exact hS.below hM_.below) ?_
                              rintro _ W70 ⟨rfl, hM_⟩
                              replace hS := hS.below hM_.below
                              replace hM : Mem w W70 (Gs [⟨.slice A20 t19.1.length c22, 37, 1, nums .u32 t19.1⟩, ⟨.slice A23 t19.2.1.length c25, 37, 1, nums .u32 t19.2.1⟩, ⟨.slice A38 t37.length c40, 5, 1, nums .u8 t37⟩, ⟨.pointer (some ⟨g42, 0, none⟩), 44, 0, nums .u32 x13_1⟩] [Ft11_0]) := (Mem.callG (hM.as (H' := Gs [⟨.slice A20 t19.1.length c22, 37, 1, nums .u32 t19.1⟩, ⟨.slice A23 t19.2.1.length c25, 37, 1, nums .u32 t19.2.1⟩, ⟨.slice A38 t37.length c40, 5, 1, nums .u8 t37⟩, ⟨.pointer (some ⟨g42, 0, none⟩), 44, 0, nums .u32 x13_1⟩] [Ft11_0]) rfl) hM_.grp).as rfl
                              clear hM_ ht71
                              refine RunAny.rebase hS ?_
                              replace hS := Still.refl W70 []
                              obtain ⟨t73, ht73, h⟩ := Option.bind_eq_some_iff.mp h
                              refine RunAny.call 6 (d := some 93) (g := 21) (args := #[.int .u32 (rd x13_1 1), .int .i64 8]) (by kernel_rfl) (by kernel_rfl) (scrimref1_Rol32.calls k (rd x13_1 1) 8 t73 _ ht73) (by rintro _ _ ⟨rfl, hM_⟩; exact hS.below hM_.below) ?_
                              rintro _ W72 ⟨rfl, hM_⟩
                              replace hS := hS.below hM_.below
                              replace hM : Mem w W72 (Gs [⟨.slice A20 t19.1.length c22, 37, 1, nums .u32 t19.1⟩, ⟨.slice A23 t19.2.1.length c25, 37, 1, nums .u32 t19.2.1⟩, ⟨.slice A38 t37.length c40, 5, 1, nums .u8 t37⟩, ⟨.pointer (some ⟨g42, 0, none⟩), 44, 0, nums .u32 x13_1⟩] [Ft11_0]) := (Mem.callG (hM.as (H' := Gs [⟨.slice A20 t19.1.length c22, 37, 1, nums .u32 t19.1⟩, ⟨.slice A23 t19.2.1.length c25, 37, 1, nums .u32 t19.2.1⟩, ⟨.slice A38 t37.length c40, 5, 1, nums .u8 t37⟩, ⟨.pointer (some ⟨g42, 0, none⟩), 44, 0, nums .u32 x13_1⟩] [Ft11_0]) rfl) hM_.grp).as rfl
                              clear hM_ ht73
                              refine RunAny.rebase hS ?_
                              replace hS := Still.refl W72 []
                              obtain ⟨t75, ht75, h⟩ := Option.bind_eq_some_iff.mp h
                              refine RunAny.call 8 (d := some 95) (g := 16) (args := #[.int .u32 t73, .slice A23 t19.2.1.length c25]) (by kernel_rfl) (by kernel_rfl) (twofish_H.calls k t73 A23 t19.2.1.length c25 t19.2.1 t75 _ (hM.rd 1 rfl) ht75) (by rintro _ _ ⟨rfl, hM_⟩; exact hS.below hM_.below) ?_
                              rintro _ W74 ⟨rfl, hM_⟩
                              replace hS := hS.below hM_.below
                              replace hM : Mem w W74 (Gs [⟨.slice A20 t19.1.length c22, 37, 1, nums .u32 t19.1⟩, ⟨.slice A23 t19.2.1.length c25, 37, 1, nums .u32 t19.2.1⟩, ⟨.slice A38 t37.length c40, 5, 1, nums .u8 t37⟩, ⟨.pointer (some ⟨g42, 0, none⟩), 44, 0, nums .u32 x13_1⟩] [Ft11_0]) := (Mem.callG (hM.as (H' := Gs [⟨.slice A20 t19.1.length c22, 37, 1, nums .u32 t19.1⟩, ⟨.slice A23 t19.2.1.length c25, 37, 1, nums .u32 t19.2.1⟩, ⟨.slice A38 t37.length c40, 5, 1, nums .u8 t37⟩, ⟨.pointer (some ⟨g42, 0, none⟩), 44, 0, nums .u32 x13_1⟩] [Ft11_0]) rfl) hM_.grp).as rfl
                              clear hM_ ht75
                              refine RunAny.rebase hS ?_
                              replace hS := Still.refl W74 []
                              refine RunAny.y 9 (by kernel_rfl) (yl_pure (d := some 16) (v := .int .u32 t71) (k2 := [.inRegion (opsOf (pl Go.Proofs.Try.f6 [1, 1, 1, 1, 1, 1, 1, 1, 0, 1, 0, 0, 1, 0, 0, 0])) []]) fun w => by kernel_rfl) (fun _ _ => trivial) hS ?_
                              refine RunAny.y 10 (by kernel_rfl) (yl_pure (d := some 17) (v := .int .u32 t75) (k2 := [.inRegion (opsOf (pl Go.Proofs.Try.f6 [1, 1, 1, 1, 1, 1, 1, 1, 0, 1, 0, 0, 1, 0, 0, 0])) []]) fun w => by kernel_rfl) (fun _ _ => trivial) hS ?_
                              refine RunAny.done (by kernel_rfl) ?_
                              clear hS
                              refine RunF.go 1 [7, 9, 10, 12, 13, 15, 16, 17] (k' := (pl Go.Proofs.Try.f6 [1, 1, 1, 1, 1, 1, 1, 1, 0, 1, 0, 0, 1, 0, 0, 1, 0])) (L' := [(7, .pointer (some ⟨g32, 0, none⟩)), (9, .slice A20 t19.1.length c22), (10, .slice A23 t19.2.1.length c25), (12, .slice A38 t37.length c40), (13, .pointer (some ⟨g42, 0, none⟩)), (15, .int .i64 x15_1), (16, .int .u32 t71), (17, .int .u32 t75)]) (w' := W74) (by kernel_rfl) ?_
                              refine RunF.draw (Still ({ W74 with drawn := W74.drawn + 1 } : World) []) (by kernel_rfl) (by kernel_rfl) ?_
                              have hMd77 := hM.drew
                              have hS := Still.refl ({ W74 with drawn := W74.drawn + 1 } : World) []
                              generalize ({ W74 with drawn := W74.drawn + 1 } : World) = W76 at hMd77 hS ⊢
                              replace hM := hMd77
                              obtain ⟨hcq78, hfq78, hlq78⟩ := hM.arr_num 3 rfl (i := 2) (by omega) (N := 4) hlx13_1 (by decide)
                              refine RunAny.y 0 (by kernel_rfl) (idxArr_own (d := some 96) (g := g42) (len := 4) (i := 2) (k2 := [.inRegion (opsOf (pl Go.Proofs.Try.f6 [1, 1, 1, 1, 1, 1, 1, 1, 0, 1, 0, 0, 1, 0, 0, 1, 0])) []]) (by kernel_rfl) (by omega) (by decide)) (fun _ _ => trivial) hS ?_
                              refine RunAny.y 1 (by kernel_rfl) (ld_y (d := some 97) (p := ⟨g42, (2 : Int).toNat, none⟩) (k2 := [.inRegion (opsOf (pl Go.Proofs.Try.f6 [1, 1, 1, 1, 1, 1, 1, 1, 0, 1, 0, 0, 1, 0, 0, 1, 0])) []]) (.int .u32 (rd x13_1 2)) (by kernel_rfl)) (fun _ hs => hs.cell hcq78 (by simp)) hS ?_
                              refine RunAny.y 2 (by kernel_rfl) (yl_pure (d := some 98) (v := .int .u32 t71) (k2 := [.inRegion (opsOf (pl Go.Proofs.Try.f6 [1, 1, 1, 1, 1, 1, 1, 1, 0, 1, 0, 0, 1, 0, 0, 1, 0])) []]) fun w => by kernel_rfl) (fun _ _ => trivial) hS ?_
                              refine RunAny.y 3 (by kernel_rfl) (yl_pure (d := some 99) (v := .int .u32 t75) (k2 := [.inRegion (opsOf (pl Go.Proofs.Try.f6 [1, 1, 1, 1, 1, 1, 1, 1, 0, 1, 0, 0, 1, 0, 0, 1, 0])) []]) fun w => by kernel_rfl) (fun _ _ => trivial) hS ?_
                              refine RunAny.y 4 (by kernel_rfl) (yl_pure (d := some 100) (v := .int .u32 (U32 (t71 + t75))) (k2 := [.inRegion (opsOf (pl Go.Proofs.Try.f6 [1, 1, 1, 1, 1, 1, 1, 1, 0, 1, 0, 0, 1, 0, 0, 1, 0])) []]) fun w => by kernel_rfl) (fun _ _ => trivial) hS ?_
                              refine RunAny.y 5 (by kernel_rfl) (yl_pure (d := some 101) (v := .slice A20 t19.1.length c22) (k2 := [.inRegion (opsOf (pl Go.Proofs.Try.f6 [1, 1, 1, 1, 1, 1, 1, 1, 0, 1, 0, 0, 1, 0, 0, 1, 0])) []]) fun w => by kernel_rfl) (fun _ _ => trivial) hS ?_
                              refine RunAny.y 6 (by kernel_rfl) (yl_pure (d := some 102) (v := .int .i64 x15_1) (k2 := [.inRegion (opsOf (pl Go.Proofs.Try.f6 [1, 1, 1, 1, 1, 1, 1, 1, 0, 1, 0, 0, 1, 0, 0, 1, 0])) []]) fun w => by kernel_rfl) (fun _ _ => trivial) hS ?_
                              refine RunAny.y 7 (by kernel_rfl) (yl_pure (d := some 103) (v := .int .i64 (I64 (2 * x15_1))) (k2 := [.inRegion (opsOf (pl Go.Proofs.Try.f6 [1, 1, 1, 1, 1, 1, 1, 1, 0, 1, 0, 0, 1, 0, 0, 1, 0])) []]) fun w => by kernel_rfl) (fun _ _ => trivial) hS ?_
                              refine RunAny.y 8 (by kernel_rfl) (yl_pure (d := some 104) (v := .int .i64 (I64 ((I64 (2 * x15_1)) + 8))) (k2 := [.inRegion (opsOf (pl Go.Proofs.Try.f6 [1, 1, 1, 1, 1, 1, 1, 1, 0, 1, 0, 0, 1, 0, 0, 1, 0])) []]) fun w => by kernel_rfl) (fun _ _ => trivial) hS ?_
                              rcases two (decide (0 ≤ (I64 ((I64 (2 * x15_1)) + 8)))) with c80 | c80
                              · replace h := of_true h c80
                                rcases two (decide ((I64 ((I64 (2 * x15_1)) + 8)) < (t19.1.length : Int))) with c81 | c81
                                · replace h := of_true h c81
                                  obtain ⟨q79, hAq79, hcq79, hfq79, hlq79⟩ := hM.num_at 0 rfl (i := I64 ((I64 (2 * x15_1)) + 8)) (of_decide_eq_true c80) (by have h_ := of_decide_eq_true c81; omega)
                                  refine RunAny.y 9 (by kernel_rfl) (idx_own (d := some 105) (A := A20) (m := t19.1.length) (i := I64 ((I64 (2 * x15_1)) + 8)) (k2 := [.inRegion (opsOf (pl Go.Proofs.Try.f6 [1, 1, 1, 1, 1, 1, 1, 1, 0, 1, 0, 0, 1, 0, 0, 1, 0])) []]) (by kernel_rfl) (of_decide_eq_true c80) (by have h_ := of_decide_eq_true c81; omega) hAq79) (fun _ _ => trivial) hS ?_
                                  refine RunAny.y 10 (by kernel_rfl) (ld_y (d := some 106) (p := ⟨q79, (I64 ((I64 (2 * x15_1)) + 8) : Int).toNat, none⟩) (k2 := [.inRegion (opsOf (pl Go.Proofs.Try.f6 [1, 1, 1, 1, 1, 1, 1, 1, 0, 1, 0, 0, 1, 0, 0, 1, 0])) []]) (.int .u32 (rd t19.1 (I64 ((I64 (2 * x15_1)) + 8)))) (by kernel_rfl)) (fun _ hs => hs.cell hcq79 (by simp)) hS ?_
                                  refine RunAny.y 11 (by kernel_rfl) (yl_pure (d := some 107) (v := .int .u32 (U32 ((U32 (t71 + t75)) + (rd t19.1 (I64 ((I64 (2 * x15_1)) + 8)))))) (k2 := [.inRegion (opsOf (pl Go.Proofs.Try.f6 [1, 1, 1, 1, 1, 1, 1, 1, 0, 1, 0, 0, 1, 0, 0, 1, 0])) []]) fun w => by kernel_rfl) (fun _ _ => trivial) hS ?_
                                  refine RunAny.y 12 (by kernel_rfl) (yl_pure (d := some 108) (v := .int .u32 (bxor .u32 (rd x13_1 2) (U32 ((U32 (t71 + t75)) + (rd t19.1 (I64 ((I64 (2 * x15_1)) + 8))))))) (k2 := [.inRegion (opsOf (pl Go.Proofs.Try.f6 [1, 1, 1, 1, 1, 1, 1, 1, 0, 1, 0, 0, 1, 0, 0, 1, 0])) []]) fun w => by kernel_rfl) (fun _ _ => trivial) hS ?_
                                  obtain ⟨t83, ht83, h⟩ := Option.bind_eq_some_iff.mp h
                                  refine RunAny.call 13 (d := some 109) (g := 21) (args := #[.int .u32 (bxor .u32 (rd x13_1 2) (U32 ((U32 (t71 + t75)) + (rd t19.1 (I64 ((I64 (2 * x15_1)) + 8)))))), .int .i64 31]) (by kernel_rfl) (by kernel_rfl) (scrimref1_Rol32.calls k (bxor .u32 (rd x13_1 2) (U32 ((U32 (t71 + t75)) + (rd t19.1 (I64 ((I64 (2 * x15_1)) + 8)))))) 31 t83 _ ht83) (by rintro _ _ ⟨rfl, hM_⟩; exact hS.below hM_.below) ?_
                                  rintro _ W82 ⟨rfl, hM_⟩
                                  replace hS := hS.below hM_.below
                                  replace hM : Mem w W82 (Gs [⟨.slice A20 t19.1.length c22, 37, 1, nums .u32 t19.1⟩, ⟨.slice A23 t19.2.1.length c25, 37, 1, nums .u32 t19.2.1⟩, ⟨.slice A38 t37.length c40, 5, 1, nums .u8 t37⟩, ⟨.pointer (some ⟨g42, 0, none⟩), 44, 0, nums .u32 x13_1⟩] [Ft11_0]) := (Mem.callG (hM.as (H' := Gs [⟨.slice A20 t19.1.length c22, 37, 1, nums .u32 t19.1⟩, ⟨.slice A23 t19.2.1.length c25, 37, 1, nums .u32 t19.2.1⟩, ⟨.slice A38 t37.length c40, 5, 1, nums .u8 t37⟩, ⟨.pointer (some ⟨g42, 0, none⟩), 44, 0, nums .u32 x13_1⟩] [Ft11_0]) rfl) hM_.grp).as rfl
                                  clear hM_ ht83
                                  refine RunAny.rebase hS ?_
                                  replace hS := Still.refl W82 []
                                  refine RunAny.y 14 (by kernel_rfl) (yl_pure (d := some 18) (v := .int .u32 t83) (k2 := [.inRegion (opsOf (pl Go.Proofs.Try.f6 [1, 1, 1, 1, 1, 1, 1, 1, 0, 1, 0, 0, 1, 0, 0, 1, 0])) []]) fun w => by kernel_rfl) (fun _ _ => trivial) hS ?_
                                  refine RunAny.done (by kernel_rfl) ?_
                                  clear hS
                                  refine RunF.go 1 [7, 9, 10, 12, 13, 15, 16, 17, 18] (k' := (pl Go.Proofs.Try.f6 [1, 1, 1, 1, 1, 1, 1, 1, 0, 1, 0, 0, 1, 0, 0, 1, 1, 0])) (L' := [(7, .pointer (some ⟨g32, 0, none⟩)), (9, .slice A20 t19.1.length c22), (10, .slice A23 t19.2.1.length c25), (12, .slice A38 t37.length c40), (13, .pointer (some ⟨g42, 0, none⟩)), (15, .int .i64 x15_1), (16, .int .u32 t71), (17, .int .u32 t75), (18, .int .u32 t83)]) (w' := W82) (by kernel_rfl) ?_
                                  refine RunF.draw (Still ({ W82 with drawn := W82.drawn + 1 } : World) []) (by kernel_rfl) (by kernel_rfl) ?_
                                  have hMd85 := hM.drew
                                  have hS := Still.refl ({ W82 with drawn := W82.drawn + 1 } : World) []
                                  generalize ({ W82 with drawn := W82.drawn + 1 } : World) = W84 at hMd85 hS ⊢
                                  replace hM := hMd85
                                  obtain ⟨hcq86, hfq86, hlq86⟩ := hM.arr_num 3 rfl (i := 3) (by omega) (N := 4) hlx13_1 (by decide)
                                  refine RunAny.y 0 (by kernel_rfl) (idxArr_own (d := some 110) (g := g42) (len := 4) (i := 3) (k2 := [.inRegion (opsOf (pl Go.Proofs.Try.f6 [1, 1, 1, 1, 1, 1, 1, 1, 0, 1, 0, 0, 1, 0, 0, 1, 1, 0])) []]) (by kernel_rfl) (by omega) (by decide)) (fun _ _ => trivial) hS ?_
                                  refine RunAny.y 1 (by kernel_rfl) (ld_y (d := some 111) (p := ⟨g42, (3 : Int).toNat, none⟩) (k2 := [.inRegion (opsOf (pl Go.Proofs.Try.f6 [1, 1, 1, 1, 1, 1, 1, 1, 0, 1, 0, 0, 1, 0, 0, 1, 1, 0])) []]) (.int .u32 (rd x13_1 3)) (by kernel_rfl)) (fun _ hs => hs.cell hcq86 (by simp)) hS ?_
                                  refine RunAny.y 3 (by kernel_rfl) (yl_pure (d := some 113) (v := .int .u32 t71) (k2 := [.inRegion (opsOf (pl Go.Proofs.Try.f6 [1, 1, 1, 1, 1, 1, 1, 1, 0, 1, 0, 0, 1, 0, 0, 1, 1, 0])) []]) fun w => by kernel_rfl) (fun _ _ => trivial) hS ?_
                                  refine RunAny.y 4 (by kernel_rfl) (yl_pure (d := some 114) (v := .int .u32 t75) (k2 := [.inRegion (opsOf (pl Go.Proofs.Try.f6 [1, 1, 1, 1, 1, 1, 1, 1, 0, 1, 0, 0, 1, 0, 0, 1, 1, 0])) []]) fun w => by kernel_rfl) (fun _ _ => trivial) hS ?_
                                  refine RunAny.y 5 (by kernel_rfl) (yl_pure (d := some 115) (v := .int .u32 (U32 (2 * t75))) (k2 := [.inRegion (opsOf (pl Go.Proofs.Try.f6 [1, 1, 1, 1, 1, 1, 1, 1, 0, 1, 0, 0, 1, 0, 0, 1, 1, 0])) []]) fun w => by kernel_rfl) (fun _ _ => trivial) hS ?_
                                  refine RunAny.y 6 (by kernel_rfl) (yl_pure (d := some 116) (v := .int .u32 (U32 (t71 + (U32 (2 * t75))))) (k2 := [.inRegion (opsOf (pl Go.Proofs.Try.f6 [1, 1, 1, 1, 1, 1, 1, 1, 0, 1, 0, 0, 1, 0, 0, 1, 1, 0])) []]) fun w => by kernel_rfl) (fun _ _ => trivial) hS ?_
                                  refine RunAny.y 7 (by kernel_rfl) (yl_pure (d := some 117) (v := .slice A20 t19.1.length c22) (k2 := [.inRegion (opsOf (pl Go.Proofs.Try.f6 [1, 1, 1, 1, 1, 1, 1, 1, 0, 1, 0, 0, 1, 0, 0, 1, 1, 0])) []]) fun w => by kernel_rfl) (fun _ _ => trivial) hS ?_
                                  refine RunAny.y 8 (by kernel_rfl) (yl_pure (d := some 118) (v := .int .i64 x15_1) (k2 := [.inRegion (opsOf (pl Go.Proofs.Try.f6 [1, 1, 1, 1, 1, 1, 1, 1, 0, 1, 0, 0, 1, 0, 0, 1, 1, 0])) []]) fun w => by kernel_rfl) (fun _ _ => trivial) hS ?_
                                  refine RunAny.y 9 (by kernel_rfl) (yl_pure (d := some 119) (v := .int .i64 (I64 (2 * x15_1))) (k2 := [.inRegion (opsOf (pl Go.Proofs.Try.f6 [1, 1, 1, 1, 1, 1, 1, 1, 0, 1, 0, 0, 1, 0, 0, 1, 1, 0])) []]) fun w => by kernel_rfl) (fun _ _ => trivial) hS ?_
                                  refine RunAny.y 10 (by kernel_rfl) (yl_pure (d := some 120) (v := .int .i64 (I64 ((I64 (2 * x15_1)) + 9))) (k2 := [.inRegion (opsOf (pl Go.Proofs.Try.f6 [1, 1, 1, 1, 1, 1, 1, 1, 0, 1, 0, 0, 1, 0, 0, 1, 1, 0])) []]) fun w => by kernel_rfl) (fun _ _ => trivial) hS ?_
                                  rcases two (decide (0 ≤ (I64 ((I64 (2 * x15_1)) + 9)))) with c88 | c88
                                  · replace h := of_true h c88
                                    rcases two (decide ((I64 ((I64 (2 * x15_1)) + 9)) < (t19.1.length : Int))) with c89 | c89
                                    · replace h := of_true h c89
                                      obtain ⟨q87, hAq87, hcq87, hfq87, hlq87⟩ := hM.num_at 0 rfl (i := I64 ((I64 (2 * x15_1)) + 9)) (of_decide_eq_true c88) (by have h_ := of_decide_eq_true c89; omega)
                                      refine RunAny.y 11 (by kernel_rfl) (idx_own (d := some 121) (A := A20) (m := t19.1.length) (i := I64 ((I64 (2 * x15_1)) + 9)) (k2 := [.inRegion (opsOf (pl Go.Proofs.Try.f6 [1, 1, 1, 1, 1, 1, 1, 1, 0, 1, 0, 0, 1, 0, 0, 1, 1, 0])) []]) (by kernel_rfl) (of_decide_eq_true c88) (by have h_ := of_decide_eq_true c89; omega) hAq87) (fun _ _ => trivial) hS ?_
                                      refine RunAny.y 12 (by kernel_rfl) (ld_y (d := some 122) (p := ⟨q87, (I64 ((I64 (2 * x15_1)) + 9) : Int).toNat, none⟩) (k2 := [.inRegion (opsOf (pl Go.Proofs.Try.f6 [1, 1, 1, 1, 1, 1, 1, 1, 0, 1, 0, 0, 1, 0, 0, 1, 1, 0])) []]) (.int .u32 (rd t19.1 (I64 ((I64 (2 * x15_1)) + 9)))) (by kernel_rfl)) (fun _ hs => hs.cell hcq87 (by simp)) hS ?_
                                      refine RunAny.y 13 (by kernel_rfl) (yl_pure (d := some 123) (v := .int .u32 (U32 ((U32 (t71 + (U32 (2 * t75)))) + (rd t19.1 (I64 ((I64 (2 * x15_1)) + 9)))))) (k2 := [.inRegion (opsOf (pl Go.Proofs.Try.f6 [1, 1, 1, 1, 1, 1, 1, 1, 0, 1, 0, 0, 1, 0, 0, 1, 1, 0])) []]) fun w => by kernel_rfl) (fun _ _ => trivial) hS ?_
                                      obtain ⟨t91, ht91, h⟩ := Option.bind_eq_some_iff.mp h
                                      refine RunAny.call 2 (d := some 112) (g := 21) (args := #[.int .u32 (rd x13_1 3), .int .i64 1]) (by kernel_rfl) (by kernel_rfl) (scrimref1_Rol32.calls k (rd x13_1 3) 1 t91 _ ht91) (by rintro _ _ ⟨rfl, hM_⟩; exact hS.below hM_.below) ?_
                                      rintro _ W90 ⟨rfl, hM_⟩
                                      replace hS := hS.below hM_.below
                                      replace hM : Mem w W90 (Gs [⟨.slice A20 t19.1.length c22, 37, 1, nums .u32 t19.1⟩, ⟨.slice A23 t19.2.1.length c25, 37, 1, nums .u32 t19.2.1⟩, ⟨.slice A38 t37.length c40, 5, 1, nums .u8 t37⟩, ⟨.pointer (some ⟨g42, 0, none⟩), 44, 0, nums .u32 x13_1⟩] [Ft11_0]) := (Mem.callG (hM.as (H' := Gs [⟨.slice A20 t19.1.length c22, 37, 1, nums .u32 t19.1⟩, ⟨.slice A23 t19.2.1.length c25, 37, 1, nums .u32 t19.2.1⟩, ⟨.slice A38 t37.length c40, 5, 1, nums .u8 t37⟩, ⟨.pointer (some ⟨g42, 0, none⟩), 44, 0, nums .u32 x13_1⟩] [Ft11_0]) rfl) hM_.grp).as rfl
                                      clear hM_ ht91
                                      refine RunAny.rebase hS ?_
                                      replace hS := Still.refl W90 []
                                      refine RunAny.y 14 (by kernel_rfl) (yl_pure (d := some 124) (v := .int .u32 (bxor .u32 t91 (U32 ((U32 (t71 + (U32 (2 * t75)))) + (rd t19.1 (I64 ((I64 (2 * x15_1)) + 9))))))) (k2 := [.inRegion (opsOf (pl Go.Proofs.Try.f6 [1, 1, 1, 1, 1, 1, 1, 1, 0, 1, 0, 0, 1, 0, 0, 1, 1, 0])) []]) fun w => by kernel_rfl) (fun _ _ => trivial) hS ?_
                                      refine RunAny.y 15 (by kernel_rfl) (yl_pure (d := some 19) (v := .int .u32 (bxor .u32 t91 (U32 ((U32 (t71 + (U32 (2 * t75)))) + (rd t19.1 (I64 ((I64 (2 * x15_1)) + 9))))))) (k2 := [.inRegion (opsOf (pl Go.Proofs.Try.f6 [1, 1, 1, 1, 1, 1, 1, 1, 0, 1, 0, 0, 1, 0, 0, 1, 1, 0])) []]) fun w => by kernel_rfl) (fun _ _ => trivial) hS ?_
                                      refine RunAny.done (by kernel_rfl) ?_
                                      clear hS
                                      refine RunF.go 3 [7, 9, 10, 12, 13, 15, 125, 126] (k' := (pin Go.Proofs.Try.f6 [1, 1, 1, 1, 1, 1, 1, 1, 0, 1, 0, 0, 1, 0, 0, 1, 1, 1] 2)) (L' := [(7, .pointer (some ⟨g32, 0, none⟩)), (9, .slice A20 t19.1.length c22), (10, .slice A23 t19.2.1.length c25), (12, .slice A38 t37.length c40), (13, .pointer (some ⟨g42, 0, none⟩)), (15, .int .i64 x15_1), (125, .int .u32 t83), (126, .int .u32 (bxor .u32 t91 (U32 ((U32 (t71 + (U32 (2 * t75)))) + (rd t19.1 (I64 ((I64 (2 * x15_1)) + 9)))))))]) (w' := W90) (by kernel_rfl) ?_
                                      obtain ⟨y92, hy, h⟩ := Option.bind_eq_some_iff.mp h
                                      rw [show (bxor .u32 t91 (U32 ((U32 (t71 + (U32 (2 * t75)))) + (rd t19.1 (I64 ((I64 (2 * x15_1)) + 9)))))) = y92 from Option.some.inj hy]
                                      clear hy
                                      obtain ⟨hcq93, hfq93, hlq93⟩ := hM.arr_num 3 rfl (i := 0) (by omega) (N := 4) hlx13_1 (by decide)
                                      refine RunF.y (idxArr_own (d := some 127) (g := g42) (len := 4) (i := 0) (k2 := (pin Go.Proofs.Try.f6 [1, 1, 1, 1, 1, 1, 1, 1, 0, 1, 0, 0, 1, 0, 0, 1, 1, 1] 3)) (by kernel_rfl) (by omega) (by decide)) trivial ?_
                                      refine RunF.y (ld_y (d := some 128) (p := ⟨g42, (0 : Int).toNat, none⟩) (k2 := (pin Go.Proofs.Try.f6 [1, 1, 1, 1, 1, 1, 1, 1, 0, 1, 0, 0, 1, 0, 0, 1, 1, 1] 4)) (.int .u32 (rd x13_1 0)) (by kernel_rfl)) hcq93 ?_
                                      obtain ⟨hcq94, hfq94, hlq94⟩ := hM.arr_num 3 rfl (i := 1) (by omega) (N := 4) hlx13_1 (by decide)
                                      refine RunF.y (idxArr_own (d := some 129) (g := g42) (len := 4) (i := 1) (k2 := (pin Go.Proofs.Try.f6 [1, 1, 1, 1, 1, 1, 1, 1, 0, 1, 0, 0, 1, 0, 0, 1, 1, 1] 5)) (by kernel_rfl) (by omega) (by decide)) trivial ?_
                                      refine RunF.y (ld_y (d := some 130) (p := ⟨g42, (1 : Int).toNat, none⟩) (k2 := (pin Go.Proofs.Try.f6 [1, 1, 1, 1, 1, 1, 1, 1, 0, 1, 0, 0, 1, 0, 0, 1, 1, 1] 6)) (.int .u32 (rd x13_1 1)) (by kernel_rfl)) hcq94 ?_
                                      refine RunF.go 1 [7, 9, 10, 12, 13, 15, 131] (k' := (pin Go.Proofs.Try.f6 [1, 1, 1, 1, 1, 1, 1, 1, 0, 1, 0, 0, 1, 0, 0, 1, 1, 1] 7)) (L' := [(7, .pointer (some ⟨g32, 0, none⟩)), (9, .slice A20 t19.1.length c22), (10, .slice A23 t19.2.1.length c25), (12, .slice A38 t37.length c40), (13, .pointer (some ⟨g42, 0, none⟩)), (15, .int .i64 x15_1), (131, .agg (nums .u32 ([t83, y92, rd x13_1 0, rd x13_1 1] : List Int)).toArray)]) (w' := W90) (by kernel_rfl) ?_
                                      refine RunF.doesU (stv_u (N := 4) (cells := (nums .u32 ([t83, y92, rd x13_1 0, rd x13_1 1] : List Int)).toArray) (old := (nums .u32 x13_1).toArray) (ty := 44) (k2 := (pin Go.Proofs.Try.f6 [1, 1, 1, 1, 1, 1, 1, 1, 0, 1, 0, 0, 1, 0, 0, 1, 1, 1] 8)) (by kernel_rfl) (by rw [List.size_toArray]; simp only [nums_length, bools_length, strs_length]; exact rfl) (hM.block 3 rfl) (by rw [List.size_toArray]; simp only [nums_length, bools_length, strs_length]; exact hlx13_1) (all_nums _ _)) ?_
                                      replace hM : Mem w (W90.setRow g42 (nums .u32 ([t83, y92, rd x13_1 0, rd x13_1 1] : List Int)).toArray) (Gs [⟨.slice A20 t19.1.length c22, 37, 1, nums .u32 t19.1⟩, ⟨.slice A23 t19.2.1.length c25, 37, 1, nums .u32 t19.2.1⟩, ⟨.slice A38 t37.length c40, 5, 1, nums .u8 t37⟩, ⟨.pointer (some ⟨g42, 0, none⟩), 44, 0, nums .u32 ([t83, y92, rd x13_1 0, rd x13_1 1] : List Int)⟩] [Ft11_0]) := Mem.setAll [⟨.slice A20 t19.1.length c22, 37, 1, nums .u32 t19.1⟩, ⟨.slice A23 t19.2.1.length c25, 37, 1, nums .u32 t19.2.1⟩, ⟨.slice A38 t37.length c40, 5, 1, nums .u8 t37⟩] (Gs [] [Ft11_0]) (hM.as rfl)
                                      generalize W90.setRow g42 (nums .u32 ([t83, y92, rd x13_1 0, rd x13_1 1] : List Int)).toArray = W95 at hM ⊢
                                      refine RunF.go 8 [7, 9, 10, 12, 13, 15] (k' := (pl Go.Proofs.Try.f6 [1, 1, 1, 1, 1, 1, 1, 1, 0, 1, 0, 0])) (L' := [(7, .pointer (some ⟨g32, 0, none⟩)), (9, .slice A20 t19.1.length c22), (10, .slice A23 t19.2.1.length c25), (12, .slice A38 t37.length c40), (13, .pointer (some ⟨g42, 0, none⟩)), (15, .int .i64 (I64 (x15_1 + 1)))]) (w' := W95) (by kernel_rfl) ?_
                                      exact ih1 k (by omega) ([t83, y92, rd x13_1 0, rd x13_1 1] : List Int) (I64 (x15_1 + 1)) _ (Mem.pickF (hM.as (H' := Gs [⟨.slice A20 t19.1.length c22, 37, 1, nums .u32 t19.1⟩, ⟨.slice A23 t19.2.1.length c25, 37, 1, nums .u32 t19.2.1⟩, ⟨.slice A38 t37.length c40, 5, 1, nums .u8 t37⟩, ⟨.pointer (some ⟨g42, 0, none⟩), 44, 0, nums .u32 ([t83, y92, rd x13_1 0, rd x13_1 1] : List Int)⟩] [Ft11_0]) rfl) [0, 1, 2, 3, 4] rfl rfl rfl) rfl h
                                    · replace h := of_false h c89
                                      cases h
                                  · replace h := of_false h c88
                                    cases h
                                · replace h := of_false h c81
                                  cases h
                              · replace h := of_false h c80
                                cases h
                            · replace h := of_false h c65
                              refine RunF.know 84 (b := false) (by kernel_rfl) c65 ?_
                              refine RunF.go 6 [9, 13, 133, 134] (k' := (pin Go.Proofs.Try.f6 [1, 1, 1, 1, 1, 1, 1, 1, 1, 0] 2)) (L' := [(9, .slice A20 t19.1.length c22), (13, .pointer (some ⟨g42, 0, none⟩)), (133, .pointer (some ⟨g32, 0, none⟩)), (134, .slice A38 t37.length c40)]) (w' := W) (by kernel_rfl) ?_
                              obtain ⟨t97, ht97, h⟩ := Option.bind_eq_some_iff.mp h
                              refine RunF.call (d := some 135) (g := 22) (args := #[.pointer (some ⟨g32, 0, none⟩), .slice A38 t37.length c40, .bool false]) (k2 := (pin Go.Proofs.Try.f6 [1, 1, 1, 1, 1, 1, 1, 1, 1, 0] 3)) (by kernel_rfl) (twofish_Twofish_Block.calls k (.pointer (some ⟨g32, 0, none⟩)) (Oks Ft11_0) s31 A38 t37.length c40 t37 false t97 _ (hM.rd 2 rfl) hps31 (fun _ hb_ => ((Mem.oks (hM.as (H' := Gs [⟨.slice A20 t19.1.length c22, 37, 1, nums .u32 t19.1⟩, ⟨.slice A23 t19.2.1.length c25, 37, 1, nums .u32 t19.2.1⟩, ⟨.slice A38 t37.length c40, 5, 1, nums .u8 t37⟩, ⟨.pointer (some ⟨g42, 0, none⟩), 44, 0, nums .u32 x13_1⟩] [Ft11_0]) rfl) 0 rfl).kept hb_)) ht97) ?_
                              rintro _ W96 ⟨A98, n99, c100, rfl, hM_⟩
                              obtain rfl : t97.1.length = n99 := by have h_ := (hM_.rd 0 rfl).1; simpa [nums_length, bools_length, strs_length] using h_
                              replace hM : Mem w W96 (Gs [⟨.slice A98 t97.1.length c100, 5, 1, nums .u8 t97.1⟩, ⟨.slice A20 t19.1.length c22, 37, 1, nums .u32 t19.1⟩, ⟨.slice A23 t19.2.1.length c25, 37, 1, nums .u32 t19.2.1⟩, ⟨.slice A38 t37.length c40, 5, 1, nums .u8 t37⟩, ⟨.pointer (some ⟨g42, 0, none⟩), 44, 0, nums .u32 x13_1⟩] [Ft11_0]) := (Mem.callG (hM.as (H' := Gs [⟨.slice A20 t19.1.length c22, 37, 1, nums .u32 t19.1⟩, ⟨.slice A23 t19.2.1.length c25, 37, 1, nums .u32 t19.2.1⟩, ⟨.slice A38 t37.length c40, 5, 1, nums .u8 t37⟩, ⟨.pointer (some ⟨g42, 0, none⟩), 44, 0, nums .u32 x13_1⟩] [Ft11_0]) rfl) hM_.grp).as rfl
                              clear hM_ ht97
                              refine RunF.go 17 [9, 13, 20, 22, 23] (k' := (pl Go.Proofs.Try.f6 [1, 1, 1, 1, 1, 1, 1, 1, 1, 1, 1, 0, 1, 0, 0])) (L' := [(9, .slice A20 t19.1.length c22), (13, .pointer (some ⟨g42, 0, none⟩)), (20, .slice A98 t97.1.length c100), (22, .string (⟨#[]⟩ : ByteArray)), (23, .int .i64 0)]) (w' := W96) (by kernel_rfl) ?_
                              have l2 : ∀ (k_ : Nat), k_ ≤ k → ∀ (x22_2 : ByteArray) (x23_2 : Int) (W : World) (hM : Mem w W (Gs [⟨.slice A20 t19.1.length c22, 37, 1, nums .u32 t19.1⟩, ⟨.pointer (some ⟨g42, 0, none⟩), 44, 0, nums .u32 x13_1⟩, ⟨.slice A98 t97.1.length c100, 5, 1, nums .u8 t97.1⟩] [Ft11_0])) (h : scrimlaw9_TwofishRounds.l2 k_ t19 t97 x13_1 x22_2 x23_2 = some r), RunF Go.Proofs.Try.prog (Ret fun v w' => v = .bool r ∧ Mem w w' []) 6 (pl Go.Proofs.Try.f6 [1, 1, 1, 1, 1, 1, 1, 1, 1, 1, 1, 0, 1, 0, 0]) 161 [(9, .slice A20 t19.1.length c22), (13, .pointer (some ⟨g42, 0, none⟩)), (20, .slice A98 t97.1.length c100), (22, .string x22_2), (23, .int .i64 x23_2)] W := by
                                intro k_
                                induction k_ using Nat.strongRecOn with
                                | _ k_ ih2 =>
                                  intro hk x22_2 x23_2 W hM h
                                  cases k_ with
                                  | zero => exact absurd h (by simp [scrimlaw9_TwofishRounds.l2])
                                  | succ k =>
                                    simp only [scrimlaw9_TwofishRounds.l2] at h
                                    replace ih2 : ∀ m, m ≤ k → _ := fun m hm => ih2 m (by omega) (by omega)
                                    replace ih0 : ∀ m, m ≤ k → _ := fun m hm => ih0 m (by omega)
                                    replace ih1 : ∀ m, m ≤ k → _ := fun m hm => ih1 m (by omega)
                                    refine RunF.go 6 [9, 13, 20, 22, 23, 139] (k' := (pl Go.Proofs.Try.f6 [1, 1, 1, 1, 1, 1, 1, 1, 1, 1, 1, 0, 1, 0, 0, 0, 1])) (L' := [(9, .slice A20 t19.1.length c22), (13, .pointer (some ⟨g42, 0, none⟩)), (20, .slice A98 t97.1.length c100), (22, .string x22_2), (23, .int .i64 x23_2), (139, .bool (decide (x23_2 < 4)))]) (w' := W) (by kernel_rfl) ?_
                                    rcases two (decide (x23_2 < 4)) with c102 | c102
                                    · replace h := of_true h c102
                                      refine RunF.know 139 (b := true) (by kernel_rfl) c102 ?_
                                      refine RunF.go 4 [9, 13, 20, 22, 23] (k' := (pl Go.Proofs.Try.f6 [1, 1, 1, 1, 1, 1, 1, 1, 1, 1, 1, 0, 1, 0, 0, 1, 0, 0])) (L' := [(9, .slice A20 t19.1.length c22), (13, .pointer (some ⟨g42, 0, none⟩)), (20, .slice A98 t97.1.length c100), (22, .string x22_2), (23, .int .i64 x23_2)]) (w' := W) (by kernel_rfl) ?_
                                      refine RunF.draw (Still ({ W with drawn := W.drawn + 1 } : World) []) (by kernel_rfl) (by kernel_rfl) ?_
                                      have hMd104 := hM.drew
                                      have hS := Still.refl ({ W with drawn := W.drawn + 1 } : World) []
                                      generalize ({ W with drawn := W.drawn + 1 } : World) = W103 at hMd104 hS ⊢
                                      replace hM := hMd104
                                      refine RunAny.y 0 (by kernel_rfl) (yl_pure (d := some 142) (v := .string x22_2) (k2 := [.inRegion (opsOf (pl Go.Proofs.Try.f6 [1, 1, 1, 1, 1, 1, 1, 1, 1, 1, 1, 0, 1, 0, 0, 1, 0, 0])) []]) fun w => by kernel_rfl) (fun _ _ => trivial) hS ?_
                                      refine RunAny.y 1 (by kernel_rfl) (yl_pure (d := some 143) (v := .int .i64 x23_2) (k2 := [.inRegion (opsOf (pl Go.Proofs.Try.f6 [1, 1, 1, 1, 1, 1, 1, 1, 1, 1, 1, 0, 1, 0, 0, 1, 0, 0])) []]) fun w => by kernel_rfl) (fun _ _ => trivial) hS ?_
                                      refine RunAny.y 2 (by kernel_rfl) (yl_pure (d := some 144) (v := .int .i64 (I64 (x23_2 + 2))) (k2 := [.inRegion (opsOf (pl Go.Proofs.Try.f6 [1, 1, 1, 1, 1, 1, 1, 1, 1, 1, 1, 0, 1, 0, 0, 1, 0, 0])) []]) fun w => by kernel_rfl) (fun _ _ => trivial) hS ?_
                                      refine RunAny.y 3 (by kernel_rfl) (yl_pure (d := some 145) (v := .int .i64 (Int.tmod (I64 (x23_2 + 2)) 4)) (k2 := [.inRegion (opsOf (pl Go.Proofs.Try.f6 [1, 1, 1, 1, 1, 1, 1, 1, 1, 1, 1, 0, 1, 0, 0, 1, 0, 0])) []]) fun w => by kernel_rfl) (fun _ _ => trivial) hS ?_
                                      rcases two (decide (0 ≤ (Int.tmod (I64 (x23_2 + 2)) 4))) with c106 | c106
                                      · replace h := of_true h c106
                                        rcases two (decide ((Int.tmod (I64 (x23_2 + 2)) 4) < (4 : Int))) with c107 | c107
                                        · replace h := of_true h c107
                                          obtain ⟨hcq105, hfq105, hlq105⟩ := hM.arr_num 1 rfl (i := Int.tmod (I64 (x23_2 + 2)) 4) (of_decide_eq_true c106) (N := 4) hlx13_1 (of_decide_eq_true c107)
                                          refine RunAny.y 4 (by kernel_rfl) (idxArr_own (d := some 146) (g := g42) (len := 4) (i := Int.tmod (I64 (x23_2 + 2)) 4) (k2 := [.inRegion (opsOf (pl Go.Proofs.Try.f6 [1, 1, 1, 1, 1, 1, 1, 1, 1, 1, 1, 0, 1, 0, 0, 1, 0, 0])) []]) (by kernel_rfl) (of_decide_eq_true c106) (of_decide_eq_true c107)) (fun _ _ => trivial) hS ?_
                                          refine RunAny.y 5 (by kernel_rfl) (ld_y (d := some 147) (p := ⟨g42, (Int.tmod (I64 (x23_2 + 2)) 4 : Int).toNat, none⟩) (k2 := [.inRegion (opsOf (pl Go.Proofs.Try.f6 [1, 1, 1, 1, 1, 1, 1, 1, 1, 1, 1, 0, 1, 0, 0, 1, 0, 0])) []]) (.int .u32 (rd x13_1 (Int.tmod (I64 (x23_2 + 2)) 4))) (by kernel_rfl)) (fun _ hs => hs.cell hcq105 (by simp)) hS ?_
                                          refine RunAny.y 6 (by kernel_rfl) (yl_pure (d := some 148) (v := .slice A20 t19.1.length c22) (k2 := [.inRegion (opsOf (pl Go.Proofs.Try.f6 [1, 1, 1, 1, 1, 1, 1, 1, 1, 1, 1, 0, 1, 0, 0, 1, 0, 0])) []]) fun w => by kernel_rfl) (fun _ _ => trivial) hS ?_
                                          refine RunAny.y 7 (by kernel_rfl) (yl_pure (d := some 149) (v := .int .i64 x23_2) (k2 := [.inRegion (opsOf (pl Go.Proofs.Try.f6 [1, 1, 1, 1, 1, 1, 1, 1, 1, 1, 1, 0, 1, 0, 0, 1, 0, 0])) []]) fun w => by kernel_rfl) (fun _ _ => trivial) hS ?_
                                          refine RunAny.y 8 (by kernel_rfl) (yl_pure (d := some 150) (v := .int .i64 (I64 (x23_2 + 4))) (k2 := [.inRegion (opsOf (pl Go.Proofs.Try.f6 [1, 1, 1, 1, 1, 1, 1, 1, 1, 1, 1, 0, 1, 0, 0, 1, 0, 0])) []]) fun w => by kernel_rfl) (fun _ _ => trivial) hS ?_
                                          rcases two (decide (0 ≤ (I64 (x23_2 + 4)))) with c109 | c109
                                          · replace h := of_true h c109
                                            rcases two (decide ((I64 (x23_2 + 4)) < (t19.1.length : Int))) with c110 | c110
                                            · replace h := of_true h c110
                                              obtain ⟨q108, hAq108, hcq108, hfq108, hlq108⟩ := hM.num_at 0 rfl (i := I64 (x23_2 + 4)) (of_decide_eq_true c109) (by have h_ := of_decide_eq_true c110; omega)
                                              refine RunAny.y 9 (by kernel_rfl) (idx_own (d := some 151) (A := A20) (m := t19.1.length) (i := I64 (x23_2 + 4)) (k2 := [.inRegion (opsOf (pl Go.Proofs.Try.f6 [1, 1, 1, 1, 1, 1, 1, 1, 1, 1, 1, 0, 1, 0, 0, 1, 0, 0])) []]) (by kernel_rfl) (of_decide_eq_true c109) (by have h_ := of_decide_eq_true c110; omega) hAq108) (fun _ _ => trivial) hS ?_
                                              refine RunAny.y 10 (by kernel_rfl) (ld_y (d := some 152) (p := ⟨q108, (I64 (x23_2 + 4) : Int).toNat, none⟩) (k2 := [.inRegion (opsOf (pl Go.Proofs.Try.f6 [1, 1, 1, 1, 1, 1, 1, 1, 1, 1, 1, 0, 1, 0, 0, 1, 0, 0])) []]) (.int .u32 (rd t19.1 (I64 (x23_2 + 4)))) (by kernel_rfl)) (fun _ hs => hs.cell hcq108 (by simp)) hS ?_
                                              refine RunAny.y 11 (by kernel_rfl) (yl_pure (d := some 153) (v := .int .u32 (bxor .u32 (rd x13_1 (Int.tmod (I64 (x23_2 + 2)) 4)) (rd t19.1 (I64 (x23_2 + 4))))) (k2 := [.inRegion (opsOf (pl Go.Proofs.Try.f6 [1, 1, 1, 1, 1, 1, 1, 1, 1, 1, 1, 0, 1, 0, 0, 1, 0, 0])) []]) fun w => by kernel_rfl) (fun _ _ => trivial) hS ?_
                                              obtain ⟨t112, ht112, h⟩ := Option.bind_eq_some_iff.mp h
                                              refine RunAny.call 12 (d := some 154) (g := 23) (args := #[.int .u32 (bxor .u32 (rd x13_1 (Int.tmod (I64 (x23_2 + 2)) 4)) (rd t19.1 (I64 (x23_2 + 4))))]) (by kernel_rfl) (by kernel_rfl) (scrimref1_PutLe32.calls k (bxor .u32 (rd x13_1 (Int.tmod (I64 (x23_2 + 2)) 4)) (rd t19.1 (I64 (x23_2 + 4)))) t112 _ ht112) (by rintro _ _ ⟨_, _, _, rfl, hM_⟩; exact hS.below hM_.below) ?_
                                              rintro _ W111 ⟨A113, n114, c115, rfl, hM_⟩
                                              obtain rfl : t112.length = n114 := by have h_ := (hM_.rd 0 rfl).1; simpa [nums_length, bools_length, strs_length] using h_
                                              replace hS := hS.below hM_.below
                                              replace hM : Mem w W111 (Gs [⟨.slice A113 t112.length c115, 5, 1, nums .u8 t112⟩, ⟨.slice A20 t19.1.length c22, 37, 1, nums .u32 t19.1⟩, ⟨.pointer (some ⟨g42, 0, none⟩), 44, 0, nums .u32 x13_1⟩, ⟨.slice A98 t97.1.length c100, 5, 1, nums .u8 t97.1⟩] [Ft11_0]) := (Mem.callG (hM.as (H' := Gs [⟨.slice A20 t19.1.length c22, 37, 1, nums .u32 t19.1⟩, ⟨.pointer (some ⟨g42, 0, none⟩), 44, 0, nums .u32 x13_1⟩, ⟨.slice A98 t97.1.length c100, 5, 1, nums .u8 t97.1⟩] [Ft11_0]) rfl) hM_.grp).as rfl
                                              clear hM_ ht112
                                              refine RunAny.rebase hS ?_
                                              replace hS := Still.refl W111 []
                                              refine RunAny.y 13 (by kernel_rfl) (str_y (d := some 155) (A := A113) (m := t112.length) (c := c115) (k2 := [.inRegion (opsOf (pl Go.Proofs.Try.f6 [1, 1, 1, 1, 1, 1, 1, 1, 1, 1, 1, 0, 1, 0, 0, 1, 0, 0])) []]) t112 (by kernel_rfl)) (fun _ hs => ((hM.rd 0 rfl).still hs (by simp))) hS ?_
                                              rcases two (decide (x22_2.size + (strOf t112).size ≤ 1000000000)) with c117 | c117
                                              · replace h := of_true h c117
                                                refine RunAny.y 14 (by kernel_rfl) (cat_y (d := some 156) (a := x22_2) (b := strOf t112) (k2 := [.inRegion (opsOf (pl Go.Proofs.Try.f6 [1, 1, 1, 1, 1, 1, 1, 1, 1, 1, 1, 0, 1, 0, 0, 1, 0, 0])) []]) (by kernel_rfl) (of_decide_eq_true c117)) (fun _ _ => trivial) hS ?_
                                                refine RunAny.y 15 (by kernel_rfl) (yl_pure (d := some 22) (v := .string (x22_2 ++ (strOf t112))) (k2 := [.inRegion (opsOf (pl Go.Proofs.Try.f6 [1, 1, 1, 1, 1, 1, 1, 1, 1, 1, 1, 0, 1, 0, 0, 1, 0, 0])) []]) fun w => by kernel_rfl) (fun _ _ => trivial) hS ?_
                                                refine RunAny.done (by kernel_rfl) ?_
                                                clear hS
                                                refine RunF.go 7 [9, 13, 20, 22, 23] (k' := (pl Go.Proofs.Try.f6 [1, 1, 1, 1, 1, 1, 1, 1, 1, 1, 1, 0, 1, 0, 0])) (L' := [(9, .slice A20 t19.1.length c22), (13, .pointer (some ⟨g42, 0, none⟩)), (20, .slice A98 t97.1.length c100), (22, .string (x22_2 ++ (strOf t112))), (23, .int .i64 (I64 (x23_2 + 1)))]) (w' := W111) (by kernel_rfl) ?_
                                                exact ih2 k (by omega) (x22_2 ++ (strOf t112)) (I64 (x23_2 + 1)) _ (Mem.pickF (hM.as (H' := Gs [⟨.slice A113 t112.length c115, 5, 1, nums .u8 t112⟩, ⟨.slice A20 t19.1.length c22, 37, 1, nums .u32 t19.1⟩, ⟨.pointer (some ⟨g42, 0, none⟩), 44, 0, nums .u32 x13_1⟩, ⟨.slice A98 t97.1.length c100, 5, 1, nums .u8 t97.1⟩] [Ft11_0]) rfl) [1, 2, 3, 4] rfl rfl rfl) h
                                              · replace h := of_false h c117
                                                cases h
                                            · replace h := of_false h c110
                                              cases h
                                          · replace h := of_false h c109
                                            cases h
                                        · replace h := of_false h c107
                                          cases h
                                      · replace h := of_false h c106
                                        cases h
                                    · replace h := of_false h c102
                                      refine RunF.know 139 (b := false) (by kernel_rfl) c102 ?_
                                      refine RunF.go 5 [22, 157] (k' := (pin Go.Proofs.Try.f6 [1, 1, 1, 1, 1, 1, 1, 1, 1, 1, 1, 1, 0] 1)) (L' := [(22, .string x22_2), (157, .slice A98 t97.1.length c100)]) (w' := W) (by kernel_rfl) ?_
                                      refine RunF.y (str_y (d := some 158) (A := A98) (m := t97.1.length) (c := c100) (k2 := (pin Go.Proofs.Try.f6 [1, 1, 1, 1, 1, 1, 1, 1, 1, 1, 1, 1, 0] 2)) t97.1 (by kernel_rfl)) (hM.rd 2 rfl) ?_
                                      refine RunF.go 4 [6] (k' := (pl Go.Proofs.Try.f6 [1, 1, 1, 1, 1, 1, 1, 1, 1, 1, 1, 1, 1])) (L' := [(6, .bool ((strOf t97.1).toList == x22_2.toList))]) (w' := W) (by kernel_rfl) ?_
                                      obtain rfl := Option.some.inj h
                                      exact RunF.ret1 6 (.bool ((strOf t97.1).toList == x22_2.toList)) (fn := Go.Proofs.Try.f6) Go.Proofs.Try.func6 (by kernel_rfl) (by kernel_rfl) (by kernel_rfl) ⟨_, rfl, rfl, (Mem.pickF (hM.as (H' := Gs [⟨.slice A20 t19.1.length c22, 37, 1, nums .u32 t19.1⟩, ⟨.pointer (some ⟨g42, 0, none⟩), 44, 0, nums .u32 x13_1⟩, ⟨.slice A98 t97.1.length c100, 5, 1, nums .u8 t97.1⟩] [Ft11_0]) rfl) [] rfl rfl rfl).ungrp⟩
                              exact l2 k (Nat.le_refl _) (⟨#[]⟩ : ByteArray) 0 _ (Mem.pickF (hM.as (H' := Gs [⟨.slice A98 t97.1.length c100, 5, 1, nums .u8 t97.1⟩, ⟨.slice A20 t19.1.length c22, 37, 1, nums .u32 t19.1⟩, ⟨.slice A23 t19.2.1.length c25, 37, 1, nums .u32 t19.2.1⟩, ⟨.slice A38 t37.length c40, 5, 1, nums .u8 t37⟩, ⟨.pointer (some ⟨g42, 0, none⟩), 44, 0, nums .u32 x13_1⟩] [Ft11_0]) rfl) [1, 4, 0, 5] rfl rfl rfl) h
                      exact l1 k (Nat.le_refl _) x13_0 0 _ (Mem.pickF (hM.as (H' := Gs [⟨.slice A20 t19.1.length c22, 37, 1, nums .u32 t19.1⟩, ⟨.slice A23 t19.2.1.length c25, 37, 1, nums .u32 t19.2.1⟩, ⟨.slice A38 t37.length c40, 5, 1, nums .u8 t37⟩, ⟨.pointer (some ⟨g42, 0, none⟩), 44, 0, nums .u32 x13_0⟩] [Ft11_0]) rfl) [0, 1, 2, 3, 4] rfl rfl rfl) hlx13_0 h
              exact l0 k (Nat.le_refl _) (List.replicate 4 (0 : Int)) 0 _ (Mem.pickF (hM.as (H' := Gs [⟨.pointer (some ⟨g42, 0, none⟩), 44, 0, nums .u32 (List.replicate 4 (0 : Int))⟩, ⟨.slice A38 t37.length c40, 5, 1, nums .u8 t37⟩, ⟨.slice A20 t19.1.length c22, 37, 1, nums .u32 t19.1⟩, ⟨.slice A23 t19.2.1.length c25, 37, 1, nums .u32 t19.2.1⟩, ⟨.slice A14 t13.length c16, 5, 1, nums .u8 t13⟩, ⟨.slice A6 t5.length c8, 5, 1, nums .u8 t5⟩] [Ft11_0]) rfl) [2, 3, 1, 0, 6] rfl rfl rfl) List.length_replicate h
        · replace h := of_false h c30
          obtain rfl := rOpt.none hRt11_0 c30
          refine RunF.go 18 [6] (k' := (pl Go.Proofs.Try.f6 [1, 1, 1, 1, 0, 1, 0, 1])) (L' := [(6, .bool false)]) (w' := W18) (by kernel_rfl) ?_
          obtain rfl := Option.some.inj h
          exact RunF.ret1 6 (.bool false) (fn := Go.Proofs.Try.f6) Go.Proofs.Try.func6 (by kernel_rfl) (by kernel_rfl) (by kernel_rfl) ⟨_, rfl, rfl, (Mem.pickF (hM.as (H' := Gs [⟨.slice A20 t19.1.length c22, 37, 1, nums .u32 t19.1⟩, ⟨.slice A23 t19.2.1.length c25, 37, 1, nums .u32 t19.2.1⟩, ⟨.slice A14 t13.length c16, 5, 1, nums .u8 t13⟩, ⟨.slice A6 t5.length c8, 5, 1, nums .u8 t5⟩] [Ft11_0]) rfl) [] rfl rfl rfl).ungrp⟩


end Go.Scr.S
