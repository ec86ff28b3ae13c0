/- The functions that the law SmallApart reaches, as plain functions, and that each call answers so. -/
import Derived.Test.YtahfhogifkkoeaaProg
import Derived.Test.YtahfhogifkkoeaaFnSmallApart0
set_option linter.unusedVariables false
set_option linter.unusedSimpArgs false
set_option linter.unnecessarySimpa false
namespace Go.Scr.S
open Go.RowKit (Below)
/-! ### slices.Concat[[]byte,byte]: function 51 -/
mutual
def slices_Concat_byte_byte.l0 : Nat → (List (List Int)) → Int → Int → Option (List Int)
  | 0, _, _, _ => none
  | k + 1, a0, x3_0, x11_0 => if (decide (x11_0 < (a0.length : Int))) = true then (if (decide (0 ≤ x11_0)) = true then (if (decide (x11_0 < (a0.length : Int))) = true then ((some (I64 (x3_0 + ((rdr ([] : List Int) a0 x11_0).length : Int)) : Int)).bind fun y5 => (if (decide (y5 < 0)) = true then (none) else (slices_Concat_byte_byte.l0 k a0 y5 (I64 (x11_0 + 1))))) else (none)) else (none)) else ((slices_Grow_byte_byte.f k x3_0).bind fun t8 => (slices_Concat_byte_byte.l1 k a0 t8 0))
def slices_Concat_byte_byte.l1 : Nat → (List (List Int)) → (List Int) → Int → Option (List Int)
  | 0, _, _, _ => none
  | k + 1, a0, x6_1, x27_1 => if (decide (x27_1 < (a0.length : Int))) = true then (if (decide (0 ≤ x27_1)) = true then (if (decide (x27_1 < (a0.length : Int))) = true then (if (decide (x6_1.length + (rdr ([] : List Int) a0 x27_1).length ≤ 1000000000)) = true then (slices_Concat_byte_byte.l1 k a0 (x6_1 ++ (rdr ([] : List Int) a0 x27_1)) (I64 (x27_1 + 1))) else (none)) else (none)) else (none)) else (some x6_1)
end
def slices_Concat_byte_byte.f (k : Nat) (a0 : List (List Int)) : Option (List Int) := slices_Concat_byte_byte.l0 k a0 0 0
set_option maxRecDepth 100000 in
theorem slices_Concat_byte_byte.calls (k : Nat) (vp0 : Value) (Zp0 : Zp) (a0 : List (List Int)) (r : List Int) (w : World) (hp0 : (rRows (rNums .u8)) Zp0 vp0 a0) (hZp0 : ∀ W, Kept w W → Zp0 W) (h : slices_Concat_byte_byte.f k a0 = some r) :
    Calls Go.Proofs.Try.prog 51 #[vp0] w (Ret fun v w' => ∃ A0' n0' c0', v = .slice A0' n0' c0' ∧ Mem w w' [⟨.slice A0' n0' c0', 5, 1, nums .u8 r⟩]) := by
  obtain ⟨Ap0, cp0, cs0, rfl, hr0, hq0⟩ := hp0
  unfold slices_Concat_byte_byte.f at h
  refine calls_of [.slice Ap0 a0.length cp0] (fn := Go.Proofs.Try.f51) Go.Proofs.Try.func51 (by kernel_rfl) (by kernel_rfl) ?_
  have hM := Mem.refl w
  refine RunF.go 17 [0, 3, 9, 10, 11] (k' := (pl Go.Proofs.Try.f51 [1, 1, 0, 1, 0, 0])) (L' := [(0, .slice Ap0 a0.length cp0), (3, .int .i64 0), (9, .slice Ap0 a0.length cp0), (10, .int .i64 (a0.length : Int)), (11, .int .i64 0)]) (w' := w) (by kernel_rfl) ?_
  have l0 : ∀ (k_ : Nat), k_ ≤ k → ∀ (x3_0 : Int) (x11_0 : Int) (W : World) (hM : Mem w W []) (h : slices_Concat_byte_byte.l0 k_ a0 x3_0 x11_0 = some r), RunF Go.Proofs.Try.prog (Ret fun v w' => ∃ A0' n0' c0', v = .slice A0' n0' c0' ∧ Mem w w' [⟨.slice A0' n0' c0', 5, 1, nums .u8 r⟩]) 51 (pl Go.Proofs.Try.f51 [1, 1, 0, 1, 0, 0]) 36 [(0, .slice Ap0 a0.length cp0), (3, .int .i64 x3_0), (9, .slice Ap0 a0.length cp0), (10, .int .i64 (a0.length : Int)), (11, .int .i64 x11_0)] W := by
    intro k_
    induction k_ using Nat.strongRecOn with
    | _ k_ ih0 =>
      intro hk x3_0 x11_0 W hM h
      cases k_ with
      | zero => exact absurd h (by simp [slices_Concat_byte_byte.l0])
      | succ k =>
        simp only [slices_Concat_byte_byte.l0] at h
        replace ih0 : ∀ m, m ≤ k → _ := fun m hm => ih0 m (by omega) (by omega)
        refine RunF.go 5 [0, 3, 9, 10, 11, 12] (k' := (pl Go.Proofs.Try.f51 [1, 1, 0, 1, 0, 0, 1, 0])) (L' := [(0, .slice Ap0 a0.length cp0), (3, .int .i64 x3_0), (9, .slice Ap0 a0.length cp0), (10, .int .i64 (a0.length : Int)), (11, .int .i64 x11_0), (12, .bool (decide (x11_0 < (a0.length : Int))))]) (w' := W) (by kernel_rfl) ?_
        rcases two (decide (x11_0 < (a0.length : Int))) with c1 | c1
        · replace h := of_true h c1
          refine RunF.know 12 (b := true) (by kernel_rfl) c1 ?_
          refine RunF.go 6 [0, 3, 9, 10, 11] (k' := (pin Go.Proofs.Try.f51 [1, 1, 0, 1, 0, 0, 1, 1, 0, 0, 0] 0)) (L' := [(0, .slice Ap0 a0.length cp0), (3, .int .i64 x3_0), (9, .slice Ap0 a0.length cp0), (10, .int .i64 (a0.length : Int)), (11, .int .i64 x11_0)]) (w' := W) (by kernel_rfl) ?_
          rcases two (decide (0 ≤ x11_0)) with c3 | c3
          · replace h := of_true h c3
            rcases two (decide (x11_0 < (a0.length : Int))) with c4 | c4
            · replace h := of_true h c4
              obtain ⟨uq2, huq2, hvq2⟩ := Each2.at hq0 ([] : List Int) (i := x11_0) (of_decide_eq_true c3) (by have h_ : x11_0 < (a0.length : Int) := (of_decide_eq_true c4); first | exact h_ | (simpa using h_))
              obtain ⟨Aq2, cq2, rfl, hq2⟩ := hvq2
              obtain ⟨q2, hAq2, hcq2⟩ := RdF.elem hr0 (hZp0 _ hM.kept) huq2
              refine RunF.y (idx_y (d := some 13) (A := Ap0) (m := a0.length) (i := x11_0) (k2 := (pin Go.Proofs.Try.f51 [1, 1, 0, 1, 0, 0, 1, 1, 0, 0, 0] 1)) (by kernel_rfl) (of_decide_eq_true c3) (of_decide_eq_true c4) hAq2) trivial ?_
              refine RunF.y (ld_y (d := some 14) (p := (q2.add (x11_0 : Int).toNat)) (k2 := (pin Go.Proofs.Try.f51 [1, 1, 0, 1, 0, 0, 1, 1, 0, 0, 0] 2)) (.slice Aq2 ((rdr ([] : List Int) a0 x11_0).length) cq2) (by kernel_rfl)) hcq2 ?_
              refine RunF.go 15 [0, 3, 9, 10, 11, 20] (k' := (pl Go.Proofs.Try.f51 [1, 1, 0, 1, 0, 0, 1, 1, 0, 0, 1, 1, 1])) (L' := [(0, .slice Ap0 a0.length cp0), (3, .int .i64 (I64 (x3_0 + ((rdr ([] : List Int) a0 x11_0).length : Int)))), (9, .slice Ap0 a0.length cp0), (10, .int .i64 (a0.length : Int)), (11, .int .i64 x11_0), (20, .bool (decide ((I64 (x3_0 + ((rdr ([] : List Int) a0 x11_0).length : Int))) < 0)))]) (w' := W) (by kernel_rfl) ?_
              obtain ⟨y5, hy, h⟩ := Option.bind_eq_some_iff.mp h
              rw [show (I64 (x3_0 + ((rdr ([] : List Int) a0 x11_0).length : Int))) = y5 from Option.some.inj hy]
              clear hy
              rcases two (decide (y5 < 0)) with c6 | c6
              · replace h := of_true h c6
                refine RunF.know 20 (b := true) (by kernel_rfl) c6 ?_
                refine RunF.go 2 [0, 3, 9, 10, 11] (k' := (pin Go.Proofs.Try.f51 [1, 1, 0, 1, 0, 0, 1, 1, 0, 0, 1, 1, 1, 0] 0)) (L' := [(0, .slice Ap0 a0.length cp0), (3, .int .i64 y5), (9, .slice Ap0 a0.length cp0), (10, .int .i64 (a0.length : Int)), (11, .int .i64 x11_0)]) (w' := W) (by kernel_rfl) ?_
                cases h
              · replace h := of_false h c6
                refine RunF.know 20 (b := false) (by kernel_rfl) c6 ?_
                refine RunF.go 8 [0, 3, 9, 10, 11] (k' := (pl Go.Proofs.Try.f51 [1, 1, 0, 1, 0, 0])) (L' := [(0, .slice Ap0 a0.length cp0), (3, .int .i64 y5), (9, .slice Ap0 a0.length cp0), (10, .int .i64 (a0.length : Int)), (11, .int .i64 (I64 (x11_0 + 1)))]) (w' := W) (by kernel_rfl) ?_
                exact ih0 k (by omega) y5 (I64 (x11_0 + 1)) _ (hM.pick [] rfl rfl) h
            · replace h := of_false h c4
              cases h
          · replace h := of_false h c3
            cases h
        · replace h := of_false h c1
          refine RunF.know 12 (b := false) (by kernel_rfl) c1 ?_
          refine RunF.go 5 [0, 23] (k' := (pin Go.Proofs.Try.f51 [1, 1, 1, 0] 1)) (L' := [(0, .slice Ap0 a0.length cp0), (23, .int .i64 x3_0)]) (w' := W) (by kernel_rfl) ?_
          obtain ⟨t8, ht8, h⟩ := Option.bind_eq_some_iff.mp h
          refine RunF.call (d := some 24) (g := 61) (args := #[.slice none 0 0, .int .i64 x3_0]) (k2 := (pin Go.Proofs.Try.f51 [1, 1, 1, 0] 2)) (by kernel_rfl) (slices_Grow_byte_byte.calls k x3_0 t8 _ ht8) ?_
          rintro _ W7 ⟨A9, n10, c11, rfl, hM_⟩
          obtain rfl : t8.length = n10 := by have h_ := (hM_.rd 0 rfl).1; simpa [nums_length, bools_length, strs_length] using h_
          replace hM := hM.call hM_
          clear hM_ ht8
          refine RunF.go 11 [6, 25, 26, 27] (k' := (pl Go.Proofs.Try.f51 [1, 1, 1, 1, 0, 1, 0, 0])) (L' := [(6, .slice A9 t8.length c11), (25, .slice Ap0 a0.length cp0), (26, .int .i64 (a0.length : Int)), (27, .int .i64 0)]) (w' := W7) (by kernel_rfl) ?_
          have l1 : ∀ (k_ : Nat), k_ ≤ k → ∀ (A6_1 : Option Addr) (c6_1 : Nat) (x6_1 : List Int) (x27_1 : Int) (W : World) (hM : Mem w W [⟨.slice A6_1 x6_1.length c6_1, 5, 1, nums .u8 x6_1⟩]) (h : slices_Concat_byte_byte.l1 k_ a0 x6_1 x27_1 = some r), RunF Go.Proofs.Try.prog (Ret fun v w' => ∃ A0' n0' c0', v = .slice A0' n0' c0' ∧ Mem w w' [⟨.slice A0' n0' c0', 5, 1, nums .u8 r⟩]) 51 (pl Go.Proofs.Try.f51 [1, 1, 1, 1, 0, 1, 0, 0]) 36 [(6, .slice A6_1 x6_1.length c6_1), (25, .slice Ap0 a0.length cp0), (26, .int .i64 (a0.length : Int)), (27, .int .i64 x27_1)] W := by
            intro k_
            induction k_ using Nat.strongRecOn with
            | _ k_ ih1 =>
              intro hk A6_1 c6_1 x6_1 x27_1 W hM h
              cases k_ with
              | zero => exact absurd h (by simp [slices_Concat_byte_byte.l1])
              | succ k =>
                simp only [slices_Concat_byte_byte.l1] at h
                replace ih1 : ∀ m, m ≤ k → _ := fun m hm => ih1 m (by omega) (by omega)
                replace ih0 : ∀ m, m ≤ k → _ := fun m hm => ih0 m (by omega)
                refine RunF.go 5 [6, 25, 26, 27, 28] (k' := (pl Go.Proofs.Try.f51 [1, 1, 1, 1, 0, 1, 0, 0, 1, 0])) (L' := [(6, .slice A6_1 x6_1.length c6_1), (25, .slice Ap0 a0.length cp0), (26, .int .i64 (a0.length : Int)), (27, .int .i64 x27_1), (28, .bool (decide (x27_1 < (a0.length : Int))))]) (w' := W) (by kernel_rfl) ?_
                rcases two (decide (x27_1 < (a0.length : Int))) with c14 | c14
                · replace h := of_true h c14
                  refine RunF.know 28 (b := true) (by kernel_rfl) c14 ?_
                  refine RunF.go 6 [6, 25, 26, 27] (k' := (pin Go.Proofs.Try.f51 [1, 1, 1, 1, 0, 1, 0, 0, 1, 1, 0, 0, 0] 0)) (L' := [(6, .slice A6_1 x6_1.length c6_1), (25, .slice Ap0 a0.length cp0), (26, .int .i64 (a0.length : Int)), (27, .int .i64 x27_1)]) (w' := W) (by kernel_rfl) ?_
                  rcases two (decide (0 ≤ x27_1)) with c16 | c16
                  · replace h := of_true h c16
                    rcases two (decide (x27_1 < (a0.length : Int))) with c17 | c17
                    · replace h := of_true h c17
                      obtain ⟨uq15, huq15, hvq15⟩ := Each2.at hq0 ([] : List Int) (i := x27_1) (of_decide_eq_true c16) (by have h_ : x27_1 < (a0.length : Int) := (of_decide_eq_true c17); first | exact h_ | (simpa using h_))
                      obtain ⟨Aq15, cq15, rfl, hq15⟩ := hvq15
                      obtain ⟨q15, hAq15, hcq15⟩ := RdF.elem hr0 (hZp0 _ hM.kept) huq15
                      refine RunF.y (idx_y (d := some 29) (A := Ap0) (m := a0.length) (i := x27_1) (k2 := (pin Go.Proofs.Try.f51 [1, 1, 1, 1, 0, 1, 0, 0, 1, 1, 0, 0, 0] 1)) (by kernel_rfl) (of_decide_eq_true c16) (of_decide_eq_true c17) hAq15) trivial ?_
                      refine RunF.y (ld_y (d := some 30) (p := (q15.add (x27_1 : Int).toNat)) (k2 := (pin Go.Proofs.Try.f51 [1, 1, 1, 1, 0, 1, 0, 0, 1, 1, 0, 0, 0] 2)) (.slice Aq15 ((rdr ([] : List Int) a0 x27_1).length) cq15) (by kernel_rfl)) hcq15 ?_
                      refine RunF.go 5 [25, 26, 27, 31, 32] (k' := (pin Go.Proofs.Try.f51 [1, 1, 1, 1, 0, 1, 0, 0, 1, 1, 0, 0, 1] 2)) (L' := [(25, .slice Ap0 a0.length cp0), (26, .int .i64 (a0.length : Int)), (27, .int .i64 x27_1), (31, .slice A6_1 x6_1.length c6_1), (32, .slice Aq15 ((rdr ([] : List Int) a0 x27_1).length) cq15)]) (w' := W) (by kernel_rfl) ?_
                      rcases two (decide (x6_1.length + (rdr ([] : List Int) a0 x27_1).length ≤ 1000000000)) with c22 | c22
                      · replace h := of_true h c22
                        have h_ := of_decide_eq_true c22
                        obtain ⟨A18, n19, c20, W21, hD, hM', hS_⟩ := app_does (P := Go.Proofs.Try.prog) (n := 36) (k := (pin Go.Proofs.Try.f51 [1, 1, 1, 1, 0, 1, 0, 0, 1, 1, 0, 0, 1] 2)) (L := [(25, .slice Ap0 a0.length cp0), (26, .int .i64 (a0.length : Int)), (27, .int .i64 x27_1), (31, .slice A6_1 x6_1.length c6_1), (32, .slice Aq15 ((rdr ([] : List Int) a0 x27_1).length) cq15)]) (d := some 33) (e := 5) (A := A6_1) (m := x6_1.length) (c := c6_1) (A2 := Aq15) (m2 := (rdr ([] : List Int) a0 x27_1).length) (c2 := cq15) (cs := nums .u8 x6_1) (ys := nums .u8 (rdr ([] : List Int) a0 x27_1)) (k2 := (pin Go.Proofs.Try.f51 [1, 1, 1, 1, 0, 1, 0, 0, 1, 1, 0, 0, 1] 3)) [] [] (by kernel_rfl) (hM.pick [0] rfl rfl) (hq15 _ (hZp0 _ hM.kept)) (one_nums _ _) (by omega)
                        rw [nums_append] at hM'
                        replace hM := hM'; clear h_ hM'
                        obtain rfl : (x6_1 ++ (rdr ([] : List Int) a0 x27_1)).length = n19 := by have h_ := (hM.rd 0 rfl).1; simpa only [nums_length, bools_length, strs_length] using h_
                        refine RunF.does hD ?_
                        clear hD hS_
                        refine RunF.go 8 [6, 25, 26, 27] (k' := (pl Go.Proofs.Try.f51 [1, 1, 1, 1, 0, 1, 0, 0])) (L' := [(6, .slice A18 ((x6_1 ++ (rdr ([] : List Int) a0 x27_1)).length) c20), (25, .slice Ap0 a0.length cp0), (26, .int .i64 (a0.length : Int)), (27, .int .i64 (I64 (x27_1 + 1)))]) (w' := W21) (by kernel_rfl) ?_
                        exact ih1 k (by omega) A18 c20 (x6_1 ++ (rdr ([] : List Int) a0 x27_1)) (I64 (x27_1 + 1)) _ (hM.pick [0] rfl rfl) h
                      · replace h := of_false h c22
                        cases h
                    · replace h := of_false h c17
                      cases h
                  · replace h := of_false h c16
                    cases h
                · replace h := of_false h c14
                  refine RunF.know 28 (b := false) (by kernel_rfl) c14 ?_
                  refine RunF.go 7 [2] (k' := (pl Go.Proofs.Try.f51 [1, 1, 1, 1, 1, 1])) (L' := [(2, .slice A6_1 x6_1.length c6_1)]) (w' := W) (by kernel_rfl) ?_
                  obtain rfl := Option.some.inj h
                  exact RunF.ret1 2 (.slice A6_1 x6_1.length c6_1) (fn := Go.Proofs.Try.f51) Go.Proofs.Try.func51 (by kernel_rfl) (by kernel_rfl) (by kernel_rfl) ⟨_, rfl, A6_1, x6_1.length, c6_1, rfl, (hM.pick [0] rfl rfl)⟩
          exact l1 k (Nat.le_refl _) A9 c11 t8 0 _ (hM.pick [0] rfl rfl) h
  exact l0 k (Nat.le_refl _) 0 0 _ (hM.pick [] rfl rfl) h

/-! ### scrim/words.store: function 62 -/
def words_store.l0 : Nat → Int → Int → (List Int) → Int → Option (List Int)
  | 0, _, _, _, _ => none
  | k + 1, a1, x0_0, x5_0, x6_0 => if (decide (x6_0 > 0)) = true then (if (decide (0 ≤ (I64 (x6_0 - 1)))) = true then (if (decide ((I64 (x6_0 - 1)) < ((a1 : Int).toNat : Int))) = true then (words_store.l0 k a1 (shr x0_0 8) (x5_0.set (I64 (x6_0 - 1) : Int).toNat (U8 (x0_0))) (I64 (x6_0 - 1))) else (none)) else (none)) else (some x5_0)
def words_store.f (k : Nat) (a0 : Int) (a1 : Int) : Option (List Int) := if (decide (0 ≤ a1)) = true then (if (decide (a1 ≤ 1000000000)) = true then (words_store.l0 k a1 a0 (List.replicate ((a1 : Int).toNat) (0 : Int)) a1) else (none)) else (none)
set_option maxRecDepth 100000 in
theorem words_store.calls (k : Nat) (a0 : Int) (a1 : Int) (r : List Int) (w : World) (h : words_store.f k a0 a1 = some r) :
    Calls Go.Proofs.Try.prog 62 #[.int .u64 a0, .int .i64 a1] w (Ret fun v w' => ∃ A0' n0' c0', v = .slice A0' n0' c0' ∧ Mem w w' [⟨.slice A0' n0' c0', 5, 1, nums .u8 r⟩]) := by
  unfold words_store.f at h
  refine calls_of [.int .u64 a0, .int .i64 a1] (fn := Go.Proofs.Try.f62) Go.Proofs.Try.func62 (by kernel_rfl) (by kernel_rfl) ?_
  have hM := Mem.refl w
  refine RunF.go 8 [0, 1, 7] (k' := (pin Go.Proofs.Try.f62 [1, 0, 0] 1)) (L' := [(0, .int .u64 a0), (1, .int .i64 a1), (7, .int .i64 a1)]) (w' := w) (by kernel_rfl) ?_
  rcases two (decide (0 ≤ a1)) with c3 | c3
  · replace h := of_true h c3
    rcases two (decide (a1 ≤ 1000000000)) with c4 | c4
    · replace h := of_true h c4
      have := of_decide_eq_true c3
      have := of_decide_eq_true c4
      obtain ⟨W1, hD, hM', hB_⟩ := mk_does (P := Go.Proofs.Try.prog) (n := 22) (k := (pin Go.Proofs.Try.f62 [1, 0, 0] 1)) (L := [(0, .int .u64 a0), (1, .int .i64 a1), (7, .int .i64 a1)]) (d := some 8) (e := 5) (z := .int .u8 0) (l := a1) (c := a1) (k2 := (pin Go.Proofs.Try.f62 [1, 0, 0] 2)) (by kernel_rfl) (by omega) (by omega) (by omega) hM
      rw [rep_nums] at hM'
      refine RunF.does hD ?_
      replace hM := hM'; clear hD hM'
      generalize w.heap.size = g2 at hM ⊢
      refine RunF.go 9 [0, 5, 6] (k' := (pl Go.Proofs.Try.f62 [1, 0, 1, 1, 1])) (L' := [(0, .int .u64 a0), (5, .slice (some ⟨g2, 0, none⟩) ((a1 : Int).toNat) ((a1 : Int).toNat)), (6, .int .i64 a1)]) (w' := W1) (by kernel_rfl) ?_
      have l0 : ∀ (k_ : Nat), k_ ≤ k → ∀ (x0_0 : Int) (x5_0 : List Int) (x6_0 : Int) (W : World) (hM : Mem w W [⟨.slice (some ⟨g2, 0, none⟩) ((a1 : Int).toNat) ((a1 : Int).toNat), 5, 1, nums .u8 x5_0⟩]) (h : words_store.l0 k_ a1 x0_0 x5_0 x6_0 = some r), RunF Go.Proofs.Try.prog (Ret fun v w' => ∃ A0' n0' c0', v = .slice A0' n0' c0' ∧ Mem w w' [⟨.slice A0' n0' c0', 5, 1, nums .u8 r⟩]) 62 (pl Go.Proofs.Try.f62 [1, 0, 1, 1, 1]) 22 [(0, .int .u64 x0_0), (5, .slice (some ⟨g2, 0, none⟩) ((a1 : Int).toNat) ((a1 : Int).toNat)), (6, .int .i64 x6_0)] W := by
        intro k_
        induction k_ using Nat.strongRecOn with
        | _ k_ ih0 =>
          intro hk x0_0 x5_0 x6_0 W hM h
          cases k_ with
          | zero => exact absurd h (by simp [words_store.l0])
          | succ k =>
            simp only [words_store.l0] at h
            replace ih0 : ∀ m, m ≤ k → _ := fun m hm => ih0 m (by omega) (by omega)
            refine RunF.go 6 [0, 5, 6, 11] (k' := (pl Go.Proofs.Try.f62 [1, 0, 1, 1, 1, 0, 1])) (L' := [(0, .int .u64 x0_0), (5, .slice (some ⟨g2, 0, none⟩) ((a1 : Int).toNat) ((a1 : Int).toNat)), (6, .int .i64 x6_0), (11, .bool (decide (x6_0 > 0)))]) (w' := W) (by kernel_rfl) ?_
            rcases two (decide (x6_0 > 0)) with c6 | c6
            · replace h := of_true h c6
              refine RunF.know 11 (b := true) (by kernel_rfl) c6 ?_
              refine RunF.go 13 [0, 5, 6, 14, 15, 17] (k' := (pin Go.Proofs.Try.f62 [1, 0, 1, 1, 1, 0, 1, 0, 1, 0] 4)) (L' := [(0, .int .u64 x0_0), (5, .slice (some ⟨g2, 0, none⟩) ((a1 : Int).toNat) ((a1 : Int).toNat)), (6, .int .i64 (I64 (x6_0 - 1))), (14, .slice (some ⟨g2, 0, none⟩) ((a1 : Int).toNat) ((a1 : Int).toNat)), (15, .int .i64 (I64 (x6_0 - 1))), (17, .int .u8 (U8 (x0_0)))]) (w' := W) (by kernel_rfl) ?_
              rcases two (decide (0 ≤ (I64 (x6_0 - 1)))) with c8 | c8
              · replace h := of_true h c8
                rcases two (decide ((I64 (x6_0 - 1)) < ((a1 : Int).toNat : Int))) with c9 | c9
                · replace h := of_true h c9
                  obtain ⟨q7, hAq7, hcq7, hfq7, hlq7⟩ := hM.num_at 0 rfl (i := I64 (x6_0 - 1)) (of_decide_eq_true c8) (by have h_ := of_decide_eq_true c9; omega)
                  refine RunF.y (idx_own (d := some 18) (A := (some ⟨g2, 0, none⟩)) (m := (a1 : Int).toNat) (i := I64 (x6_0 - 1)) (k2 := (pin Go.Proofs.Try.f62 [1, 0, 1, 1, 1, 0, 1, 0, 1, 0] 5)) (by kernel_rfl) (of_decide_eq_true c8) (by have h_ := of_decide_eq_true c9; omega) hAq7) trivial ?_
                  obtain ⟨g_, hA_, hc_, hf_, hl_⟩ := hM.num_at 0 rfl (i := I64 (x6_0 - 1)) (of_decide_eq_true c8) (by have h_ := of_decide_eq_true c9; omega)
                  obtain rfl : q7 = g_ := by rw [hAq7] at hA_; injection hA_ with hA_; injection hA_
                  refine RunF.doesU (st_u (p := (⟨q7, (I64 (x6_0 - 1) : Int).toNat, none⟩ : Addr)) (v := .int .u8 (U8 (x0_0))) (k2 := (pin Go.Proofs.Try.f62 [1, 0, 1, 1, 1, 0, 1, 0, 1, 0] 6)) (by kernel_rfl) hc_ hf_) ?_
                  replace hM : Mem w (W.setCell (⟨q7, (I64 (x6_0 - 1) : Int).toNat, none⟩ : Addr) (.int .u8 (U8 (x0_0)))) [⟨.slice (some ⟨g2, 0, none⟩) ((a1 : Int).toNat) ((a1 : Int).toNat), 5, 1, nums .u8 (x5_0.set (I64 (x6_0 - 1) : Int).toNat (U8 (x0_0)))⟩] := Mem.put_num [] [] (hM.pick [0] rfl rfl) hAq7 _ hl_ _
                  generalize W.setCell (⟨q7, (I64 (x6_0 - 1) : Int).toNat, none⟩ : Addr) (.int .u8 (U8 (x0_0))) = W10 at hM ⊢
                  clear hc_ hf_ hl_ hA_ hcq7
                  refine RunF.go 10 [0, 5, 6] (k' := (pl Go.Proofs.Try.f62 [1, 0, 1, 1, 1])) (L' := [(0, .int .u64 (shr x0_0 8)), (5, .slice (some ⟨g2, 0, none⟩) ((a1 : Int).toNat) ((a1 : Int).toNat)), (6, .int .i64 (I64 (x6_0 - 1)))]) (w' := W10) (by kernel_rfl) ?_
                  exact ih0 k (by omega) (shr x0_0 8) (x5_0.set (I64 (x6_0 - 1) : Int).toNat (U8 (x0_0))) (I64 (x6_0 - 1)) _ (hM.pick [0] rfl rfl) h
                · replace h := of_false h c9
                  cases h
              · replace h := of_false h c8
                cases h
            · replace h := of_false h c6
              refine RunF.know 11 (b := false) (by kernel_rfl) c6 ?_
              refine RunF.go 7 [4] (k' := (pl Go.Proofs.Try.f62 [1, 0, 1, 1, 1, 1, 1])) (L' := [(4, .slice (some ⟨g2, 0, none⟩) ((a1 : Int).toNat) ((a1 : Int).toNat))]) (w' := W) (by kernel_rfl) ?_
              obtain rfl := Option.some.inj h
              exact RunF.ret1 4 (.slice (some ⟨g2, 0, none⟩) ((a1 : Int).toNat) ((a1 : Int).toNat)) (fn := Go.Proofs.Try.f62) Go.Proofs.Try.func62 (by kernel_rfl) (by kernel_rfl) (by kernel_rfl) ⟨_, rfl, (some ⟨g2, 0, none⟩), (a1 : Int).toNat, (a1 : Int).toNat, rfl, (hM.pick [0] rfl rfl)⟩
      exact l0 k (Nat.le_refl _) a0 (List.replicate ((a1 : Int).toNat) (0 : Int)) a1 _ (hM.pick [0] rfl rfl) h
    · replace h := of_false h c4
      cases h
  · replace h := of_false h c3
    cases h

/-! ### scrim/words.PutBe32: function 53 -/
def words_PutBe32.f (k : Nat) (a0 : Int) : Option (List Int) := (words_store.f k (U64 (a0)) 4).bind fun t2 => (some t2)
set_option maxRecDepth 100000 in
theorem words_PutBe32.calls (k : Nat) (a0 : Int) (r : List Int) (w : World) (h : words_PutBe32.f k a0 = some r) :
    Calls Go.Proofs.Try.prog 53 #[.int .u32 a0] w (Ret fun v w' => ∃ A0' n0' c0', v = .slice A0' n0' c0' ∧ Mem w w' [⟨.slice A0' n0' c0', 5, 1, nums .u8 r⟩]) := by
  unfold words_PutBe32.f at h
  refine calls_of [.int .u32 a0] (fn := Go.Proofs.Try.f53) Go.Proofs.Try.func53 (by kernel_rfl) (by kernel_rfl) ?_
  have hM := Mem.refl w
  refine RunF.go 8 [4] (k' := (pin Go.Proofs.Try.f53 [1, 0] 2)) (L' := [(4, .int .u64 (U64 (a0)))]) (w' := w) (by kernel_rfl) ?_
  obtain ⟨t2, ht2, h⟩ := Option.bind_eq_some_iff.mp h
  refine RunF.call (d := some 5) (g := 62) (args := #[.int .u64 (U64 (a0)), .int .i64 4]) (k2 := (pin Go.Proofs.Try.f53 [1, 0] 3)) (by kernel_rfl) (words_store.calls k (U64 (a0)) 4 t2 _ ht2) ?_
  rintro _ W1 ⟨A3, n4, c5, rfl, hM_⟩
  obtain rfl : t2.length = n4 := by have h_ := (hM_.rd 0 rfl).1; simpa [nums_length, bools_length, strs_length] using h_
  replace hM := hM.call hM_
  clear hM_ ht2
  refine RunF.go 2 [2] (k' := (pl Go.Proofs.Try.f53 [1, 1])) (L' := [(2, .slice A3 t2.length c5)]) (w' := W1) (by kernel_rfl) ?_
  obtain rfl := Option.some.inj h
  exact RunF.ret1 2 (.slice A3 t2.length c5) (fn := Go.Proofs.Try.f53) Go.Proofs.Try.func53 (by kernel_rfl) (by kernel_rfl) (by kernel_rfl) ⟨_, rfl, A3, t2.length, c5, rfl, (hM.pick [0] rfl rfl)⟩

/-! ### scrim/words.PutLe32: function 52 -/
def words_PutLe32.f (k : Nat) (a0 : Int) : Option (List Int) := (words_PutBe32.f k a0).bind fun t2 => ((words_turned.f k t2).bind fun t8 => (some t8))
set_option maxRecDepth 100000 in
theorem words_PutLe32.calls (k : Nat) (a0 : Int) (r : List Int) (w : World) (h : words_PutLe32.f k a0 = some r) :
    Calls Go.Proofs.Try.prog 52 #[.int .u32 a0] w (Ret fun v w' => ∃ A0' n0' c0', v = .slice A0' n0' c0' ∧ Mem w w' [⟨.slice A0' n0' c0', 5, 1, nums .u8 r⟩]) := by
  unfold words_PutLe32.f at h
  refine calls_of [.int .u32 a0] (fn := Go.Proofs.Try.f52) Go.Proofs.Try.func52 (by kernel_rfl) (by kernel_rfl) ?_
  have hM := Mem.refl w
  refine RunF.go 7 [3] (k' := (pin Go.Proofs.Try.f52 [1, 0] 1)) (L' := [(3, .int .u32 a0)]) (w' := w) (by kernel_rfl) ?_
  obtain ⟨t2, ht2, h⟩ := Option.bind_eq_some_iff.mp h
  refine RunF.call (d := some 4) (g := 53) (args := #[.int .u32 a0]) (k2 := (pin Go.Proofs.Try.f52 [1, 0] 2)) (by kernel_rfl) (words_PutBe32.calls k a0 t2 _ ht2) ?_
  rintro _ W1 ⟨A3, n4, c5, rfl, hM_⟩
  obtain rfl : t2.length = n4 := by have h_ := (hM_.rd 0 rfl).1; simpa [nums_length, bools_length, strs_length] using h_
  replace hM := hM.call hM_
  clear hM_ ht2
  obtain ⟨t8, ht8, h⟩ := Option.bind_eq_some_iff.mp h
  refine RunF.call (d := some 5) (g := 59) (args := #[.slice A3 t2.length c5]) (k2 := (pin Go.Proofs.Try.f52 [1, 0] 3)) (by kernel_rfl) (words_turned.calls k A3 t2.length c5 t2 t8 _ (hM.rd 0 rfl) ht8) ?_
  rintro _ W7 ⟨A9, n10, c11, rfl, hM_⟩
  obtain rfl : t8.length = n10 := by have h_ := (hM_.rd 0 rfl).1; simpa [nums_length, bools_length, strs_length] using h_
  replace hM := hM.call hM_
  clear hM_ ht8
  refine RunF.go 2 [2] (k' := (pl Go.Proofs.Try.f52 [1, 1])) (L' := [(2, .slice A9 t8.length c11)]) (w' := W7) (by kernel_rfl) ?_
  obtain rfl := Option.some.inj h
  exact RunF.ret1 2 (.slice A9 t8.length c11) (fn := Go.Proofs.Try.f52) Go.Proofs.Try.func52 (by kernel_rfl) (by kernel_rfl) (by kernel_rfl) ⟨_, rfl, A9, t8.length, c11, rfl, (hM.pick [0] rfl rfl)⟩

/-! ### scrim/small.stored: function 33 -/
def small_stored.f (k : Nat) (a0 : Int) (a1 : Int) (a2 : Bool) : Option (List Int) := if a2 = true then ((words_PutLe32.f k a0).bind fun t3 => ((words_PutLe32.f k a1).bind fun t9 => ((slices_Concat_byte_byte.f k ([t3, t9] : List (List Int))).bind fun t22 => (some t22)))) else ((words_PutBe32.f k a0).bind fun t28 => ((words_PutBe32.f k a1).bind fun t34 => ((slices_Concat_byte_byte.f k ([t28, t34] : List (List Int))).bind fun t47 => (some t47))))
set_option maxRecDepth 100000 in
theorem small_stored.calls (k : Nat) (a0 : Int) (a1 : Int) (a2 : Bool) (r : List Int) (w : World) (h : small_stored.f k a0 a1 a2 = some r) :
    Calls Go.Proofs.Try.prog 33 #[.int .u32 a0, .int .u32 a1, .bool a2] w (Ret fun v w' => ∃ A0' n0' c0', v = .slice A0' n0' c0' ∧ Mem w w' [⟨.slice A0' n0' c0', 5, 1, nums .u8 r⟩]) := by
  unfold small_stored.f at h
  refine calls_of [.int .u32 a0, .int .u32 a1, .bool a2] (fn := Go.Proofs.Try.f33) Go.Proofs.Try.func33 (by kernel_rfl) (by kernel_rfl) ?_
  have hM := Mem.refl w
  refine RunF.go 9 [0, 1, 7] (k' := (pl Go.Proofs.Try.f33 [1, 0, 1])) (L' := [(0, .int .u32 a0), (1, .int .u32 a1), (7, .bool a2)]) (w' := w) (by kernel_rfl) ?_
  rcases two (a2) with c1 | c1
  · replace h := of_true h c1
    refine RunF.know 7 (b := true) (by kernel_rfl) c1 ?_
    refine RunF.go 4 [1, 8] (k' := (pin Go.Proofs.Try.f33 [1, 0, 1, 0, 0] 1)) (L' := [(1, .int .u32 a1), (8, .int .u32 a0)]) (w' := w) (by kernel_rfl) ?_
    obtain ⟨t3, ht3, h⟩ := Option.bind_eq_some_iff.mp h
    refine RunF.call (d := some 9) (g := 52) (args := #[.int .u32 a0]) (k2 := (pin Go.Proofs.Try.f33 [1, 0, 1, 0, 0] 2)) (by kernel_rfl) (words_PutLe32.calls k a0 t3 _ ht3) ?_
    rintro _ W2 ⟨A4, n5, c6, rfl, hM_⟩
    obtain rfl : t3.length = n5 := by have h_ := (hM_.rd 0 rfl).1; simpa [nums_length, bools_length, strs_length] using h_
    replace hM := hM.call hM_
    clear hM_ ht3
    refine RunF.go 1 [9, 10] (k' := (pin Go.Proofs.Try.f33 [1, 0, 1, 0, 0] 3)) (L' := [(9, .slice A4 t3.length c6), (10, .int .u32 a1)]) (w' := W2) (by kernel_rfl) ?_
    obtain ⟨t9, ht9, h⟩ := Option.bind_eq_some_iff.mp h
    refine RunF.call (d := some 11) (g := 52) (args := #[.int .u32 a1]) (k2 := (pin Go.Proofs.Try.f33 [1, 0, 1, 0, 0] 4)) (by kernel_rfl) (words_PutLe32.calls k a1 t9 _ ht9) ?_
    rintro _ W8 ⟨A10, n11, c12, rfl, hM_⟩
    obtain rfl : t9.length = n11 := by have h_ := (hM_.rd 0 rfl).1; simpa [nums_length, bools_length, strs_length] using h_
    replace hM := hM.call hM_
    clear hM_ ht9
    obtain ⟨Fq14, hfq14, hM⟩ := Mem.freezeS (H1 := [⟨.slice A10 t9.length c12, 5, 1, nums .u8 t9⟩]) (H2 := []) (Fs := []) (A := A4) (n := t3.length) (c := c6) (ty := 5) (cs := nums .u8 t3) (hM.as rfl)
    obtain ⟨Fq15, hfq15, hM⟩ := Mem.freezeS (H1 := []) (H2 := []) (Fs := [Fq14]) (A := A10) (n := t9.length) (c := c12) (ty := 5) (cs := nums .u8 t9) (hM.as rfl)
    have hqq16 : Each2 ((rNums .u8) (andZ (Oks Fq14) (Oks Fq15))) [.slice A4 t3.length c6, .slice A10 t9.length c12] ([t3, t9] : List (List Int)) := (.cons (rnums_of (RdF.up hfq14 (fun _ hz_ => hz_.1)) (And.intro (Mem.oks (hM.as (H' := Gs [] [Fq15, Fq14]) rfl) 1 rfl) (Mem.oks (hM.as (H' := Gs [] [Fq15, Fq14]) rfl) 0 rfl))) (.cons (rnums_of (RdF.up hfq15 (fun _ hz_ => hz_.2)) (And.intro (Mem.oks (hM.as (H' := Gs [] [Fq15, Fq14]) rfl) 1 rfl) (Mem.oks (hM.as (H' := Gs [] [Fq15, Fq14]) rfl) 0 rfl))) (Each2.nil _)))
    refine RunF.new 22 1 2 ([.slice A4 t3.length c6, .slice A10 t9.length c12]) (d := some 12) (k2 := (pin Go.Proofs.Try.f33 [1, 0, 1, 0, 0] 5)) hM (by rfl) (by kernel_rfl) (by kernel_rfl) ?_
    intro g17 W18 hM
    obtain ⟨Fq20, hfq20, hM⟩ := Mem.freezeS (H1 := []) (H2 := []) (Fs := [Fq15, Fq14]) (A := (some ⟨g17, 0, none⟩)) (n := 2) (c := 2) (ty := 22) (cs := [.slice A4 t3.length c6, .slice A10 t9.length c12]) (hM.as rfl)
    obtain ⟨t22, ht22, h⟩ := Option.bind_eq_some_iff.mp h
    refine RunF.call (d := some 13) (g := 51) (args := #[.slice (some ⟨g17, 0, none⟩) 2 2]) (k2 := (pin Go.Proofs.Try.f33 [1, 0, 1, 0, 0] 6)) (by kernel_rfl) (slices_Concat_byte_byte.calls k (.slice (some ⟨g17, 0, none⟩) 2 2) (andZ (Oks Fq20) (andZ (Oks Fq14) (Oks Fq15))) ([t3, t9] : List (List Int)) t22 _ ⟨_, _, _, rfl, (hfq20.up (fun _ hz_ => hz_.1)), (Each2.up (up_nums .u8) hqq16 (fun _ hz_ => (And.intro hz_.2.1 hz_.2.2)))⟩ (fun _ hb_ => (And.intro ((Mem.oks (hM.as (H' := Gs [] [Fq20, Fq15, Fq14]) rfl) 0 rfl).kept hb_) (And.intro ((Mem.oks (hM.as (H' := Gs [] [Fq20, Fq15, Fq14]) rfl) 2 rfl).kept hb_) ((Mem.oks (hM.as (H' := Gs [] [Fq20, Fq15, Fq14]) rfl) 1 rfl).kept hb_)))) ht22) ?_
    rintro _ W21 ⟨A23, n24, c25, rfl, hM_⟩
    obtain rfl : t22.length = n24 := by have h_ := (hM_.rd 0 rfl).1; simpa [nums_length, bools_length, strs_length] using h_
    replace hM : Mem w W21 (Gs [⟨.slice A23 t22.length c25, 5, 1, nums .u8 t22⟩] [Fq20, Fq15, Fq14]) := (Mem.callG (hM.as (H' := Gs [] [Fq20, Fq15, Fq14]) rfl) hM_.grp).as rfl
    clear hM_ ht22
    refine RunF.go 2 [6] (k' := (pl Go.Proofs.Try.f33 [1, 0, 1, 0, 1])) (L' := [(6, .slice A23 t22.length c25)]) (w' := W21) (by kernel_rfl) ?_
    obtain rfl := Option.some.inj h
    exact RunF.ret1 6 (.slice A23 t22.length c25) (fn := Go.Proofs.Try.f33) Go.Proofs.Try.func33 (by kernel_rfl) (by kernel_rfl) (by kernel_rfl) ⟨_, rfl, A23, t22.length, c25, rfl, (Mem.pickF (hM.as (H' := Gs [⟨.slice A23 t22.length c25, 5, 1, nums .u8 t22⟩] [Fq20, Fq15, Fq14]) rfl) [0] rfl rfl rfl).ungrp⟩
  · replace h := of_false h c1
    refine RunF.know 7 (b := false) (by kernel_rfl) c1 ?_
    refine RunF.go 5 [1, 14] (k' := (pin Go.Proofs.Try.f33 [1, 1, 0] 1)) (L' := [(1, .int .u32 a1), (14, .int .u32 a0)]) (w' := w) (by kernel_rfl) ?_
    obtain ⟨t28, ht28, h⟩ := Option.bind_eq_some_iff.mp h
    refine RunF.call (d := some 15) (g := 53) (args := #[.int .u32 a0]) (k2 := (pin Go.Proofs.Try.f33 [1, 1, 0] 2)) (by kernel_rfl) (words_PutBe32.calls k a0 t28 _ ht28) ?_
    rintro _ W27 ⟨A29, n30, c31, rfl, hM_⟩
    obtain rfl : t28.length = n30 := by have h_ := (hM_.rd 0 rfl).1; simpa [nums_length, bools_length, strs_length] using h_
    replace hM := hM.call hM_
    clear hM_ ht28
    refine RunF.go 1 [15, 16] (k' := (pin Go.Proofs.Try.f33 [1, 1, 0] 3)) (L' := [(15, .slice A29 t28.length c31), (16, .int .u32 a1)]) (w' := W27) (by kernel_rfl) ?_
    obtain ⟨t34, ht34, h⟩ := Option.bind_eq_some_iff.mp h
    refine RunF.call (d := some 17) (g := 53) (args := #[.int .u32 a1]) (k2 := (pin Go.Proofs.Try.f33 [1, 1, 0] 4)) (by kernel_rfl) (words_PutBe32.calls k a1 t34 _ ht34) ?_
    rintro _ W33 ⟨A35, n36, c37, rfl, hM_⟩
    obtain rfl : t34.length = n36 := by have h_ := (hM_.rd 0 rfl).1; simpa [nums_length, bools_length, strs_length] using h_
    replace hM := hM.call hM_
    clear hM_ ht34
    obtain ⟨Fq39, hfq39, hM⟩ := Mem.freezeS (H1 := [⟨.slice A35 t34.length c37, 5, 1, nums .u8 t34⟩]) (H2 := []) (Fs := []) (A := A29) (n := t28.length) (c := c31) (ty := 5) (cs := nums .u8 t28) (hM.as rfl)
    obtain ⟨Fq40, hfq40, hM⟩ := Mem.freezeS (H1 := []) (H2 := []) (Fs := [Fq39]) (A := A35) (n := t34.length) (c := c37) (ty := 5) (cs := nums .u8 t34) (hM.as rfl)
    have hqq41 : Each2 ((rNums .u8) (andZ (Oks Fq39) (Oks Fq40))) [.slice A29 t28.length c31, .slice A35 t34.length c37] ([t28, t34] : List (List Int)) := (.cons (rnums_of (RdF.up hfq39 (fun _ hz_ => hz_.1)) (And.intro (Mem.oks (hM.as (H' := Gs [] [Fq40, Fq39]) rfl) 1 rfl) (Mem.oks (hM.as (H' := Gs [] [Fq40, Fq39]) rfl) 0 rfl))) (.cons (rnums_of (RdF.up hfq40 (fun _ hz_ => hz_.2)) (And.intro (Mem.oks (hM.as (H' := Gs [] [Fq40, Fq39]) rfl) 1 rfl) (Mem.oks (hM.as (H' := Gs [] [Fq40, Fq39]) rfl) 0 rfl))) (Each2.nil _)))
    refine RunF.new 22 1 2 ([.slice A29 t28.length c31, .slice A35 t34.length c37]) (d := some 18) (k2 := (pin Go.Proofs.Try.f33 [1, 1, 0] 5)) hM (by rfl) (by kernel_rfl) (by kernel_rfl) ?_
    intro g42 W43 hM
    obtain ⟨Fq45, hfq45, hM⟩ := Mem.freezeS (H1 := []) (H2 := []) (Fs := [Fq40, Fq39]) (A := (some ⟨g42, 0, none⟩)) (n := 2) (c := 2) (ty := 22) (cs := [.slice A29 t28.length c31, .slice A35 t34.length c37]) (hM.as rfl)
    obtain ⟨t47, ht47, h⟩ := Option.bind_eq_some_iff.mp h
    refine RunF.call (d := some 19) (g := 51) (args := #[.slice (some ⟨g42, 0, none⟩) 2 2]) (k2 := (pin Go.Proofs.Try.f33 [1, 1, 0] 6)) (by kernel_rfl) (slices_Concat_byte_byte.calls k (.slice (some ⟨g42, 0, none⟩) 2 2) (andZ (Oks Fq45) (andZ (Oks Fq39) (Oks Fq40))) ([t28, t34] : List (List Int)) t47 _ ⟨_, _, _, rfl, (hfq45.up (fun _ hz_ => hz_.1)), (Each2.up (up_nums .u8) hqq41 (fun _ hz_ => (And.intro hz_.2.1 hz_.2.2)))⟩ (fun _ hb_ => (And.intro ((Mem.oks (hM.as (H' := Gs [] [Fq45, Fq40, Fq39]) rfl) 0 rfl).kept hb_) (And.intro ((Mem.oks (hM.as (H' := Gs [] [Fq45, Fq40, Fq39]) rfl) 2 rfl).kept hb_) ((Mem.oks (hM.as (H' := Gs [] [Fq45, Fq40, Fq39]) rfl) 1 rfl).kept hb_)))) ht47) ?_
    rintro _ W46 ⟨A48, n49, c50, rfl, hM_⟩
    obtain rfl : t47.length = n49 := by have h_ := (hM_.rd 0 rfl).1; simpa [nums_length, bools_length, strs_length] using h_
    replace hM : Mem w W46 (Gs [⟨.slice A48 t47.length c50, 5, 1, nums .u8 t47⟩] [Fq45, Fq40, Fq39]) := (Mem.callG (hM.as (H' := Gs [] [Fq45, Fq40, Fq39]) rfl) hM_.grp).as rfl
    clear hM_ ht47
    refine RunF.go 2 [6] (k' := (pl Go.Proofs.Try.f33 [1, 1, 1])) (L' := [(6, .slice A48 t47.length c50)]) (w' := W46) (by kernel_rfl) ?_
    obtain rfl := Option.some.inj h
    exact RunF.ret1 6 (.slice A48 t47.length c50) (fn := Go.Proofs.Try.f33) Go.Proofs.Try.func33 (by kernel_rfl) (by kernel_rfl) (by kernel_rfl) ⟨_, rfl, A48, t47.length, c50, rfl, (Mem.pickF (hM.as (H' := Gs [⟨.slice A48 t47.length c50, 5, 1, nums .u8 t47⟩] [Fq45, Fq40, Fq39]) rfl) [0] rfl rfl rfl).ungrp⟩

/-! ### (*scrim/small.Small).Block: function 18 -/
def small_Small_Block.f (k : Nat) (a0 : ((List Int) × Int)) (a1 : List Int) (a2 : Bool) : Option (List Int × Int) := if ((a1.length : Int) != 8) = true then (some (([] : List Int), 1)) else ((small_loaded.f k a1 (a0.2 == 8)).bind fun t5 => (if (decide (0 < (t5.length : Int))) = true then (if (decide (1 < (t5.length : Int))) = true then (if (a0.2 == 4) = true then ((small_Small_xtea.f k a0 (rd t5 0) (rd t5 1) a2).bind fun t18 => ((small_stored.f k t18.1 t18.2 (a0.2 == 8)).bind fun t20 => (some (t20, 0)))) else (if (a0.2 == 5) = true then ((small_Small_magma.f k a0 (rd t5 0) (rd t5 1) a2).bind fun t27 => ((small_stored.f k t27.1 t27.2 (a0.2 == 8)).bind fun t29 => (some (t29, 0)))) else (if (a0.2 == 8) = true then ((small_Small_rc5.f k a0 (rd t5 0) (rd t5 1) a2).bind fun t36 => ((small_stored.f k t36.1 t36.2 (a0.2 == 8)).bind fun t38 => (some (t38, 0)))) else ((small_stored.f k (rd t5 0) (rd t5 1) (a0.2 == 8)).bind fun t44 => (some (t44, 0)))))) else (none)) else (none)))
set_option maxRecDepth 100000 in
theorem small_Small_Block.calls (k : Nat) (vp0 : Value) (Zp0 : Zp) (a0 : ((List Int) × Int)) (Ap1 : Option Addr) (np1 cp1 : Nat) (a1 : List Int) (a2 : Bool) (r : List Int × Int) (w : World) (hr1 : Rd w (.slice Ap1 np1 cp1) (nums .u8 a1)) (hp0 : (rPtr Rs_small_Small) Zp0 vp0 a0) (hZp0 : ∀ W, Kept w W → Zp0 W) (h : small_Small_Block.f k a0 a1 a2 = some r) :
    Calls Go.Proofs.Try.prog 18 #[vp0, (.slice Ap1 np1 cp1), .bool a2] w (Ret fun v w' => ∃ A0' n0' c0', v = .tuple #[.slice A0' n0' c0', .int .i64 r.2] ∧ Mem w w' [⟨.slice A0' n0' c0', 5, 1, nums .u8 r.1⟩]) := by
  obtain rfl : a1.length = np1 := by have h_ := hr1.1; simpa [nums_length, bools_length, strs_length] using h_
  obtain ⟨gp0, _, rfl, hco1, _, _, rfl, ⟨Ao1_0, co1_0, rfl, ho1_0⟩, rfl⟩ := id hp0
  unfold small_Small_Block.f at h
  refine calls_of [.pointer (some ⟨gp0, 0, none⟩), .slice Ap1 a1.length cp1, .bool a2] (fn := Go.Proofs.Try.f18) Go.Proofs.Try.func18 (by kernel_rfl) (by kernel_rfl) ?_
  have hM := Mem.refl w
  refine RunF.go 12 [0, 1, 2, 14] (k' := (pl Go.Proofs.Try.f18 [1, 0, 1])) (L' := [(0, .pointer (some ⟨gp0, 0, none⟩)), (1, .slice Ap1 a1.length cp1), (2, .bool a2), (14, .bool ((a1.length : Int) != 8))]) (w' := w) (by kernel_rfl) ?_
  rcases two (((a1.length : Int) != 8)) with c2 | c2
  · replace h := of_true h c2
    refine RunF.know 14 (b := true) (by kernel_rfl) c2 ?_
    refine RunF.go 6 [6, 7] (k' := (pl Go.Proofs.Try.f18 [1, 0, 1, 0, 1])) (L' := [(6, .slice none 0 0), (7, .int .i64 1)]) (w' := w) (by kernel_rfl) ?_
    replace hM := hM.nil 5
    obtain rfl := Option.some.inj h
    exact RunF.ret2 6 7 (.slice none 0 0) (.int .i64 1) (fn := Go.Proofs.Try.f18) Go.Proofs.Try.func18 (by kernel_rfl) (by kernel_rfl) (by kernel_rfl) (by kernel_rfl) ⟨_, rfl, none, 0, 0, rfl, (hM.pick [0] rfl rfl)⟩
  · replace h := of_false h c2
    refine RunF.know 14 (b := false) (by kernel_rfl) c2 ?_
    refine RunF.go 7 [0, 1, 2, 17] (k' := (pin Go.Proofs.Try.f18 [1, 1, 0] 3)) (L' := [(0, .pointer (some ⟨gp0, 0, none⟩)), (1, .slice Ap1 a1.length cp1), (2, .bool a2), (17, .pointer (some ⟨gp0, 1, none⟩))]) (w' := w) (by kernel_rfl) ?_
    refine RunF.y (ld_y (d := some 18) (p := ⟨gp0, 1, none⟩) (k2 := (pin Go.Proofs.Try.f18 [1, 1, 0] 4)) (.int .i64 a0.2) (by kernel_rfl)) (hco1 _ (hZp0 _ hM.kept) 1 _ rfl) ?_
    refine RunF.go 7 [0, 2, 8, 20, 21] (k' := (pin Go.Proofs.Try.f18 [1, 1, 1, 0] 2)) (L' := [(0, .pointer (some ⟨gp0, 0, none⟩)), (2, .bool a2), (8, .bool (a0.2 == 8)), (20, .slice Ap1 a1.length cp1), (21, .bool (a0.2 == 8))]) (w' := w) (by kernel_rfl) ?_
    obtain ⟨t5, ht5, h⟩ := Option.bind_eq_some_iff.mp h
    refine RunF.call (d := some 22) (g := 26) (args := #[.slice Ap1 a1.length cp1, .bool (a0.2 == 8)]) (k2 := (pin Go.Proofs.Try.f18 [1, 1, 1, 0] 3)) (by kernel_rfl) (small_loaded.calls k Ap1 a1.length cp1 a1 (a0.2 == 8) t5 _ (hr1.mono hM.below) ht5) ?_
    rintro _ W4 ⟨A6, n7, c8, rfl, hM_⟩
    obtain rfl : t5.length = n7 := by have h_ := (hM_.rd 0 rfl).1; simpa [nums_length, bools_length, strs_length] using h_
    replace hM := hM.call hM_
    clear hM_ ht5
    refine RunF.go 3 [0, 2, 8, 9] (k' := (pl Go.Proofs.Try.f18 [1, 1, 1, 1, 0])) (L' := [(0, .pointer (some ⟨gp0, 0, none⟩)), (2, .bool a2), (8, .bool (a0.2 == 8)), (9, .slice A6 t5.length c8)]) (w' := W4) (by kernel_rfl) ?_
    refine RunF.draw (Still ({ W4 with drawn := W4.drawn + 1 } : World) []) (by kernel_rfl) (by kernel_rfl) ?_
    have hMd11 := hM.drew
    have hS := Still.refl ({ W4 with drawn := W4.drawn + 1 } : World) []
    generalize ({ W4 with drawn := W4.drawn + 1 } : World) = W10 at hMd11 hS ⊢
    replace hM := hMd11
    refine RunAny.y 0 (by kernel_rfl) (yl_pure (d := some 23) (v := .slice A6 t5.length c8) (k2 := [.inRegion (opsOf (pl Go.Proofs.Try.f18 [1, 1, 1, 1, 0])) []]) fun w => by kernel_rfl) (fun _ _ => trivial) hS ?_
    rcases two (decide (0 < (t5.length : Int))) with c13 | c13
    · replace h := of_true h c13
      obtain ⟨q12, hAq12, hcq12, hfq12, hlq12⟩ := hM.num_at 0 rfl (i := 0) (by omega) (by have h_ := of_decide_eq_true c13; omega)
      refine RunAny.y 1 (by kernel_rfl) (idx_own (d := some 24) (A := A6) (m := t5.length) (i := 0) (k2 := [.inRegion (opsOf (pl Go.Proofs.Try.f18 [1, 1, 1, 1, 0])) []]) (by kernel_rfl) (by omega) (by have h_ := of_decide_eq_true c13; omega) hAq12) (fun _ _ => trivial) hS ?_
      refine RunAny.y 2 (by kernel_rfl) (ld_y (d := some 25) (p := ⟨q12, (0 : Int).toNat, none⟩) (k2 := [.inRegion (opsOf (pl Go.Proofs.Try.f18 [1, 1, 1, 1, 0])) []]) (.int .u32 (rd t5 0)) (by kernel_rfl)) (fun _ hs => hs.cell hcq12 (by simp)) hS ?_
      refine RunAny.y 3 (by kernel_rfl) (yl_pure (d := some 26) (v := .slice A6 t5.length c8) (k2 := [.inRegion (opsOf (pl Go.Proofs.Try.f18 [1, 1, 1, 1, 0])) []]) fun w => by kernel_rfl) (fun _ _ => trivial) hS ?_
      rcases two (decide (1 < (t5.length : Int))) with c15 | c15
      · replace h := of_true h c15
        obtain ⟨q14, hAq14, hcq14, hfq14, hlq14⟩ := hM.num_at 0 rfl (i := 1) (by omega) (by have h_ := of_decide_eq_true c15; omega)
        refine RunAny.y 4 (by kernel_rfl) (idx_own (d := some 27) (A := A6) (m := t5.length) (i := 1) (k2 := [.inRegion (opsOf (pl Go.Proofs.Try.f18 [1, 1, 1, 1, 0])) []]) (by kernel_rfl) (by omega) (by have h_ := of_decide_eq_true c15; omega) hAq14) (fun _ _ => trivial) hS ?_
        refine RunAny.y 5 (by kernel_rfl) (ld_y (d := some 28) (p := ⟨q14, (1 : Int).toNat, none⟩) (k2 := [.inRegion (opsOf (pl Go.Proofs.Try.f18 [1, 1, 1, 1, 0])) []]) (.int .u32 (rd t5 1)) (by kernel_rfl)) (fun _ hs => hs.cell hcq14 (by simp)) hS ?_
        refine RunAny.y 6 (by kernel_rfl) (yl_pure (d := some 10) (v := .int .u32 (rd t5 0)) (k2 := [.inRegion (opsOf (pl Go.Proofs.Try.f18 [1, 1, 1, 1, 0])) []]) fun w => by kernel_rfl) (fun _ _ => trivial) hS ?_
        refine RunAny.y 7 (by kernel_rfl) (yl_pure (d := some 11) (v := .int .u32 (rd t5 1)) (k2 := [.inRegion (opsOf (pl Go.Proofs.Try.f18 [1, 1, 1, 1, 0])) []]) fun w => by kernel_rfl) (fun _ _ => trivial) hS ?_
        refine RunAny.done (by kernel_rfl) ?_
        clear hS
        refine RunF.go 6 [0, 2, 8, 10, 11, 31] (k' := (pin Go.Proofs.Try.f18 [1, 1, 1, 1, 1, 0, 0] 3)) (L' := [(0, .pointer (some ⟨gp0, 0, none⟩)), (2, .bool a2), (8, .bool (a0.2 == 8)), (10, .int .u32 (rd t5 0)), (11, .int .u32 (rd t5 1)), (31, .pointer (some ⟨gp0, 1, none⟩))]) (w' := W10) (by kernel_rfl) ?_
        refine RunF.y (ld_y (d := some 32) (p := ⟨gp0, 1, none⟩) (k2 := (pin Go.Proofs.Try.f18 [1, 1, 1, 1, 1, 0, 0] 4)) (.int .i64 a0.2) (by kernel_rfl)) (hco1 _ (hZp0 _ hM.kept) 1 _ rfl) ?_
        refine RunF.go 7 [0, 2, 8, 10, 11, 32, 33] (k' := (pl Go.Proofs.Try.f18 [1, 1, 1, 1, 1, 0, 1, 0, 1])) (L' := [(0, .pointer (some ⟨gp0, 0, none⟩)), (2, .bool a2), (8, .bool (a0.2 == 8)), (10, .int .u32 (rd t5 0)), (11, .int .u32 (rd t5 1)), (32, .int .i64 a0.2), (33, .bool (a0.2 == 4))]) (w' := W10) (by kernel_rfl) ?_
        rcases two ((a0.2 == 4)) with c16 | c16
        · replace h := of_true h c16
          refine RunF.know 33 (b := true) (by kernel_rfl) c16 ?_
          refine RunF.go 6 [8, 36, 37, 38, 39] (k' := (pin Go.Proofs.Try.f18 [1, 1, 1, 1, 1, 0, 1, 0, 1, 0] 4)) (L' := [(8, .bool (a0.2 == 8)), (36, .pointer (some ⟨gp0, 0, none⟩)), (37, .int .u32 (rd t5 0)), (38, .int .u32 (rd t5 1)), (39, .bool a2)]) (w' := W10) (by kernel_rfl) ?_
          obtain ⟨t18, ht18, h⟩ := Option.bind_eq_some_iff.mp h
          refine RunF.call (d := some 40) (g := 30) (args := #[.pointer (some ⟨gp0, 0, none⟩), .int .u32 (rd t5 0), .int .u32 (rd t5 1), .bool a2]) (k2 := (pin Go.Proofs.Try.f18 [1, 1, 1, 1, 1, 0, 1, 0, 1, 0] 5)) (by kernel_rfl) (small_Small_xtea.calls k (.pointer (some ⟨gp0, 0, none⟩)) Zp0 a0 (rd t5 0) (rd t5 1) a2 t18 _ hp0 (fun _ hb_ => (hZp0 _ (hM.kept.trans hb_))) ht18) ?_
          rintro _ W17 ⟨rfl, hM_⟩
          replace hM := hM.call hM_
          clear hM_ ht18
          refine RunF.go 12 [63, 64, 65] (k' := (pin Go.Proofs.Try.f18 [1, 1, 1, 1, 1, 1, 0] 3)) (L' := [(63, .int .u32 t18.1), (64, .int .u32 t18.2), (65, .bool (a0.2 == 8))]) (w' := W17) (by kernel_rfl) ?_
          obtain ⟨t20, ht20, h⟩ := Option.bind_eq_some_iff.mp h
          refine RunF.call (d := some 66) (g := 33) (args := #[.int .u32 t18.1, .int .u32 t18.2, .bool (a0.2 == 8)]) (k2 := (pin Go.Proofs.Try.f18 [1, 1, 1, 1, 1, 1, 0] 4)) (by kernel_rfl) (small_stored.calls k t18.1 t18.2 (a0.2 == 8) t20 _ ht20) ?_
          rintro _ W19 ⟨A21, n22, c23, rfl, hM_⟩
          obtain rfl : t20.length = n22 := by have h_ := (hM_.rd 0 rfl).1; simpa [nums_length, bools_length, strs_length] using h_
          replace hM := hM.call hM_
          clear hM_ ht20
          refine RunF.go 3 [6, 7] (k' := (pl Go.Proofs.Try.f18 [1, 1, 1, 1, 1, 1, 1])) (L' := [(6, .slice A21 t20.length c23), (7, .int .i64 0)]) (w' := W19) (by kernel_rfl) ?_
          obtain rfl := Option.some.inj h
          exact RunF.ret2 6 7 (.slice A21 t20.length c23) (.int .i64 0) (fn := Go.Proofs.Try.f18) Go.Proofs.Try.func18 (by kernel_rfl) (by kernel_rfl) (by kernel_rfl) (by kernel_rfl) ⟨_, rfl, A21, t20.length, c23, rfl, (hM.pick [0] rfl rfl)⟩
        · replace h := of_false h c16
          refine RunF.know 33 (b := false) (by kernel_rfl) c16 ?_
          refine RunF.go 6 [0, 2, 8, 10, 11, 32, 43] (k' := (pl Go.Proofs.Try.f18 [1, 1, 1, 1, 1, 0, 1, 0, 1, 1, 1])) (L' := [(0, .pointer (some ⟨gp0, 0, none⟩)), (2, .bool a2), (8, .bool (a0.2 == 8)), (10, .int .u32 (rd t5 0)), (11, .int .u32 (rd t5 1)), (32, .int .i64 a0.2), (43, .bool (a0.2 == 5))]) (w' := W10) (by kernel_rfl) ?_
          rcases two ((a0.2 == 5)) with c25 | c25
          · replace h := of_true h c25
            refine RunF.know 43 (b := true) (by kernel_rfl) c25 ?_
            refine RunF.go 6 [8, 46, 47, 48, 49] (k' := (pin Go.Proofs.Try.f18 [1, 1, 1, 1, 1, 0, 1, 0, 1, 1, 1, 0] 4)) (L' := [(8, .bool (a0.2 == 8)), (46, .pointer (some ⟨gp0, 0, none⟩)), (47, .int .u32 (rd t5 0)), (48, .int .u32 (rd t5 1)), (49, .bool a2)]) (w' := W10) (by kernel_rfl) ?_
            obtain ⟨t27, ht27, h⟩ := Option.bind_eq_some_iff.mp h
            refine RunF.call (d := some 50) (g := 31) (args := #[.pointer (some ⟨gp0, 0, none⟩), .int .u32 (rd t5 0), .int .u32 (rd t5 1), .bool a2]) (k2 := (pin Go.Proofs.Try.f18 [1, 1, 1, 1, 1, 0, 1, 0, 1, 1, 1, 0] 5)) (by kernel_rfl) (small_Small_magma.calls k (.pointer (some ⟨gp0, 0, none⟩)) Zp0 a0 (rd t5 0) (rd t5 1) a2 t27 _ hp0 (fun _ hb_ => (hZp0 _ (hM.kept.trans hb_))) ht27) ?_
            rintro _ W26 ⟨rfl, hM_⟩
            replace hM := hM.call hM_
            clear hM_ ht27
            refine RunF.go 12 [63, 64, 65] (k' := (pin Go.Proofs.Try.f18 [1, 1, 1, 1, 1, 1, 0] 3)) (L' := [(63, .int .u32 t27.1), (64, .int .u32 t27.2), (65, .bool (a0.2 == 8))]) (w' := W26) (by kernel_rfl) ?_
            obtain ⟨t29, ht29, h⟩ := Option.bind_eq_some_iff.mp h
            refine RunF.call (d := some 66) (g := 33) (args := #[.int .u32 t27.1, .int .u32 t27.2, .bool (a0.2 == 8)]) (k2 := (pin Go.Proofs.Try.f18 [1, 1, 1, 1, 1, 1, 0] 4)) (by kernel_rfl) (small_stored.calls k t27.1 t27.2 (a0.2 == 8) t29 _ ht29) ?_
            rintro _ W28 ⟨A30, n31, c32, rfl, hM_⟩
            obtain rfl : t29.length = n31 := by have h_ := (hM_.rd 0 rfl).1; simpa [nums_length, bools_length, strs_length] using h_
            replace hM := hM.call hM_
            clear hM_ ht29
            refine RunF.go 3 [6, 7] (k' := (pl Go.Proofs.Try.f18 [1, 1, 1, 1, 1, 1, 1])) (L' := [(6, .slice A30 t29.length c32), (7, .int .i64 0)]) (w' := W28) (by kernel_rfl) ?_
            obtain rfl := Option.some.inj h
            exact RunF.ret2 6 7 (.slice A30 t29.length c32) (.int .i64 0) (fn := Go.Proofs.Try.f18) Go.Proofs.Try.func18 (by kernel_rfl) (by kernel_rfl) (by kernel_rfl) (by kernel_rfl) ⟨_, rfl, A30, t29.length, c32, rfl, (hM.pick [0] rfl rfl)⟩
          · replace h := of_false h c25
            refine RunF.know 43 (b := false) (by kernel_rfl) c25 ?_
            refine RunF.go 6 [0, 2, 8, 10, 11, 53] (k' := (pl Go.Proofs.Try.f18 [1, 1, 1, 1, 1, 0, 1, 0, 1, 1, 1, 1, 1])) (L' := [(0, .pointer (some ⟨gp0, 0, none⟩)), (2, .bool a2), (8, .bool (a0.2 == 8)), (10, .int .u32 (rd t5 0)), (11, .int .u32 (rd t5 1)), (53, .bool (a0.2 == 8))]) (w' := W10) (by kernel_rfl) ?_
            rcases two ((a0.2 == 8)) with c34 | c34
            · replace h := of_true h c34
              refine RunF.know 53 (b := true) (by kernel_rfl) c34 ?_
              refine RunF.go 6 [8, 56, 57, 58, 59] (k' := (pin Go.Proofs.Try.f18 [1, 1, 1, 1, 1, 0, 1, 0, 1, 1, 1, 1, 1, 0] 4)) (L' := [(8, .bool (a0.2 == 8)), (56, .pointer (some ⟨gp0, 0, none⟩)), (57, .int .u32 (rd t5 0)), (58, .int .u32 (rd t5 1)), (59, .bool a2)]) (w' := W10) (by kernel_rfl) ?_
              obtain ⟨t36, ht36, h⟩ := Option.bind_eq_some_iff.mp h
              refine RunF.call (d := some 60) (g := 32) (args := #[.pointer (some ⟨gp0, 0, none⟩), .int .u32 (rd t5 0), .int .u32 (rd t5 1), .bool a2]) (k2 := (pin Go.Proofs.Try.f18 [1, 1, 1, 1, 1, 0, 1, 0, 1, 1, 1, 1, 1, 0] 5)) (by kernel_rfl) (small_Small_rc5.calls k (.pointer (some ⟨gp0, 0, none⟩)) Zp0 a0 (rd t5 0) (rd t5 1) a2 t36 _ hp0 (fun _ hb_ => (hZp0 _ (hM.kept.trans hb_))) ht36) ?_
              rintro _ W35 ⟨rfl, hM_⟩
              replace hM := hM.call hM_
              clear hM_ ht36
              refine RunF.go 12 [63, 64, 65] (k' := (pin Go.Proofs.Try.f18 [1, 1, 1, 1, 1, 1, 0] 3)) (L' := [(63, .int .u32 t36.1), (64, .int .u32 t36.2), (65, .bool (a0.2 == 8))]) (w' := W35) (by kernel_rfl) ?_
              obtain ⟨t38, ht38, h⟩ := Option.bind_eq_some_iff.mp h
              refine RunF.call (d := some 66) (g := 33) (args := #[.int .u32 t36.1, .int .u32 t36.2, .bool (a0.2 == 8)]) (k2 := (pin Go.Proofs.Try.f18 [1, 1, 1, 1, 1, 1, 0] 4)) (by kernel_rfl) (small_stored.calls k t36.1 t36.2 (a0.2 == 8) t38 _ ht38) ?_
              rintro _ W37 ⟨A39, n40, c41, rfl, hM_⟩
              obtain rfl : t38.length = n40 := by have h_ := (hM_.rd 0 rfl).1; simpa [nums_length, bools_length, strs_length] using h_
              replace hM := hM.call hM_
              clear hM_ ht38
              refine RunF.go 3 [6, 7] (k' := (pl Go.Proofs.Try.f18 [1, 1, 1, 1, 1, 1, 1])) (L' := [(6, .slice A39 t38.length c41), (7, .int .i64 0)]) (w' := W37) (by kernel_rfl) ?_
              obtain rfl := Option.some.inj h
              exact RunF.ret2 6 7 (.slice A39 t38.length c41) (.int .i64 0) (fn := Go.Proofs.Try.f18) Go.Proofs.Try.func18 (by kernel_rfl) (by kernel_rfl) (by kernel_rfl) (by kernel_rfl) ⟨_, rfl, A39, t38.length, c41, rfl, (hM.pick [0] rfl rfl)⟩
            · replace h := of_false h c34
              refine RunF.know 53 (b := false) (by kernel_rfl) c34 ?_
              refine RunF.go 8 [63, 64, 65] (k' := (pin Go.Proofs.Try.f18 [1, 1, 1, 1, 1, 1, 0] 3)) (L' := [(63, .int .u32 (rd t5 0)), (64, .int .u32 (rd t5 1)), (65, .bool (a0.2 == 8))]) (w' := W10) (by kernel_rfl) ?_
              obtain ⟨t44, ht44, h⟩ := Option.bind_eq_some_iff.mp h
              refine RunF.call (d := some 66) (g := 33) (args := #[.int .u32 (rd t5 0), .int .u32 (rd t5 1), .bool (a0.2 == 8)]) (k2 := (pin Go.Proofs.Try.f18 [1, 1, 1, 1, 1, 1, 0] 4)) (by kernel_rfl) (small_stored.calls k (rd t5 0) (rd t5 1) (a0.2 == 8) t44 _ ht44) ?_
              rintro _ W43 ⟨A45, n46, c47, rfl, hM_⟩
              obtain rfl : t44.length = n46 := by have h_ := (hM_.rd 0 rfl).1; simpa [nums_length, bools_length, strs_length] using h_
              replace hM := hM.call hM_
              clear hM_ ht44
              refine RunF.go 3 [6, 7] (k' := (pl Go.Proofs.Try.f18 [1, 1, 1, 1, 1, 1, 1])) (L' := [(6, .slice A45 t44.length c47), (7, .int .i64 0)]) (w' := W43) (by kernel_rfl) ?_
              obtain rfl := Option.some.inj h
              exact RunF.ret2 6 7 (.slice A45 t44.length c47) (.int .i64 0) (fn := Go.Proofs.Try.f18) Go.Proofs.Try.func18 (by kernel_rfl) (by kernel_rfl) (by kernel_rfl) (by kernel_rfl) ⟨_, rfl, A45, t44.length, c47, rfl, (hM.pick [0] rfl rfl)⟩
      · replace h := of_false h c15
        cases h
    · replace h := of_false h c13
      cases h

/-! ### scrim/scrimlaw8.known: function 12 -/
def scrimlaw8_known.l0 : Nat → (Option ((List Int) × Int) × Int) → Int → Option (Bool)
  | 0, _, _ => none
  | k + 1, t2, x3_0 => if (decide (x3_0 < 3)) = true then ((scrimlaw8_tags.f k).bind fun t7 => (if (decide (0 ≤ x3_0)) = true then (if (decide (x3_0 < (t7.length : Int))) = true then ((scrimlaw8_size.f k x3_0).bind fun t16 => (if (decide (0 ≤ t16)) = true then (if (decide (t16 ≤ 1000000000)) = true then ((small_New.f k (rd t7 x3_0) (List.replicate ((t16 : Int).toNat) (0 : Int))).bind fun t23 => (if (t23.2 != 0) = true then (some false) else (if t23.1.isSome = true then ((t23.1).bind fun s26 => ((small_Small_Block.f k s26 (List.replicate 8 (0 : Int)) false).bind fun t33 => ((small_Small_Block.f k s26 t33.1 true).bind fun t39 => (if ((t33.1.length : Int) != 8) = true then (some false) else (if ((strOf t33.1).toList == (strOf t39.1).toList) = true then (some false) else ((some (((strOf t33.1).toList == (strOf t39.1).toList) : Bool)).bind fun y51 => ((some (!((strOf t39.1).toList == (strOf (List.replicate 8 (0 : Int))).toList) : Bool)).bind fun y52 => (if y52 = true then (some false) else (scrimlaw8_known.l0 k t2 (I64 (x3_0 + 1))))))))))) else (some false)))) else (none)) else (none))) else (none)) else (none))) else (some (t2.2 == 2))
def scrimlaw8_known.f (k : Nat)  : Option (Bool) := (small_New.f k 0 ([] : List Int)).bind fun t2 => (scrimlaw8_known.l0 k t2 0)
set_option maxRecDepth 100000 in
set_option maxHeartbeats 8000000 in
theorem scrimlaw8_known.calls (k : Nat)  (r : Bool) (w : World) (h : scrimlaw8_known.f k = some r) :
    Calls Go.Proofs.Try.prog 12 #[] w (Ret fun v w' => v = .bool r ∧ Mem w w' []) := by
  unfold scrimlaw8_known.f at h
  refine calls_of [] (fn := Go.Proofs.Try.f12) Go.Proofs.Try.func12 (by kernel_rfl) (by kernel_rfl) ?_
  have hM := Mem.refl w
  refine RunF.go 6 [] (k' := (pin Go.Proofs.Try.f12 [1, 0] 0)) (L' := []) (w' := w) (by kernel_rfl) ?_
  obtain ⟨t2, ht2, h⟩ := Option.bind_eq_some_iff.mp h
  refine RunF.call (d := some 11) (g := 14) (args := #[.int .i64 0, .slice none 0 0]) (k2 := (pin Go.Proofs.Try.f12 [1, 0] 1)) (by kernel_rfl) (small_New.calls k 0 none 0 0 ([] : List Int) t2 _ (Rd.nil _ .u8) ht2) ?_
  rintro _ W1 ⟨vt2_0, Ft2_0, rfl, hRt2_0, hM_⟩
  replace hM : Mem w W1 (Gs [] [Ft2_0]) := (Mem.callG (hM.as (H' := Gs [] []) rfl) hM_).as rfl
  clear hM_ ht2
  refine RunF.go 13 [2, 3] (k' := (pl Go.Proofs.Try.f12 [1, 1, 0, 1, 0, 0])) (L' := [(2, .int .i64 t2.2), (3, .int .i64 0)]) (w' := W1) (by kernel_rfl) ?_
  have l0 : ∀ (k_ : Nat), k_ ≤ k → ∀ (x3_0 : Int) (W : World) (hM : Mem w W (Gs [] [Ft2_0])) (h : scrimlaw8_known.l0 k_ t2 x3_0 = some r), RunF Go.Proofs.Try.prog (Ret fun v w' => v = .bool r ∧ Mem w w' []) 12 (pl Go.Proofs.Try.f12 [1, 1, 0, 1, 0, 0]) 66 [(2, .int .i64 t2.2), (3, .int .i64 x3_0)] W := by
    intro k_
    induction k_ using Nat.strongRecOn with
    | _ k_ ih0 =>
      intro hk x3_0 W hM h
      cases k_ with
      | zero => exact absurd h (by simp [scrimlaw8_known.l0])
      | succ k =>
        simp only [scrimlaw8_known.l0] at h
        replace ih0 : ∀ m, m ≤ k → _ := fun m hm => ih0 m (by omega) (by omega)
        refine RunF.go 6 [2, 3, 15] (k' := (pl Go.Proofs.Try.f12 [1, 1, 0, 1, 0, 0, 0, 1])) (L' := [(2, .int .i64 t2.2), (3, .int .i64 x3_0), (15, .bool (decide (x3_0 < 3)))]) (w' := W) (by kernel_rfl) ?_
        rcases two (decide (x3_0 < 3)) with c3 | c3
        · replace h := of_true h c3
          refine RunF.know 15 (b := true) (by kernel_rfl) c3 ?_
          refine RunF.go 5 [2, 3] (k' := (pl Go.Proofs.Try.f12 [1, 1, 0, 1, 0, 0, 1, 0, 0, 0])) (L' := [(2, .int .i64 t2.2), (3, .int .i64 x3_0)]) (w' := W) (by kernel_rfl) ?_
          refine RunF.draw (Still ({ W with drawn := W.drawn + 1 } : World) []) (by kernel_rfl) (by kernel_rfl) ?_
          have hMd5 := hM.drew
          have hS := Still.refl ({ W with drawn := W.drawn + 1 } : World) []
          generalize ({ W with drawn := W.drawn + 1 } : World) = W4 at hMd5 hS ⊢
          replace hM := hMd5
          refine RunAny.y 1 (by kernel_rfl) (yl_pure (d := some 20) (v := .int .i64 x3_0) (k2 := [.inRegion (opsOf (pl Go.Proofs.Try.f12 [1, 1, 0, 1, 0, 0, 1, 0, 0, 0])) []]) fun w => by kernel_rfl) (fun _ _ => trivial) hS ?_
          refine RunAny.y 4 (by kernel_rfl) (yl_pure (d := some 23) (v := .int .i64 x3_0) (k2 := [.inRegion (opsOf (pl Go.Proofs.Try.f12 [1, 1, 0, 1, 0, 0, 1, 0, 0, 0])) []]) fun w => by kernel_rfl) (fun _ _ => trivial) hS ?_
          obtain ⟨t7, ht7, h⟩ := Option.bind_eq_some_iff.mp h
          refine RunAny.call 0 (d := some 19) (g := 15) (args := #[]) (by kernel_rfl) (by kernel_rfl) (scrimlaw8_tags.calls k t7 _ ht7) (by rintro _ _ ⟨_, _, _, rfl, hM_⟩; exact hS.below hM_.below) ?_
          rintro _ W6 ⟨A8, n9, c10, rfl, hM_⟩
          obtain rfl : t7.length = n9 := by have h_ := (hM_.rd 0 rfl).1; simpa [nums_length, bools_length, strs_length] using h_
          replace hS := hS.below hM_.below
          replace hM : Mem w W6 (Gs [⟨.slice A8 t7.length c10, 3, 1, nums .i64 t7⟩] [Ft2_0]) := (Mem.callG (hM.as (H' := Gs [] [Ft2_0]) rfl) hM_.grp).as rfl
          clear hM_ ht7
          refine RunAny.rebase hS ?_
          replace hS := Still.refl W6 []
          rcases two (decide (0 ≤ x3_0)) with c13 | c13
          · replace h := of_true h c13
            rcases two (decide (x3_0 < (t7.length : Int))) with c14 | c14
            · replace h := of_true h c14
              obtain ⟨q12, hAq12, hcq12, hfq12, hlq12⟩ := hM.num_at 0 rfl (i := x3_0) (of_decide_eq_true c13) (by have h_ := of_decide_eq_true c14; omega)
              refine RunAny.y 2 (by kernel_rfl) (idx_own (d := some 21) (A := A8) (m := t7.length) (i := x3_0) (k2 := [.inRegion (opsOf (pl Go.Proofs.Try.f12 [1, 1, 0, 1, 0, 0, 1, 0, 0, 0])) []]) (by kernel_rfl) (of_decide_eq_true c13) (by have h_ := of_decide_eq_true c14; omega) hAq12) (fun _ _ => trivial) hS ?_
              refine RunAny.y 3 (by kernel_rfl) (ld_y (d := some 22) (p := ⟨q12, (x3_0 : Int).toNat, none⟩) (k2 := [.inRegion (opsOf (pl Go.Proofs.Try.f12 [1, 1, 0, 1, 0, 0, 1, 0, 0, 0])) []]) (.int .i64 (rd t7 x3_0)) (by kernel_rfl)) (fun _ hs => hs.cell hcq12 (by simp)) hS ?_
              obtain ⟨t16, ht16, h⟩ := Option.bind_eq_some_iff.mp h
              refine RunAny.call 5 (d := some 24) (g := 16) (args := #[.int .i64 x3_0]) (by kernel_rfl) (by kernel_rfl) (scrimlaw8_size.calls k x3_0 t16 _ ht16) (by rintro _ _ ⟨rfl, hM_⟩; exact hS.below hM_.below) ?_
              rintro _ W15 ⟨rfl, hM_⟩
              replace hS := hS.below hM_.below
              replace hM : Mem w W15 (Gs [⟨.slice A8 t7.length c10, 3, 1, nums .i64 t7⟩] [Ft2_0]) := (Mem.callG (hM.as (H' := Gs [⟨.slice A8 t7.length c10, 3, 1, nums .i64 t7⟩] [Ft2_0]) rfl) hM_.grp).as rfl
              clear hM_ ht16
              refine RunAny.rebase hS ?_
              replace hS := Still.refl W15 []
              rcases two (decide (0 ≤ t16)) with c19 | c19
              · replace h := of_true h c19
                rcases two (decide (t16 ≤ 1000000000)) with c20 | c20
                · replace h := of_true h c20
                  have := of_decide_eq_true c19
                  have := of_decide_eq_true c20
                  obtain ⟨W17, hD, hM', hB_⟩ := mk_does (P := Go.Proofs.Try.prog) (n := 66) (k := (one (opsOf (pl Go.Proofs.Try.f12 [1, 1, 0, 1, 0, 0, 1, 0, 0, 0])) 6)) (L := (upd (upd (upd (upd (upd (upd [(2, .int .i64 t2.2), (3, .int .i64 x3_0)] (some 20) (.int .i64 x3_0)) (some 23) (.int .i64 x3_0)) (some 19) (.slice A8 t7.length c10)) (some 21) (.pointer (some ⟨q12, (x3_0 : Int).toNat, none⟩))) (some 22) (.int .i64 (rd t7 x3_0))) (some 24) (.int .i64 t16))) (d := some 25) (e := 5) (z := .int .u8 0) (l := t16) (c := t16) (k2 := [.inRegion (opsOf (pl Go.Proofs.Try.f12 [1, 1, 0, 1, 0, 0, 1, 0, 0, 0])) []]) (by kernel_rfl) (by omega) (by omega) (by omega) hM
                  rw [rep_nums] at hM'
                  refine RunAny.does 6 (by kernel_rfl) hD (hS.below hB_) ?_
                  replace hS := hS.below hB_; clear hB_
                  replace hM := hM'; clear hD hM'
                  generalize W15.heap.size = g18 at hM ⊢
                  refine RunAny.rebase hS ?_
                  replace hS := Still.refl W17 []
                  obtain ⟨t23, ht23, h⟩ := Option.bind_eq_some_iff.mp h
                  refine RunAny.call 7 (d := some 26) (g := 14) (args := #[.int .i64 (rd t7 x3_0), .slice (some ⟨g18, 0, none⟩) ((t16 : Int).toNat) ((t16 : Int).toNat)]) (by kernel_rfl) (by kernel_rfl) (small_New.calls k (rd t7 x3_0) (some ⟨g18, 0, none⟩) ((t16 : Int).toNat) ((t16 : Int).toNat) (List.replicate ((t16 : Int).toNat) (0 : Int)) t23 _ (hM.rd 0 rfl) ht23) (by rintro _ _ ⟨_, _, rfl, _, hM_⟩; exact hS.below hM_.below) ?_
                  rintro _ W22 ⟨vt23_0, Ft23_0, rfl, hRt23_0, hM_⟩
                  replace hS := hS.below hM_.below
                  replace hM : Mem w W22 (Gs [⟨.slice (some ⟨g18, 0, none⟩) ((t16 : Int).toNat) ((t16 : Int).toNat), 5, 1, nums .u8 (List.replicate ((t16 : Int).toNat) (0 : Int))⟩, ⟨.slice A8 t7.length c10, 3, 1, nums .i64 t7⟩] [Ft23_0, Ft2_0]) := (Mem.callG (hM.as (H' := Gs [⟨.slice (some ⟨g18, 0, none⟩) ((t16 : Int).toNat) ((t16 : Int).toNat), 5, 1, nums .u8 (List.replicate ((t16 : Int).toNat) (0 : Int))⟩, ⟨.slice A8 t7.length c10, 3, 1, nums .i64 t7⟩] [Ft2_0]) rfl) hM_).as rfl
                  clear hM_ ht23
                  refine RunAny.rebase hS ?_
                  replace hS := Still.refl W22 []
                  refine RunAny.y 8 (by kernel_rfl) (yl_pure (d := some 18) (v := .tuple #[vt23_0, .int .i64 t23.2]) (k2 := [.inRegion (opsOf (pl Go.Proofs.Try.f12 [1, 1, 0, 1, 0, 0, 1, 0, 0, 0])) []]) fun w => by kernel_rfl) (fun _ _ => trivial) hS ?_
                  refine RunAny.y 9 (by kernel_rfl) (yl_pure (d := some 27) (v := vt23_0) (k2 := [.inRegion (opsOf (pl Go.Proofs.Try.f12 [1, 1, 0, 1, 0, 0, 1, 0, 0, 0])) []]) fun w => by kernel_rfl) (fun _ _ => trivial) hS ?_
                  refine RunAny.y 10 (by kernel_rfl) (yl_pure (d := some 28) (v := .int .i64 t23.2) (k2 := [.inRegion (opsOf (pl Go.Proofs.Try.f12 [1, 1, 0, 1, 0, 0, 1, 0, 0, 0])) []]) fun w => by kernel_rfl) (fun _ _ => trivial) hS ?_
                  refine RunAny.y 11 (by kernel_rfl) (yl_pure (d := some 4) (v := vt23_0) (k2 := [.inRegion (opsOf (pl Go.Proofs.Try.f12 [1, 1, 0, 1, 0, 0, 1, 0, 0, 0])) []]) fun w => by kernel_rfl) (fun _ _ => trivial) hS ?_
                  refine RunAny.y 12 (by kernel_rfl) (yl_pure (d := some 5) (v := .int .i64 t23.2) (k2 := [.inRegion (opsOf (pl Go.Proofs.Try.f12 [1, 1, 0, 1, 0, 0, 1, 0, 0, 0])) []]) fun w => by kernel_rfl) (fun _ _ => trivial) hS ?_
                  refine RunAny.done (by kernel_rfl) ?_
                  clear hS
                  refine RunF.go 6 [2, 3, 4, 31] (k' := (pin Go.Proofs.Try.f12 [1, 1, 0, 1, 0, 0, 1, 0, 0, 1, 0, 0] 3)) (L' := [(2, .int .i64 t2.2), (3, .int .i64 x3_0), (4, vt23_0), (31, .bool (t23.2 != 0))]) (w' := W22) (by kernel_rfl) ?_
                  rcases two ((t23.2 != 0)) with c24 | c24
                  · replace h := of_true h c24
                    refine RunF.know 31 (b := true) (by kernel_rfl) c24 ?_
                    refine RunF.go 9 [0] (k' := (pl Go.Proofs.Try.f12 [1, 1, 0, 1, 0, 0, 1, 0, 0, 1, 0, 1, 0, 1])) (L' := [(0, .bool false)]) (w' := W22) (by kernel_rfl) ?_
                    obtain rfl := Option.some.inj h
                    exact RunF.ret1 0 (.bool false) (fn := Go.Proofs.Try.f12) Go.Proofs.Try.func12 (by kernel_rfl) (by kernel_rfl) (by kernel_rfl) ⟨_, rfl, rfl, (Mem.pickF (hM.as (H' := Gs [⟨.slice (some ⟨g18, 0, none⟩) ((t16 : Int).toNat) ((t16 : Int).toNat), 5, 1, nums .u8 (List.replicate ((t16 : Int).toNat) (0 : Int))⟩, ⟨.slice A8 t7.length c10, 3, 1, nums .i64 t7⟩] [Ft23_0, Ft2_0]) rfl) [] rfl rfl rfl).ungrp⟩
                  · replace h := of_false h c24
                    refine RunF.know 31 (b := false) (by kernel_rfl) c24 ?_
                    refine RunF.go 1 [2, 3, 4, 31, 32] (k' := (pin Go.Proofs.Try.f12 [1, 1, 0, 1, 0, 0, 1, 0, 0, 1, 0, 0] 4)) (L' := [(2, .int .i64 t2.2), (3, .int .i64 x3_0), (4, vt23_0), (31, .bool false), (32, vt23_0)]) (w' := W22) (by kernel_rfl) ?_
                    rcases two (t23.1.isSome) with c25 | c25
                    · replace h := of_true h c25
                      obtain ⟨s26, hx_, h⟩ := Option.bind_eq_some_iff.mp h
                      have hps26 := rOpt.some hRt23_0 hx_
                      obtain ⟨g27, _, rfl, hco28, _, _, rfl, ⟨Ao28_0, co28_0, rfl, ho28_0⟩, rfl⟩ := id hps26
                      refine RunF.go 8 [2, 3, 4, 36] (k' := (pin Go.Proofs.Try.f12 [1, 1, 0, 1, 0, 0, 1, 0, 0, 1, 1, 0] 1)) (L' := [(2, .int .i64 t2.2), (3, .int .i64 x3_0), (4, .pointer (some ⟨g27, 0, none⟩)), (36, .pointer (some ⟨g27, 0, none⟩))]) (w' := W22) (by kernel_rfl) ?_
                      obtain ⟨W29, hD, hM', hB_⟩ := mk_does (P := Go.Proofs.Try.prog) (n := 66) (k := (pin Go.Proofs.Try.f12 [1, 1, 0, 1, 0, 0, 1, 0, 0, 1, 1, 0] 1)) (L := [(2, .int .i64 t2.2), (3, .int .i64 x3_0), (4, .pointer (some ⟨g27, 0, none⟩)), (36, .pointer (some ⟨g27, 0, none⟩))]) (d := some 37) (e := 5) (z := .int .u8 0) (l := 8) (c := 8) (k2 := (pin Go.Proofs.Try.f12 [1, 1, 0, 1, 0, 0, 1, 0, 0, 1, 1, 0] 2)) (by kernel_rfl) (by omega) (by omega) (by omega) hM
                      rw [rep_nums] at hM'
                      refine RunF.does hD ?_
                      replace hM := hM'; clear hD hM'
                      generalize W22.heap.size = g30 at hM ⊢
                      obtain ⟨t33, ht33, h⟩ := Option.bind_eq_some_iff.mp h
                      refine RunF.call (d := some 38) (g := 18) (args := #[.pointer (some ⟨g27, 0, none⟩), .slice (some ⟨g30, 0, none⟩) 8 8, .bool false]) (k2 := (pin Go.Proofs.Try.f12 [1, 1, 0, 1, 0, 0, 1, 0, 0, 1, 1, 0] 3)) (by kernel_rfl) (small_Small_Block.calls k (.pointer (some ⟨g27, 0, none⟩)) (Oks Ft23_0) s26 (some ⟨g30, 0, none⟩) 8 8 (List.replicate 8 (0 : Int)) false t33 _ (hM.rd 0 rfl) hps26 (fun _ hb_ => ((Mem.oks (hM.as (H' := Gs [⟨.slice (some ⟨g30, 0, none⟩) 8 8, 5, 1, nums .u8 (List.replicate 8 (0 : Int))⟩, ⟨.slice (some ⟨g18, 0, none⟩) ((t16 : Int).toNat) ((t16 : Int).toNat), 5, 1, nums .u8 (List.replicate ((t16 : Int).toNat) (0 : Int))⟩, ⟨.slice A8 t7.length c10, 3, 1, nums .i64 t7⟩] [Ft23_0, Ft2_0]) rfl) 0 rfl).kept hb_)) ht33) ?_
                      rintro _ W32 ⟨A34, n35, c36, rfl, hM_⟩
                      obtain rfl : t33.1.length = n35 := by have h_ := (hM_.rd 0 rfl).1; simpa [nums_length, bools_length, strs_length] using h_
                      replace hM : Mem w W32 (Gs [⟨.slice A34 t33.1.length c36, 5, 1, nums .u8 t33.1⟩, ⟨.slice (some ⟨g30, 0, none⟩) 8 8, 5, 1, nums .u8 (List.replicate 8 (0 : Int))⟩, ⟨.slice (some ⟨g18, 0, none⟩) ((t16 : Int).toNat) ((t16 : Int).toNat), 5, 1, nums .u8 (List.replicate ((t16 : Int).toNat) (0 : Int))⟩, ⟨.slice A8 t7.length c10, 3, 1, nums .i64 t7⟩] [Ft23_0, Ft2_0]) := (Mem.callG (hM.as (H' := Gs [⟨.slice (some ⟨g30, 0, none⟩) 8 8, 5, 1, nums .u8 (List.replicate 8 (0 : Int))⟩, ⟨.slice (some ⟨g18, 0, none⟩) ((t16 : Int).toNat) ((t16 : Int).toNat), 5, 1, nums .u8 (List.replicate ((t16 : Int).toNat) (0 : Int))⟩, ⟨.slice A8 t7.length c10, 3, 1, nums .i64 t7⟩] [Ft23_0, Ft2_0]) rfl) hM_.grp).as rfl
                      clear hM_ ht33
                      refine RunF.go 10 [2, 3, 6, 42, 43] (k' := (pin Go.Proofs.Try.f12 [1, 1, 0, 1, 0, 0, 1, 0, 0, 1, 1, 1, 0] 2)) (L' := [(2, .int .i64 t2.2), (3, .int .i64 x3_0), (6, .slice A34 t33.1.length c36), (42, .pointer (some ⟨g27, 0, none⟩)), (43, .slice A34 t33.1.length c36)]) (w' := W32) (by kernel_rfl) ?_
                      obtain ⟨t39, ht39, h⟩ := Option.bind_eq_some_iff.mp h
                      refine RunF.call (d := some 44) (g := 18) (args := #[.pointer (some ⟨g27, 0, none⟩), .slice A34 t33.1.length c36, .bool true]) (k2 := (pin Go.Proofs.Try.f12 [1, 1, 0, 1, 0, 0, 1, 0, 0, 1, 1, 1, 0] 3)) (by kernel_rfl) (small_Small_Block.calls k (.pointer (some ⟨g27, 0, none⟩)) (Oks Ft23_0) s26 A34 t33.1.length c36 t33.1 true t39 _ (hM.rd 0 rfl) hps26 (fun _ hb_ => ((Mem.oks (hM.as (H' := Gs [⟨.slice A34 t33.1.length c36, 5, 1, nums .u8 t33.1⟩, ⟨.slice (some ⟨g30, 0, none⟩) 8 8, 5, 1, nums .u8 (List.replicate 8 (0 : Int))⟩, ⟨.slice (some ⟨g18, 0, none⟩) ((t16 : Int).toNat) ((t16 : Int).toNat), 5, 1, nums .u8 (List.replicate ((t16 : Int).toNat) (0 : Int))⟩, ⟨.slice A8 t7.length c10, 3, 1, nums .i64 t7⟩] [Ft23_0, Ft2_0]) rfl) 0 rfl).kept hb_)) ht39) ?_
                      rintro _ W38 ⟨A40, n41, c42, rfl, hM_⟩
                      obtain rfl : t39.1.length = n41 := by have h_ := (hM_.rd 0 rfl).1; simpa [nums_length, bools_length, strs_length] using h_
                      replace hM : Mem w W38 (Gs [⟨.slice A40 t39.1.length c42, 5, 1, nums .u8 t39.1⟩, ⟨.slice A34 t33.1.length c36, 5, 1, nums .u8 t33.1⟩, ⟨.slice (some ⟨g30, 0, none⟩) 8 8, 5, 1, nums .u8 (List.replicate 8 (0 : Int))⟩, ⟨.slice (some ⟨g18, 0, none⟩) ((t16 : Int).toNat) ((t16 : Int).toNat), 5, 1, nums .u8 (List.replicate ((t16 : Int).toNat) (0 : Int))⟩, ⟨.slice A8 t7.length c10, 3, 1, nums .i64 t7⟩] [Ft23_0, Ft2_0]) := (Mem.callG (hM.as (H' := Gs [⟨.slice A34 t33.1.length c36, 5, 1, nums .u8 t33.1⟩, ⟨.slice (some ⟨g30, 0, none⟩) 8 8, 5, 1, nums .u8 (List.replicate 8 (0 : Int))⟩, ⟨.slice (some ⟨g18, 0, none⟩) ((t16 : Int).toNat) ((t16 : Int).toNat), 5, 1, nums .u8 (List.replicate ((t16 : Int).toNat) (0 : Int))⟩, ⟨.slice A8 t7.length c10, 3, 1, nums .i64 t7⟩] [Ft23_0, Ft2_0]) rfl) hM_.grp).as rfl
                      clear hM_ ht39
                      refine RunF.go 7 [2, 3, 6, 8] (k' := (pl Go.Proofs.Try.f12 [1, 1, 0, 1, 0, 0, 1, 0, 0, 1, 1, 1, 1, 0])) (L' := [(2, .int .i64 t2.2), (3, .int .i64 x3_0), (6, .slice A34 t33.1.length c36), (8, .slice A40 t39.1.length c42)]) (w' := W38) (by kernel_rfl) ?_
                      refine RunF.draw (Still ({ W38 with drawn := W38.drawn + 1 } : World) []) (by kernel_rfl) (by kernel_rfl) ?_
                      have hMd45 := hM.drew
                      have hS := Still.refl ({ W38 with drawn := W38.drawn + 1 } : World) []
                      generalize ({ W38 with drawn := W38.drawn + 1 } : World) = W44 at hMd45 hS ⊢
                      replace hM := hMd45
                      refine RunAny.y 0 (by kernel_rfl) (yl_pure (d := some 47) (v := .slice A34 t33.1.length c36) (k2 := [.inRegion (opsOf (pl Go.Proofs.Try.f12 [1, 1, 0, 1, 0, 0, 1, 0, 0, 1, 1, 1, 1, 0])) []]) fun w => by kernel_rfl) (fun _ _ => trivial) hS ?_
                      refine RunAny.y 1 (by kernel_rfl) (yl_pure (d := some 48) (v := .int .i64 (t33.1.length : Int)) (k2 := [.inRegion (opsOf (pl Go.Proofs.Try.f12 [1, 1, 0, 1, 0, 0, 1, 0, 0, 1, 1, 1, 1, 0])) []]) fun w => by kernel_rfl) (fun _ _ => trivial) hS ?_
                      refine RunAny.y 2 (by kernel_rfl) (yl_pure (d := some 49) (v := .bool ((t33.1.length : Int) != 8)) (k2 := [.inRegion (opsOf (pl Go.Proofs.Try.f12 [1, 1, 0, 1, 0, 0, 1, 0, 0, 1, 1, 1, 1, 0])) []]) fun w => by kernel_rfl) (fun _ _ => trivial) hS ?_
                      refine RunAny.y 3 (by kernel_rfl) (yl_pure (d := some 50) (v := .bool ((t33.1.length : Int) != 8)) (k2 := [.inRegion (opsOf (pl Go.Proofs.Try.f12 [1, 1, 0, 1, 0, 0, 1, 0, 0, 1, 1, 1, 1, 0])) []]) fun w => by kernel_rfl) (fun _ _ => trivial) hS ?_
                      rcases two (((t33.1.length : Int) != 8)) with c46 | c46
                      · replace h := of_true h c46
                        refine RunAny.know 50 (b := true) (by kernel_rfl) c46 ?_
                        refine RunAny.off 4 (d := some 51) (by kernel_rfl) (by kernel_rfl) hS ?_
                        refine RunAny.off 5 (d := some 52) (by kernel_rfl) (by kernel_rfl) hS ?_
                        refine RunAny.off 6 (d := some 53) (by kernel_rfl) (by kernel_rfl) hS ?_
                        refine RunAny.off 7 (d := some 54) (by kernel_rfl) (by kernel_rfl) hS ?_
                        refine RunAny.off 8 (d := some 55) (by kernel_rfl) (by kernel_rfl) hS ?_
                        refine RunAny.y 9 (by kernel_rfl) (yl_pure (d := some 56) (v := .bool true) (k2 := [.inRegion (opsOf (pl Go.Proofs.Try.f12 [1, 1, 0, 1, 0, 0, 1, 0, 0, 1, 1, 1, 1, 0])) []]) fun w => by kernel_rfl) (fun _ _ => trivial) hS ?_
                        refine RunAny.y 10 (by kernel_rfl) (yl_pure (d := some 57) (v := .bool true) (k2 := [.inRegion (opsOf (pl Go.Proofs.Try.f12 [1, 1, 0, 1, 0, 0, 1, 0, 0, 1, 1, 1, 1, 0])) []]) fun w => by kernel_rfl) (fun _ _ => trivial) hS ?_
                        refine RunAny.off 11 (d := some 58) (by kernel_rfl) (by kernel_rfl) hS ?_
                        refine RunAny.off 12 (d := some 59) (by kernel_rfl) (by kernel_rfl) hS ?_
                        refine RunAny.off 13 (d := some 60) (by kernel_rfl) (by kernel_rfl) hS ?_
                        refine RunAny.off 14 (d := some 61) (by kernel_rfl) (by kernel_rfl) hS ?_
                        refine RunAny.off 15 (d := some 62) (by kernel_rfl) (by kernel_rfl) hS ?_
                        refine RunAny.y 16 (by kernel_rfl) (yl_pure (d := some 63) (v := .bool true) (k2 := [.inRegion (opsOf (pl Go.Proofs.Try.f12 [1, 1, 0, 1, 0, 0, 1, 0, 0, 1, 1, 1, 1, 0])) []]) fun w => by kernel_rfl) (fun _ _ => trivial) hS ?_
                        refine RunAny.done (by kernel_rfl) ?_
                        clear hS
                        refine RunF.go 5 [0] (k' := (pl Go.Proofs.Try.f12 [1, 1, 0, 1, 0, 0, 1, 0, 0, 1, 1, 1, 1, 1, 0, 1])) (L' := [(0, .bool false)]) (w' := W44) (by kernel_rfl) ?_
                        obtain rfl := Option.some.inj h
                        exact RunF.ret1 0 (.bool false) (fn := Go.Proofs.Try.f12) Go.Proofs.Try.func12 (by kernel_rfl) (by kernel_rfl) (by kernel_rfl) ⟨_, rfl, rfl, (Mem.pickF (hM.as (H' := Gs [⟨.slice A40 t39.1.length c42, 5, 1, nums .u8 t39.1⟩, ⟨.slice A34 t33.1.length c36, 5, 1, nums .u8 t33.1⟩, ⟨.slice (some ⟨g30, 0, none⟩) 8 8, 5, 1, nums .u8 (List.replicate 8 (0 : Int))⟩, ⟨.slice (some ⟨g18, 0, none⟩) ((t16 : Int).toNat) ((t16 : Int).toNat), 5, 1, nums .u8 (List.replicate ((t16 : Int).toNat) (0 : Int))⟩, ⟨.slice A8 t7.length c10, 3, 1, nums .i64 t7⟩] [Ft23_0, Ft2_0]) rfl) [] rfl rfl rfl).ungrp⟩
                      · replace h := of_false h c46
                        refine RunAny.know 50 (b := false) (by kernel_rfl) c46 ?_
                        refine RunAny.y 4 (by kernel_rfl) (yl_pure (d := some 51) (v := .slice A34 t33.1.length c36) (k2 := [.inRegion (opsOf (pl Go.Proofs.Try.f12 [1, 1, 0, 1, 0, 0, 1, 0, 0, 1, 1, 1, 1, 0])) []]) fun w => by kernel_rfl) (fun _ _ => trivial) hS ?_
                        refine RunAny.y 5 (by kernel_rfl) (str_y (d := some 52) (A := A34) (m := t33.1.length) (c := c36) (k2 := [.inRegion (opsOf (pl Go.Proofs.Try.f12 [1, 1, 0, 1, 0, 0, 1, 0, 0, 1, 1, 1, 1, 0])) []]) t33.1 (by kernel_rfl)) (fun _ hs => ((hM.rd 1 rfl).still hs (by simp))) hS ?_
                        refine RunAny.y 6 (by kernel_rfl) (yl_pure (d := some 53) (v := .slice A40 t39.1.length c42) (k2 := [.inRegion (opsOf (pl Go.Proofs.Try.f12 [1, 1, 0, 1, 0, 0, 1, 0, 0, 1, 1, 1, 1, 0])) []]) fun w => by kernel_rfl) (fun _ _ => trivial) hS ?_
                        refine RunAny.y 7 (by kernel_rfl) (str_y (d := some 54) (A := A40) (m := t39.1.length) (c := c42) (k2 := [.inRegion (opsOf (pl Go.Proofs.Try.f12 [1, 1, 0, 1, 0, 0, 1, 0, 0, 1, 1, 1, 1, 0])) []]) t39.1 (by kernel_rfl)) (fun _ hs => ((hM.rd 0 rfl).still hs (by simp))) hS ?_
                        refine RunAny.y 8 (by kernel_rfl) (yl_pure (d := some 55) (v := .bool ((strOf t33.1).toList == (strOf t39.1).toList)) (k2 := [.inRegion (opsOf (pl Go.Proofs.Try.f12 [1, 1, 0, 1, 0, 0, 1, 0, 0, 1, 1, 1, 1, 0])) []]) fun w => by kernel_rfl) (fun _ _ => trivial) hS ?_
                        refine RunAny.y 9 (by kernel_rfl) (yl_pure (d := some 56) (v := .bool ((strOf t33.1).toList == (strOf t39.1).toList)) (k2 := [.inRegion (opsOf (pl Go.Proofs.Try.f12 [1, 1, 0, 1, 0, 0, 1, 0, 0, 1, 1, 1, 1, 0])) []]) fun w => by kernel_rfl) (fun _ _ => trivial) hS ?_
                        refine RunAny.y 10 (by kernel_rfl) (yl_pure (d := some 57) (v := .bool ((strOf t33.1).toList == (strOf t39.1).toList)) (k2 := [.inRegion (opsOf (pl Go.Proofs.Try.f12 [1, 1, 0, 1, 0, 0, 1, 0, 0, 1, 1, 1, 1, 0])) []]) fun w => by kernel_rfl) (fun _ _ => trivial) hS ?_
                        rcases two (((strOf t33.1).toList == (strOf t39.1).toList)) with c47 | c47
                        · replace h := of_true h c47
                          refine RunAny.know 57 (b := true) (by kernel_rfl) c47 ?_
                          refine RunAny.off 11 (d := some 58) (by kernel_rfl) (by kernel_rfl) hS ?_
                          refine RunAny.off 12 (d := some 59) (by kernel_rfl) (by kernel_rfl) hS ?_
                          refine RunAny.off 13 (d := some 60) (by kernel_rfl) (by kernel_rfl) hS ?_
                          refine RunAny.off 14 (d := some 61) (by kernel_rfl) (by kernel_rfl) hS ?_
                          refine RunAny.off 15 (d := some 62) (by kernel_rfl) (by kernel_rfl) hS ?_
                          refine RunAny.y 16 (by kernel_rfl) (yl_pure (d := some 63) (v := .bool true) (k2 := [.inRegion (opsOf (pl Go.Proofs.Try.f12 [1, 1, 0, 1, 0, 0, 1, 0, 0, 1, 1, 1, 1, 0])) []]) fun w => by kernel_rfl) (fun _ _ => trivial) hS ?_
                          refine RunAny.done (by kernel_rfl) ?_
                          clear hS
                          refine RunF.go 5 [0] (k' := (pl Go.Proofs.Try.f12 [1, 1, 0, 1, 0, 0, 1, 0, 0, 1, 1, 1, 1, 1, 0, 1])) (L' := [(0, .bool false)]) (w' := W44) (by kernel_rfl) ?_
                          obtain rfl := Option.some.inj h
                          exact RunF.ret1 0 (.bool false) (fn := Go.Proofs.Try.f12) Go.Proofs.Try.func12 (by kernel_rfl) (by kernel_rfl) (by kernel_rfl) ⟨_, rfl, rfl, (Mem.pickF (hM.as (H' := Gs [⟨.slice A40 t39.1.length c42, 5, 1, nums .u8 t39.1⟩, ⟨.slice A34 t33.1.length c36, 5, 1, nums .u8 t33.1⟩, ⟨.slice (some ⟨g30, 0, none⟩) 8 8, 5, 1, nums .u8 (List.replicate 8 (0 : Int))⟩, ⟨.slice (some ⟨g18, 0, none⟩) ((t16 : Int).toNat) ((t16 : Int).toNat), 5, 1, nums .u8 (List.replicate ((t16 : Int).toNat) (0 : Int))⟩, ⟨.slice A8 t7.length c10, 3, 1, nums .i64 t7⟩] [Ft23_0, Ft2_0]) rfl) [] rfl rfl rfl).ungrp⟩
                        · replace h := of_false h c47
                          refine RunAny.know 57 (b := false) (by kernel_rfl) c47 ?_
                          refine RunAny.y 11 (by kernel_rfl) (yl_pure (d := some 58) (v := .slice A40 t39.1.length c42) (k2 := [.inRegion (opsOf (pl Go.Proofs.Try.f12 [1, 1, 0, 1, 0, 0, 1, 0, 0, 1, 1, 1, 1, 0])) []]) fun w => by kernel_rfl) (fun _ _ => trivial) hS ?_
                          refine RunAny.y 12 (by kernel_rfl) (str_y (d := some 59) (A := A40) (m := t39.1.length) (c := c42) (k2 := [.inRegion (opsOf (pl Go.Proofs.Try.f12 [1, 1, 0, 1, 0, 0, 1, 0, 0, 1, 1, 1, 1, 0])) []]) t39.1 (by kernel_rfl)) (fun _ hs => ((hM.rd 0 rfl).still hs (by simp))) hS ?_
                          obtain ⟨W48, hD, hM', hB_⟩ := mk_does (P := Go.Proofs.Try.prog) (n := 66) (k := (one (opsOf (pl Go.Proofs.Try.f12 [1, 1, 0, 1, 0, 0, 1, 0, 0, 1, 1, 1, 1, 0])) 13)) (L := (upd (upd (known (upd (upd (upd (upd (upd (upd (upd (known (upd (upd (upd (upd [(2, .int .i64 t2.2), (3, .int .i64 x3_0), (6, .slice A34 t33.1.length c36), (8, .slice A40 t39.1.length c42)] (some 47) (.slice A34 t33.1.length c36)) (some 48) (.int .i64 (t33.1.length : Int))) (some 49) (.bool ((t33.1.length : Int) != 8))) (some 50) (.bool ((t33.1.length : Int) != 8))) 50 false) (some 51) (.slice A34 t33.1.length c36)) (some 52) (.string (strOf t33.1))) (some 53) (.slice A40 t39.1.length c42)) (some 54) (.string (strOf t39.1))) (some 55) (.bool ((strOf t33.1).toList == (strOf t39.1).toList))) (some 56) (.bool ((strOf t33.1).toList == (strOf t39.1).toList))) (some 57) (.bool ((strOf t33.1).toList == (strOf t39.1).toList))) 57 false) (some 58) (.slice A40 t39.1.length c42)) (some 59) (.string (strOf t39.1)))) (d := some 60) (e := 5) (z := .int .u8 0) (l := 8) (c := 8) (k2 := [.inRegion (opsOf (pl Go.Proofs.Try.f12 [1, 1, 0, 1, 0, 0, 1, 0, 0, 1, 1, 1, 1, 0])) []]) (by kernel_rfl) (by omega) (by omega) (by omega) hM
                          rw [rep_nums] at hM'
                          refine RunAny.does 13 (by kernel_rfl) hD (hS.below hB_) ?_
                          replace hS := hS.below hB_; clear hB_
                          replace hM := hM'; clear hD hM'
                          generalize W44.heap.size = g49 at hM ⊢
                          refine RunAny.rebase hS ?_
                          replace hS := Still.refl W48 []
                          refine RunAny.y 14 (by kernel_rfl) (str_y (d := some 61) (A := (some ⟨g49, 0, none⟩)) (m := 8) (c := 8) (k2 := [.inRegion (opsOf (pl Go.Proofs.Try.f12 [1, 1, 0, 1, 0, 0, 1, 0, 0, 1, 1, 1, 1, 0])) []]) (List.replicate 8 (0 : Int)) (by kernel_rfl)) (fun _ hs => ((hM.rd 0 rfl).still hs (by simp))) hS ?_
                          refine RunAny.y 15 (by kernel_rfl) (yl_pure (d := some 62) (v := .bool (!((strOf t39.1).toList == (strOf (List.replicate 8 (0 : Int))).toList))) (k2 := [.inRegion (opsOf (pl Go.Proofs.Try.f12 [1, 1, 0, 1, 0, 0, 1, 0, 0, 1, 1, 1, 1, 0])) []]) fun w => by kernel_rfl) (fun _ _ => trivial) hS ?_
                          refine RunAny.y 16 (by kernel_rfl) (yl_pure (d := some 63) (v := .bool (!((strOf t39.1).toList == (strOf (List.replicate 8 (0 : Int))).toList))) (k2 := [.inRegion (opsOf (pl Go.Proofs.Try.f12 [1, 1, 0, 1, 0, 0, 1, 0, 0, 1, 1, 1, 1, 0])) []]) fun w => by kernel_rfl) (fun _ _ => trivial) hS ?_
                          refine RunAny.done (by kernel_rfl) ?_
                          clear hS
                          obtain ⟨y51, hy, h⟩ := Option.bind_eq_some_iff.mp h
                          rw [show (((strOf t33.1).toList == (strOf t39.1).toList)) = y51 from Option.some.inj hy]
                          clear hy
                          obtain ⟨y52, hy, h⟩ := Option.bind_eq_some_iff.mp h
                          rw [show (!((strOf t39.1).toList == (strOf (List.replicate 8 (0 : Int))).toList)) = y52 from Option.some.inj hy]
                          clear hy
                          rcases two (y52) with c53 | c53
                          · replace h := of_true h c53
                            refine RunF.know 63 (b := true) (by kernel_rfl) c53 ?_
                            refine RunF.go 5 [0] (k' := (pl Go.Proofs.Try.f12 [1, 1, 0, 1, 0, 0, 1, 0, 0, 1, 1, 1, 1, 1, 0, 1])) (L' := [(0, .bool false)]) (w' := W48) (by kernel_rfl) ?_
                            obtain rfl := Option.some.inj h
                            exact RunF.ret1 0 (.bool false) (fn := Go.Proofs.Try.f12) Go.Proofs.Try.func12 (by kernel_rfl) (by kernel_rfl) (by kernel_rfl) ⟨_, rfl, rfl, (Mem.pickF (hM.as (H' := Gs [⟨.slice (some ⟨g49, 0, none⟩) 8 8, 5, 1, nums .u8 (List.replicate 8 (0 : Int))⟩, ⟨.slice A40 t39.1.length c42, 5, 1, nums .u8 t39.1⟩, ⟨.slice A34 t33.1.length c36, 5, 1, nums .u8 t33.1⟩, ⟨.slice (some ⟨g30, 0, none⟩) 8 8, 5, 1, nums .u8 (List.replicate 8 (0 : Int))⟩, ⟨.slice (some ⟨g18, 0, none⟩) ((t16 : Int).toNat) ((t16 : Int).toNat), 5, 1, nums .u8 (List.replicate ((t16 : Int).toNat) (0 : Int))⟩, ⟨.slice A8 t7.length c10, 3, 1, nums .i64 t7⟩] [Ft23_0, Ft2_0]) rfl) [] rfl rfl rfl).ungrp⟩
                          · replace h := of_false h c53
                            refine RunF.know 63 (b := false) (by kernel_rfl) c53 ?_
                            refine RunF.go 9 [2, 3] (k' := (pl Go.Proofs.Try.f12 [1, 1, 0, 1, 0, 0])) (L' := [(2, .int .i64 t2.2), (3, .int .i64 (I64 (x3_0 + 1)))]) (w' := W48) (by kernel_rfl) ?_
                            exact ih0 k (by omega) (I64 (x3_0 + 1)) _ (Mem.pickF (hM.as (H' := Gs [⟨.slice (some ⟨g49, 0, none⟩) 8 8, 5, 1, nums .u8 (List.replicate 8 (0 : Int))⟩, ⟨.slice A40 t39.1.length c42, 5, 1, nums .u8 t39.1⟩, ⟨.slice A34 t33.1.length c36, 5, 1, nums .u8 t33.1⟩, ⟨.slice (some ⟨g30, 0, none⟩) 8 8, 5, 1, nums .u8 (List.replicate 8 (0 : Int))⟩, ⟨.slice (some ⟨g18, 0, none⟩) ((t16 : Int).toNat) ((t16 : Int).toNat), 5, 1, nums .u8 (List.replicate ((t16 : Int).toNat) (0 : Int))⟩, ⟨.slice A8 t7.length c10, 3, 1, nums .i64 t7⟩] [Ft23_0, Ft2_0]) rfl) [7] rfl rfl rfl) h
                    · replace h := of_false h c25
                      obtain rfl := rOpt.none hRt23_0 c25
                      refine RunF.go 8 [0] (k' := (pl Go.Proofs.Try.f12 [1, 1, 0, 1, 0, 0, 1, 0, 0, 1, 0, 1, 0, 1])) (L' := [(0, .bool false)]) (w' := W22) (by kernel_rfl) ?_
                      obtain rfl := Option.some.inj h
                      exact RunF.ret1 0 (.bool false) (fn := Go.Proofs.Try.f12) Go.Proofs.Try.func12 (by kernel_rfl) (by kernel_rfl) (by kernel_rfl) ⟨_, rfl, rfl, (Mem.pickF (hM.as (H' := Gs [⟨.slice (some ⟨g18, 0, none⟩) ((t16 : Int).toNat) ((t16 : Int).toNat), 5, 1, nums .u8 (List.replicate ((t16 : Int).toNat) (0 : Int))⟩, ⟨.slice A8 t7.length c10, 3, 1, nums .i64 t7⟩] [Ft23_0, Ft2_0]) rfl) [] rfl rfl rfl).ungrp⟩
                · replace h := of_false h c20
                  cases h
              · replace h := of_false h c19
                cases h
            · replace h := of_false h c14
              cases h
          · replace h := of_false h c13
            cases h
        · replace h := of_false h c3
          refine RunF.know 15 (b := false) (by kernel_rfl) c3 ?_
          refine RunF.go 8 [0] (k' := (pl Go.Proofs.Try.f12 [1, 1, 1, 1])) (L' := [(0, .bool (t2.2 == 2))]) (w' := W) (by kernel_rfl) ?_
          obtain rfl := Option.some.inj h
          exact RunF.ret1 0 (.bool (t2.2 == 2)) (fn := Go.Proofs.Try.f12) Go.Proofs.Try.func12 (by kernel_rfl) (by kernel_rfl) (by kernel_rfl) ⟨_, rfl, rfl, (Mem.pickF (hM.as (H' := Gs [] [Ft2_0]) rfl) [] rfl rfl rfl).ungrp⟩
  exact l0 k (Nat.le_refl _) 0 _ (Mem.pickF (hM.as (H' := Gs [] [Ft2_0]) rfl) [0] rfl rfl rfl) h

/-! ### scrim/scrimlaw8.Bytes: function 13 -/
def scrimlaw8_Bytes.l0 : Nat → Int → (List Int) → Int → Option (List Int)
  | 0, _, _, _ => none
  | k + 1, a0, x5_0, x6_0 => if (decide (x6_0 < a0)) = true then (if (decide (0 ≤ x6_0)) = true then (if (decide (x6_0 < ((a0 : Int).toNat : Int))) = true then (scrimlaw8_Bytes.l0 k a0 (x5_0.set (x6_0 : Int).toNat (U8 (I64 (x6_0 * 37)))) (I64 (x6_0 + 1))) else (none)) else (none)) else (some x5_0)
def scrimlaw8_Bytes.f (k : Nat) (a0 : Int) (a1 : List Int) : Option (List Int) := if (decide (0 ≤ a0)) = true then (if (decide (a0 ≤ 1000000000)) = true then (scrimlaw8_Bytes.l0 k a0 (a1.take (List.replicate ((a0 : Int).toNat) (0 : Int)).length ++ (List.replicate ((a0 : Int).toNat) (0 : Int)).drop a1.length) (a1.length : Int)) else (none)) else (none)
set_option maxRecDepth 100000 in
theorem scrimlaw8_Bytes.calls (k : Nat) (a0 : Int) (Ap1 : Option Addr) (np1 cp1 : Nat) (a1 : List Int) (r : List Int) (w : World) (hr1 : Rd w (.slice Ap1 np1 cp1) (nums .u8 a1)) (h : scrimlaw8_Bytes.f k a0 a1 = some r) :
    Calls Go.Proofs.Try.prog 13 #[.int .i64 a0, (.slice Ap1 np1 cp1)] w (Ret fun v w' => ∃ A0' n0' c0', v = .slice A0' n0' c0' ∧ Mem w w' [⟨.slice A0' n0' c0', 5, 1, nums .u8 r⟩]) := by
  obtain rfl : a1.length = np1 := by have h_ := hr1.1; simpa [nums_length, bools_length, strs_length] using h_
  unfold scrimlaw8_Bytes.f at h
  refine calls_of [.int .i64 a0, .slice Ap1 a1.length cp1] (fn := Go.Proofs.Try.f13) Go.Proofs.Try.func13 (by kernel_rfl) (by kernel_rfl) ?_
  have hM := Mem.refl w
  refine RunF.go 7 [0, 1, 7] (k' := (pin Go.Proofs.Try.f13 [1, 0] 1)) (L' := [(0, .int .i64 a0), (1, .slice Ap1 a1.length cp1), (7, .int .i64 a0)]) (w' := w) (by kernel_rfl) ?_
  rcases two (decide (0 ≤ a0)) with c3 | c3
  · replace h := of_true h c3
    rcases two (decide (a0 ≤ 1000000000)) with c4 | c4
    · replace h := of_true h c4
      have := of_decide_eq_true c3
      have := of_decide_eq_true c4
      obtain ⟨W1, hD, hM', hB_⟩ := mk_does (P := Go.Proofs.Try.prog) (n := 26) (k := (pin Go.Proofs.Try.f13 [1, 0] 1)) (L := [(0, .int .i64 a0), (1, .slice Ap1 a1.length cp1), (7, .int .i64 a0)]) (d := some 8) (e := 5) (z := .int .u8 0) (l := a0) (c := a0) (k2 := (pin Go.Proofs.Try.f13 [1, 0] 2)) (by kernel_rfl) (by omega) (by omega) (by omega) hM
      rw [rep_nums] at hM'
      refine RunF.does hD ?_
      replace hM := hM'; clear hD hM'
      generalize w.heap.size = g2 at hM ⊢
      refine RunF.go 6 [0, 1, 5, 9, 10] (k' := (pin Go.Proofs.Try.f13 [1, 1, 0] 2)) (L' := [(0, .int .i64 a0), (1, .slice Ap1 a1.length cp1), (5, .slice (some ⟨g2, 0, none⟩) ((a0 : Int).toNat) ((a0 : Int).toNat)), (9, .slice (some ⟨g2, 0, none⟩) ((a0 : Int).toNat) ((a0 : Int).toNat)), (10, .slice Ap1 a1.length cp1)]) (w' := W1) (by kernel_rfl) ?_
      obtain ⟨W6, hD, hM', hS_⟩ := cp_does (P := Go.Proofs.Try.prog) (n := 26) (k := (pin Go.Proofs.Try.f13 [1, 1, 0] 2)) (L := [(0, .int .i64 a0), (1, .slice Ap1 a1.length cp1), (5, .slice (some ⟨g2, 0, none⟩) ((a0 : Int).toNat) ((a0 : Int).toNat)), (9, .slice (some ⟨g2, 0, none⟩) ((a0 : Int).toNat) ((a0 : Int).toNat)), (10, .slice Ap1 a1.length cp1)]) (d := some 11) (ty := 5) (A := (some ⟨g2, 0, none⟩)) (m := (a0 : Int).toNat) (c := (a0 : Int).toNat) (A2 := Ap1) (m2 := a1.length) (c2 := cp1) (cs := nums .u8 (List.replicate ((a0 : Int).toNat) (0 : Int))) (ys := nums .u8 a1) (k2 := (pin Go.Proofs.Try.f13 [1, 1, 0] 3)) [] [] (by kernel_rfl) (hM.pick [0] rfl rfl) (hr1.mono hM.below) (one_nums _ _)
      simp only [nums_length, nums_take, nums_drop, nums_append] at hM'
      refine RunF.does hD ?_
      replace hM := hM'; clear hM' hD hS_
      refine RunF.go 10 [0, 5, 6] (k' := (pl Go.Proofs.Try.f13 [1, 1, 1, 0, 1, 0, 0])) (L' := [(0, .int .i64 a0), (5, .slice (some ⟨g2, 0, none⟩) ((a0 : Int).toNat) ((a0 : Int).toNat)), (6, .int .i64 (a1.length : Int))]) (w' := W6) (by kernel_rfl) ?_
      have l0 : ∀ (k_ : Nat), k_ ≤ k → ∀ (x5_0 : List Int) (x6_0 : Int) (W : World) (hM : Mem w W [⟨.slice (some ⟨g2, 0, none⟩) ((a0 : Int).toNat) ((a0 : Int).toNat), 5, 1, nums .u8 x5_0⟩]) (h : scrimlaw8_Bytes.l0 k_ a0 x5_0 x6_0 = some r), RunF Go.Proofs.Try.prog (Ret fun v w' => ∃ A0' n0' c0', v = .slice A0' n0' c0' ∧ Mem w w' [⟨.slice A0' n0' c0', 5, 1, nums .u8 r⟩]) 13 (pl Go.Proofs.Try.f13 [1, 1, 1, 0, 1, 0, 0]) 26 [(0, .int .i64 a0), (5, .slice (some ⟨g2, 0, none⟩) ((a0 : Int).toNat) ((a0 : Int).toNat)), (6, .int .i64 x6_0)] W := by
        intro k_
        induction k_ using Nat.strongRecOn with
        | _ k_ ih0 =>
          intro hk x5_0 x6_0 W hM h
          cases k_ with
          | zero => exact absurd h (by simp [scrimlaw8_Bytes.l0])
          | succ k =>
            simp only [scrimlaw8_Bytes.l0] at h
            replace ih0 : ∀ m, m ≤ k → _ := fun m hm => ih0 m (by omega) (by omega)
            refine RunF.go 7 [0, 5, 6, 16] (k' := (pl Go.Proofs.Try.f13 [1, 1, 1, 0, 1, 0, 0, 0, 1])) (L' := [(0, .int .i64 a0), (5, .slice (some ⟨g2, 0, none⟩) ((a0 : Int).toNat) ((a0 : Int).toNat)), (6, .int .i64 x6_0), (16, .bool (decide (x6_0 < a0)))]) (w' := W) (by kernel_rfl) ?_
            rcases two (decide (x6_0 < a0)) with c7 | c7
            · replace h := of_true h c7
              refine RunF.know 16 (b := true) (by kernel_rfl) c7 ?_
              refine RunF.go 10 [0, 5, 6, 19, 20, 23] (k' := (pin Go.Proofs.Try.f13 [1, 1, 1, 0, 1, 0, 0, 1, 0, 0] 5)) (L' := [(0, .int .i64 a0), (5, .slice (some ⟨g2, 0, none⟩) ((a0 : Int).toNat) ((a0 : Int).toNat)), (6, .int .i64 x6_0), (19, .slice (some ⟨g2, 0, none⟩) ((a0 : Int).toNat) ((a0 : Int).toNat)), (20, .int .i64 x6_0), (23, .int .u8 (U8 (I64 (x6_0 * 37))))]) (w' := W) (by kernel_rfl) ?_
              rcases two (decide (0 ≤ x6_0)) with c9 | c9
              · replace h := of_true h c9
                rcases two (decide (x6_0 < ((a0 : Int).toNat : Int))) with c10 | c10
                · replace h := of_true h c10
                  obtain ⟨q8, hAq8, hcq8, hfq8, hlq8⟩ := hM.num_at 0 rfl (i := x6_0) (of_decide_eq_true c9) (by have h_ := of_decide_eq_true c10; omega)
                  refine RunF.y (idx_own (d := some 24) (A := (some ⟨g2, 0, none⟩)) (m := (a0 : Int).toNat) (i := x6_0) (k2 := (pin Go.Proofs.Try.f13 [1, 1, 1, 0, 1, 0, 0, 1, 0, 0] 6)) (by kernel_rfl) (of_decide_eq_true c9) (by have h_ := of_decide_eq_true c10; omega) hAq8) trivial ?_
                  obtain ⟨g_, hA_, hc_, hf_, hl_⟩ := hM.num_at 0 rfl (i := x6_0) (of_decide_eq_true c9) (by have h_ := of_decide_eq_true c10; omega)
                  obtain rfl : q8 = g_ := by rw [hAq8] at hA_; injection hA_ with hA_; injection hA_
                  refine RunF.doesU (st_u (p := (⟨q8, (x6_0 : Int).toNat, none⟩ : Addr)) (v := .int .u8 (U8 (I64 (x6_0 * 37)))) (k2 := (pin Go.Proofs.Try.f13 [1, 1, 1, 0, 1, 0, 0, 1, 0, 0] 7)) (by kernel_rfl) hc_ hf_) ?_
                  replace hM : Mem w (W.setCell (⟨q8, (x6_0 : Int).toNat, none⟩ : Addr) (.int .u8 (U8 (I64 (x6_0 * 37))))) [⟨.slice (some ⟨g2, 0, none⟩) ((a0 : Int).toNat) ((a0 : Int).toNat), 5, 1, nums .u8 (x5_0.set (x6_0 : Int).toNat (U8 (I64 (x6_0 * 37))))⟩] := Mem.put_num [] [] (hM.pick [0] rfl rfl) hAq8 _ hl_ _
                  generalize W.setCell (⟨q8, (x6_0 : Int).toNat, none⟩ : Addr) (.int .u8 (U8 (I64 (x6_0 * 37)))) = W11 at hM ⊢
                  clear hc_ hf_ hl_ hA_ hcq8
                  refine RunF.go 8 [0, 5, 6] (k' := (pl Go.Proofs.Try.f13 [1, 1, 1, 0, 1, 0, 0])) (L' := [(0, .int .i64 a0), (5, .slice (some ⟨g2, 0, none⟩) ((a0 : Int).toNat) ((a0 : Int).toNat)), (6, .int .i64 (I64 (x6_0 + 1)))]) (w' := W11) (by kernel_rfl) ?_
                  exact ih0 k (by omega) (x5_0.set (x6_0 : Int).toNat (U8 (I64 (x6_0 * 37)))) (I64 (x6_0 + 1)) _ (hM.pick [0] rfl rfl) h
                · replace h := of_false h c10
                  cases h
              · replace h := of_false h c9
                cases h
            · replace h := of_false h c7
              refine RunF.know 16 (b := false) (by kernel_rfl) c7 ?_
              refine RunF.go 7 [4] (k' := (pl Go.Proofs.Try.f13 [1, 1, 1, 1, 1])) (L' := [(4, .slice (some ⟨g2, 0, none⟩) ((a0 : Int).toNat) ((a0 : Int).toNat))]) (w' := W) (by kernel_rfl) ?_
              obtain rfl := Option.some.inj h
              exact RunF.ret1 4 (.slice (some ⟨g2, 0, none⟩) ((a0 : Int).toNat) ((a0 : Int).toNat)) (fn := Go.Proofs.Try.f13) Go.Proofs.Try.func13 (by kernel_rfl) (by kernel_rfl) (by kernel_rfl) ⟨_, rfl, (some ⟨g2, 0, none⟩), (a0 : Int).toNat, (a0 : Int).toNat, rfl, (hM.pick [0] rfl rfl)⟩
      exact l0 k (Nat.le_refl _) (a1.take (List.replicate ((a0 : Int).toNat) (0 : Int)).length ++ (List.replicate ((a0 : Int).toNat) (0 : Int)).drop a1.length) (a1.length : Int) _ (hM.pick [0] rfl rfl) h
    · replace h := of_false h c4
      cases h
  · replace h := of_false h c3
    cases h

/-! ### scrim/scrimref1.rest: function 44 -/
def scrimref1_rest.f (k : Nat) (a0 : Int) (a1 : Int) : Option (Int) := if (decide (a1 = 0)) = true then (none) else (if (decide (a1 = 0)) = true then (none) else (some (Int.tmod (I64 ((Int.tmod a0 a1) + a1)) a1)))
set_option maxRecDepth 100000 in
theorem scrimref1_rest.calls (k : Nat) (a0 : Int) (a1 : Int) (r : Int) (w : World) (h : scrimref1_rest.f k a0 a1 = some r) :
    Calls Go.Proofs.Try.prog 44 #[.int .i64 a0, .int .i64 a1] w (Ret fun v w' => v = .int .i64 r ∧ Mem w w' []) := by
  unfold scrimref1_rest.f at h
  refine calls_of [.int .i64 a0, .int .i64 a1] (fn := Go.Proofs.Try.f44) Go.Proofs.Try.func44 (by kernel_rfl) (by kernel_rfl) ?_
  have hM := Mem.refl w
  refine RunF.go 8 [1, 5, 6] (k' := (pin Go.Proofs.Try.f44 [1, 0] 2)) (L' := [(1, .int .i64 a1), (5, .int .i64 a0), (6, .int .i64 a1)]) (w' := w) (by kernel_rfl) ?_
  rcases two (decide (a1 = 0)) with c1 | c1
  · replace h := of_true h c1
    cases h
  · replace h := of_false h c1
    refine RunF.y (div_y (d := some 7) (b := false) (kd := .i64) (x := a0) (y := a1) (k2 := (pin Go.Proofs.Try.f44 [1, 0] 3)) (by kernel_rfl) c1) trivial ?_
    refine RunF.go 3 [9, 10] (k' := (pin Go.Proofs.Try.f44 [1, 0] 6)) (L' := [(9, .int .i64 (I64 ((Int.tmod a0 a1) + a1))), (10, .int .i64 a1)]) (w' := w) (by kernel_rfl) ?_
    rcases two (decide (a1 = 0)) with c2 | c2
    · replace h := of_true h c2
      cases h
    · replace h := of_false h c2
      refine RunF.y (div_y (d := some 11) (b := false) (kd := .i64) (x := I64 ((Int.tmod a0 a1) + a1)) (y := a1) (k2 := (pin Go.Proofs.Try.f44 [1, 0] 7)) (by kernel_rfl) c2) trivial ?_
      refine RunF.go 2 [4] (k' := (pl Go.Proofs.Try.f44 [1, 1])) (L' := [(4, .int .i64 (Int.tmod (I64 ((Int.tmod a0 a1) + a1)) a1))]) (w' := w) (by kernel_rfl) ?_
      obtain rfl := Option.some.inj h
      exact RunF.ret1 4 (.int .i64 (Int.tmod (I64 ((Int.tmod a0 a1) + a1)) a1)) (fn := Go.Proofs.Try.f44) Go.Proofs.Try.func44 (by kernel_rfl) (by kernel_rfl) (by kernel_rfl) ⟨_, rfl, rfl, (hM.pick [] rfl rfl)⟩

/-! ### scrim/scrimref1.Rol32: function 25 -/
def scrimref1_Rol32.f (k : Nat) (a0 : Int) (a1 : Int) : Option (Int) := (scrimref1_rest.f k a1 32).bind fun t2 => (if (decide (0 ≤ (U64 (t2)))) = true then (if (decide (0 ≤ (U64 (32 - (U64 (t2)))))) = true then (some (bor .u32 (shlv .u32 a0 (U64 (t2))) (shrv .u32 a0 (U64 (32 - (U64 (t2))))))) else (none)) else (none))
set_option maxRecDepth 100000 in
theorem scrimref1_Rol32.calls (k : Nat) (a0 : Int) (a1 : Int) (r : Int) (w : World) (h : scrimref1_Rol32.f k a0 a1 = some r) :
    Calls Go.Proofs.Try.prog 25 #[.int .u32 a0, .int .i64 a1] w (Ret fun v w' => v = .int .u32 r ∧ Mem w w' []) := by
  unfold scrimref1_Rol32.f at h
  refine calls_of [.int .u32 a0, .int .i64 a1] (fn := Go.Proofs.Try.f25) Go.Proofs.Try.func25 (by kernel_rfl) (by kernel_rfl) ?_
  have hM := Mem.refl w
  refine RunF.go 7 [0, 6] (k' := (pin Go.Proofs.Try.f25 [1, 0] 1)) (L' := [(0, .int .u32 a0), (6, .int .i64 a1)]) (w' := w) (by kernel_rfl) ?_
  obtain ⟨t2, ht2, h⟩ := Option.bind_eq_some_iff.mp h
  refine RunF.call (d := some 7) (g := 44) (args := #[.int .i64 a1, .int .i64 32]) (k2 := (pin Go.Proofs.Try.f25 [1, 0] 2)) (by kernel_rfl) (scrimref1_rest.calls k a1 32 t2 _ ht2) ?_
  rintro _ W1 ⟨rfl, hM_⟩
  replace hM := hM.call hM_
  clear hM_ ht2
  refine RunF.go 7 [0, 5, 9, 10] (k' := (pin Go.Proofs.Try.f25 [1, 1, 0] 2)) (L' := [(0, .int .u32 a0), (5, .int .u64 (U64 (t2))), (9, .int .u32 a0), (10, .int .u64 (U64 (t2)))]) (w' := W1) (by kernel_rfl) ?_
  rcases two (decide (0 ≤ (U64 (t2)))) with c3 | c3
  · replace h := of_true h c3
    refine RunF.y (sh_y (d := some 11) (b := true) (kd := .u32) (x := a0) (y := U64 (t2)) (k2 := (pin Go.Proofs.Try.f25 [1, 1, 0] 3)) (by kernel_rfl) c3) trivial ?_
    refine RunF.go 3 [11, 12, 14] (k' := (pin Go.Proofs.Try.f25 [1, 1, 0] 6)) (L' := [(11, .int .u32 (shlv .u32 a0 (U64 (t2)))), (12, .int .u32 a0), (14, .int .u64 (U64 (32 - (U64 (t2)))))]) (w' := W1) (by kernel_rfl) ?_
    rcases two (decide (0 ≤ (U64 (32 - (U64 (t2)))))) with c4 | c4
    · replace h := of_true h c4
      refine RunF.y (sh_y (d := some 15) (b := false) (kd := .u32) (x := a0) (y := U64 (32 - (U64 (t2)))) (k2 := (pin Go.Proofs.Try.f25 [1, 1, 0] 7)) (by kernel_rfl) c4) trivial ?_
      refine RunF.go 3 [4] (k' := (pl Go.Proofs.Try.f25 [1, 1, 1])) (L' := [(4, .int .u32 (bor .u32 (shlv .u32 a0 (U64 (t2))) (shrv .u32 a0 (U64 (32 - (U64 (t2)))))))]) (w' := W1) (by kernel_rfl) ?_
      obtain rfl := Option.some.inj h
      exact RunF.ret1 4 (.int .u32 (bor .u32 (shlv .u32 a0 (U64 (t2))) (shrv .u32 a0 (U64 (32 - (U64 (t2))))))) (fn := Go.Proofs.Try.f25) Go.Proofs.Try.func25 (by kernel_rfl) (by kernel_rfl) (by kernel_rfl) ⟨_, rfl, rfl, (hM.pick [] rfl rfl)⟩
    · replace h := of_false h c4
      cases h
  · replace h := of_false h c3
    cases h

/-! ### scrim/scrimref1.Little: function 54 -/
def scrimref1_Little.l0 : Nat → (List Int) → Int → Int → Option (Int)
  | 0, _, _, _ => none
  | k + 1, a0, x3_0, x4_0 => if (decide (x4_0 > 0)) = true then (if (decide (0 ≤ (I64 (x4_0 - 1)))) = true then (if (decide ((I64 (x4_0 - 1)) < (a0.length : Int))) = true then ((some (bor .u64 (shl .u64 x3_0 8) (U64 (rd a0 (I64 (x4_0 - 1)))) : Int)).bind fun y5 => (scrimref1_Little.l0 k a0 y5 (I64 (x4_0 - 1)))) else (none)) else (none)) else (some x3_0)
def scrimref1_Little.f (k : Nat) (a0 : List Int) : Option (Int) := scrimref1_Little.l0 k a0 0 (a0.length : Int)
set_option maxRecDepth 100000 in
theorem scrimref1_Little.calls (k : Nat) (Ap0 : Option Addr) (np0 cp0 : Nat) (a0 : List Int) (r : Int) (w : World) (hr0 : Rd w (.slice Ap0 np0 cp0) (nums .u8 a0)) (h : scrimref1_Little.f k a0 = some r) :
    Calls Go.Proofs.Try.prog 54 #[(.slice Ap0 np0 cp0)] w (Ret fun v w' => v = .int .u64 r ∧ Mem w w' []) := by
  obtain rfl : a0.length = np0 := by have h_ := hr0.1; simpa [nums_length, bools_length, strs_length] using h_
  unfold scrimref1_Little.f at h
  refine calls_of [.slice Ap0 a0.length cp0] (fn := Go.Proofs.Try.f54) Go.Proofs.Try.func54 (by kernel_rfl) (by kernel_rfl) ?_
  have hM := Mem.refl w
  refine RunF.go 17 [0, 3, 4] (k' := (pl Go.Proofs.Try.f54 [1, 1, 0, 1, 0, 0])) (L' := [(0, .slice Ap0 a0.length cp0), (3, .int .u64 0), (4, .int .i64 (a0.length : Int))]) (w' := w) (by kernel_rfl) ?_
  have l0 : ∀ (k_ : Nat), k_ ≤ k → ∀ (x3_0 : Int) (x4_0 : Int) (W : World) (hM : Mem w W []) (h : scrimref1_Little.l0 k_ a0 x3_0 x4_0 = some r), RunF Go.Proofs.Try.prog (Ret fun v w' => v = .int .u64 r ∧ Mem w w' []) 54 (pl Go.Proofs.Try.f54 [1, 1, 0, 1, 0, 0]) 21 [(0, .slice Ap0 a0.length cp0), (3, .int .u64 x3_0), (4, .int .i64 x4_0)] W := by
    intro k_
    induction k_ using Nat.strongRecOn with
    | _ k_ ih0 =>
      intro hk x3_0 x4_0 W hM h
      cases k_ with
      | zero => exact absurd h (by simp [scrimref1_Little.l0])
      | succ k =>
        simp only [scrimref1_Little.l0] at h
        replace ih0 : ∀ m, m ≤ k → _ := fun m hm => ih0 m (by omega) (by omega)
        refine RunF.go 6 [0, 3, 4, 8] (k' := (pl Go.Proofs.Try.f54 [1, 1, 0, 1, 0, 0, 0, 1])) (L' := [(0, .slice Ap0 a0.length cp0), (3, .int .u64 x3_0), (4, .int .i64 x4_0), (8, .bool (decide (x4_0 > 0)))]) (w' := W) (by kernel_rfl) ?_
        rcases two (decide (x4_0 > 0)) with c1 | c1
        · replace h := of_true h c1
          refine RunF.know 8 (b := true) (by kernel_rfl) c1 ?_
          refine RunF.go 10 [0, 4, 12, 13, 15] (k' := (pin Go.Proofs.Try.f54 [1, 1, 0, 1, 0, 0, 1, 0, 0] 5)) (L' := [(0, .slice Ap0 a0.length cp0), (4, .int .i64 x4_0), (12, .int .u64 (shl .u64 x3_0 8)), (13, .slice Ap0 a0.length cp0), (15, .int .i64 (I64 (x4_0 - 1)))]) (w' := W) (by kernel_rfl) ?_
          rcases two (decide (0 ≤ (I64 (x4_0 - 1)))) with c3 | c3
          · replace h := of_true h c3
            rcases two (decide ((I64 (x4_0 - 1)) < (a0.length : Int))) with c4 | c4
            · replace h := of_true h c4
              obtain ⟨q2, hAq2, hcq2⟩ := Rd.num (hr0.mono hM.below) (i := I64 (x4_0 - 1)) (of_decide_eq_true c3) (by have h_ := of_decide_eq_true c4; omega)
              refine RunF.y (idx_y (d := some 16) (A := Ap0) (m := a0.length) (i := I64 (x4_0 - 1)) (k2 := (pin Go.Proofs.Try.f54 [1, 1, 0, 1, 0, 0, 1, 0, 0] 6)) (by kernel_rfl) (of_decide_eq_true c3) (by have h_ := of_decide_eq_true c4; omega) hAq2) trivial ?_
              refine RunF.y (ld_y (d := some 17) (p := (q2.add (I64 (x4_0 - 1) : Int).toNat)) (k2 := (pin Go.Proofs.Try.f54 [1, 1, 0, 1, 0, 0, 1, 0, 0] 7)) (.int .u8 (rd a0 (I64 (x4_0 - 1)))) (by kernel_rfl)) hcq2 ?_
              refine RunF.go 11 [0, 3, 4] (k' := (pl Go.Proofs.Try.f54 [1, 1, 0, 1, 0, 0])) (L' := [(0, .slice Ap0 a0.length cp0), (3, .int .u64 (bor .u64 (shl .u64 x3_0 8) (U64 (rd a0 (I64 (x4_0 - 1)))))), (4, .int .i64 (I64 (x4_0 - 1)))]) (w' := W) (by kernel_rfl) ?_
              obtain ⟨y5, hy, h⟩ := Option.bind_eq_some_iff.mp h
              rw [show (bor .u64 (shl .u64 x3_0 8) (U64 (rd a0 (I64 (x4_0 - 1))))) = y5 from Option.some.inj hy]
              clear hy
              exact ih0 k (by omega) y5 (I64 (x4_0 - 1)) _ (hM.pick [] rfl rfl) h
            · replace h := of_false h c4
              cases h
          · replace h := of_false h c3
            cases h
        · replace h := of_false h c1
          refine RunF.know 8 (b := false) (by kernel_rfl) c1 ?_
          refine RunF.go 7 [2] (k' := (pl Go.Proofs.Try.f54 [1, 1, 1, 1])) (L' := [(2, .int .u64 x3_0)]) (w' := W) (by kernel_rfl) ?_
          obtain rfl := Option.some.inj h
          exact RunF.ret1 2 (.int .u64 x3_0) (fn := Go.Proofs.Try.f54) Go.Proofs.Try.func54 (by kernel_rfl) (by kernel_rfl) (by kernel_rfl) ⟨_, rfl, rfl, (hM.pick [] rfl rfl)⟩
  exact l0 k (Nat.le_refl _) 0 (a0.length : Int) _ (hM.pick [] rfl rfl) h

/-! ### scrim/scrimref8.little: function 34 -/
def scrimref8_little.l0 : Nat → (List Int) → (List Int) → Int → Option (List Int)
  | 0, _, _, _ => none
  | k + 1, a0, x3_0, x4_0 => if (decide (x4_0 < (a0.length : Int))) = true then (if (decide (0 ≤ x4_0)) = true then (if (decide (x4_0 ≤ (I64 (x4_0 + 4)))) = true then (if (decide ((I64 (x4_0 + 4)) ≤ (a0.length : Int))) = true then ((scrimref1_Little.f k ((a0.take (I64 (x4_0 + 4) : Int).toNat).drop (x4_0 : Int).toNat)).bind fun t13 => (if (decide (x3_0.length + ([U32 (t13)] : List Int).length ≤ 1000000000)) = true then (scrimref8_little.l0 k a0 (x3_0 ++ ([U32 (t13)] : List Int)) (I64 (x4_0 + 4))) else (none))) else (none)) else (none)) else (none)) else (some x3_0)
def scrimref8_little.f (k : Nat) (a0 : List Int) : Option (List Int) := scrimref8_little.l0 k a0 ([] : List Int) 0
set_option maxRecDepth 100000 in
theorem scrimref8_little.calls (k : Nat) (Ap0 : Option Addr) (np0 cp0 : Nat) (a0 : List Int) (r : List Int) (w : World) (hr0 : Rd w (.slice Ap0 np0 cp0) (nums .u8 a0)) (h : scrimref8_little.f k a0 = some r) :
    Calls Go.Proofs.Try.prog 34 #[(.slice Ap0 np0 cp0)] w (Ret fun v w' => ∃ A0' n0' c0', v = .slice A0' n0' c0' ∧ Mem w w' [⟨.slice A0' n0' c0', 43, 1, nums .u32 r⟩]) := by
  obtain rfl : a0.length = np0 := by have h_ := hr0.1; simpa [nums_length, bools_length, strs_length] using h_
  unfold scrimref8_little.f at h
  refine calls_of [.slice Ap0 a0.length cp0] (fn := Go.Proofs.Try.f34) Go.Proofs.Try.func34 (by kernel_rfl) (by kernel_rfl) ?_
  have hM := Mem.refl w
  refine RunF.go 15 [0, 3, 4] (k' := (pl Go.Proofs.Try.f34 [1, 1, 0, 1, 0, 0])) (L' := [(0, .slice Ap0 a0.length cp0), (3, .slice none 0 0), (4, .int .i64 0)]) (w' := w) (by kernel_rfl) ?_
  replace hM := hM.nil 43
  have l0 : ∀ (k_ : Nat), k_ ≤ k → ∀ (A3_0 : Option Addr) (c3_0 : Nat) (x3_0 : List Int) (x4_0 : Int) (W : World) (hM : Mem w W [⟨.slice A3_0 x3_0.length c3_0, 43, 1, nums .u32 x3_0⟩]) (h : scrimref8_little.l0 k_ a0 x3_0 x4_0 = some r), RunF Go.Proofs.Try.prog (Ret fun v w' => ∃ A0' n0' c0', v = .slice A0' n0' c0' ∧ Mem w w' [⟨.slice A0' n0' c0', 43, 1, nums .u32 r⟩]) 34 (pl Go.Proofs.Try.f34 [1, 1, 0, 1, 0, 0]) 22 [(0, .slice Ap0 a0.length cp0), (3, .slice A3_0 x3_0.length c3_0), (4, .int .i64 x4_0)] W := by
    intro k_
    induction k_ using Nat.strongRecOn with
    | _ k_ ih0 =>
      intro hk A3_0 c3_0 x3_0 x4_0 W hM h
      cases k_ with
      | zero => exact absurd h (by simp [scrimref8_little.l0])
      | succ k =>
        simp only [scrimref8_little.l0] at h
        replace ih0 : ∀ m, m ≤ k → _ := fun m hm => ih0 m (by omega) (by omega)
        refine RunF.go 8 [0, 3, 4, 8] (k' := (pl Go.Proofs.Try.f34 [1, 1, 0, 1, 0, 0, 0, 1])) (L' := [(0, .slice Ap0 a0.length cp0), (3, .slice A3_0 x3_0.length c3_0), (4, .int .i64 x4_0), (8, .bool (decide (x4_0 < (a0.length : Int))))]) (w' := W) (by kernel_rfl) ?_
        rcases two (decide (x4_0 < (a0.length : Int))) with c3 | c3
        · replace h := of_true h c3
          refine RunF.know 8 (b := true) (by kernel_rfl) c3 ?_
          refine RunF.go 10 [0, 4, 11, 12, 13, 15] (k' := (pin Go.Proofs.Try.f34 [1, 1, 0, 1, 0, 0, 1, 0, 0] 5)) (L' := [(0, .slice Ap0 a0.length cp0), (4, .int .i64 x4_0), (11, .slice A3_0 x3_0.length c3_0), (12, .slice Ap0 a0.length cp0), (13, .int .i64 x4_0), (15, .int .i64 (I64 (x4_0 + 4)))]) (w' := W) (by kernel_rfl) ?_
          rcases two (decide (0 ≤ x4_0)) with c4 | c4
          · replace h := of_true h c4
            rcases two (decide (x4_0 ≤ (I64 (x4_0 + 4)))) with c5 | c5
            · replace h := of_true h c5
              rcases two (decide ((I64 (x4_0 + 4)) ≤ (a0.length : Int))) with c6 | c6
              · replace h := of_true h c6
                have zc4 := of_decide_eq_true c4
                have zc5 := of_decide_eq_true c5
                have zc6 := of_decide_eq_true c6
                obtain ⟨A7, n8, c9, hy10, rfl, hs11⟩ := cut (P := Go.Proofs.Try.prog) (n := 22) (k := (pin Go.Proofs.Try.f34 [1, 1, 0, 1, 0, 0, 1, 0, 0] 5)) (L := [(0, .slice Ap0 a0.length cp0), (4, .int .i64 x4_0), (11, .slice A3_0 x3_0.length c3_0), (12, .slice Ap0 a0.length cp0), (13, .int .i64 x4_0), (15, .int .i64 (I64 (x4_0 + 4)))]) (d := some 16) (A := Ap0) (m := a0.length) (c := cp0) (l := x4_0) (h := I64 (x4_0 + 4)) (k2 := (pin Go.Proofs.Try.f34 [1, 1, 0, 1, 0, 0, 1, 0, 0] 6)) .u8 a0 (by kernel_rfl) (by omega) (by omega) (by omega) (hr0.mono hM.below)
                clear zc4
                clear zc5
                clear zc6
                refine RunF.y hy10 trivial ?_
                obtain ⟨t13, ht13, h⟩ := Option.bind_eq_some_iff.mp h
                refine RunF.call (d := some 17) (g := 54) (args := #[.slice A7 (((a0.take (I64 (x4_0 + 4) : Int).toNat).drop (x4_0 : Int).toNat).length) c9]) (k2 := (pin Go.Proofs.Try.f34 [1, 1, 0, 1, 0, 0, 1, 0, 0] 7)) (by kernel_rfl) (scrimref1_Little.calls k A7 (((a0.take (I64 (x4_0 + 4) : Int).toNat).drop (x4_0 : Int).toNat).length) c9 ((a0.take (I64 (x4_0 + 4) : Int).toNat).drop (x4_0 : Int).toNat) t13 _ (hs11 _ (hr0.mono hM.below)) ht13) ?_
                rintro _ W12 ⟨rfl, hM_⟩
                replace hM := hM.call hM_
                clear hM_ ht13
                refine RunF.go 1 [0, 4, 11, 18] (k' := (pin Go.Proofs.Try.f34 [1, 1, 0, 1, 0, 0, 1, 0, 0] 8)) (L' := [(0, .slice Ap0 a0.length cp0), (4, .int .i64 x4_0), (11, .slice A3_0 x3_0.length c3_0), (18, .int .u32 (U32 (t13)))]) (w' := W12) (by kernel_rfl) ?_
                refine RunF.new 43 1 1 (nums .u32 [U32 (t13)]) (d := some 19) (k2 := (pin Go.Proofs.Try.f34 [1, 1, 0, 1, 0, 0, 1, 0, 0] 9)) hM (by simp [nums, bools, strs]) (by kernel_rfl) (by kernel_rfl) ?_
                replace hM := hM
                intro g14 W15 hM
                rcases two (decide (x3_0.length + ([U32 (t13)] : List Int).length ≤ 1000000000)) with c21 | c21
                · replace h := of_true h c21
                  have h_ := of_decide_eq_true c21
                  obtain ⟨A17, n18, c19, W20, hD, hM', hS_⟩ := app_does (P := Go.Proofs.Try.prog) (n := 22) (k := (pin Go.Proofs.Try.f34 [1, 1, 0, 1, 0, 0, 1, 0, 0] 9)) (L := (upd [(0, .slice Ap0 a0.length cp0), (4, .int .i64 x4_0), (11, .slice A3_0 x3_0.length c3_0), (18, .int .u32 (U32 (t13)))] (some 19) (.slice (some ⟨g14, 0, none⟩) 1 1))) (d := some 20) (e := 43) (A := A3_0) (m := x3_0.length) (c := c3_0) (A2 := (some ⟨g14, 0, none⟩)) (m2 := 1) (c2 := 1) (cs := nums .u32 x3_0) (ys := nums .u32 ([U32 (t13)] : List Int)) (k2 := (pin Go.Proofs.Try.f34 [1, 1, 0, 1, 0, 0, 1, 0, 0] 10)) [⟨.slice (some ⟨g14, 0, none⟩) 1 1, 43, 1, nums .u32 [U32 (t13)]⟩] [] (by kernel_rfl) (hM.pick [0, 1] rfl rfl) (hM.rd 0 rfl) (one_nums _ _) (by omega)
                  rw [nums_append] at hM'
                  replace hM := hM'; clear h_ hM'
                  obtain rfl : (x3_0 ++ ([U32 (t13)] : List Int)).length = n18 := by have h_ := (hM.rd 1 rfl).1; simpa only [nums_length, bools_length, strs_length] using h_
                  refine RunF.does hD ?_
                  clear hD hS_
                  refine RunF.go 9 [0, 3, 4] (k' := (pl Go.Proofs.Try.f34 [1, 1, 0, 1, 0, 0])) (L' := [(0, .slice Ap0 a0.length cp0), (3, .slice A17 ((x3_0 ++ ([U32 (t13)] : List Int)).length) c19), (4, .int .i64 (I64 (x4_0 + 4)))]) (w' := W20) (by kernel_rfl) ?_
                  exact ih0 k (by omega) A17 c19 (x3_0 ++ ([U32 (t13)] : List Int)) (I64 (x4_0 + 4)) _ (hM.pick [1] rfl rfl) h
                · replace h := of_false h c21
                  cases h
              · replace h := of_false h c6
                cases h
            · replace h := of_false h c5
              cases h
          · replace h := of_false h c4
            cases h
        · replace h := of_false h c3
          refine RunF.know 8 (b := false) (by kernel_rfl) c3 ?_
          refine RunF.go 7 [2] (k' := (pl Go.Proofs.Try.f34 [1, 1, 1, 1])) (L' := [(2, .slice A3_0 x3_0.length c3_0)]) (w' := W) (by kernel_rfl) ?_
          obtain rfl := Option.some.inj h
          exact RunF.ret1 2 (.slice A3_0 x3_0.length c3_0) (fn := Go.Proofs.Try.f34) Go.Proofs.Try.func34 (by kernel_rfl) (by kernel_rfl) (by kernel_rfl) ⟨_, rfl, A3_0, x3_0.length, c3_0, rfl, (hM.pick [0] rfl rfl)⟩
  exact l0 k (Nat.le_refl _) none 0 ([] : List Int) 0 _ (hM.pick [0] rfl rfl) h

/-! ### scrim/scrimref8.stretched: function 28 -/
mutual
def scrimref8_stretched.l0 : Nat → (List Int) → (List Int) → Int → Option (List Int)
  | 0, _, _, _ => none
  | k + 1, t2, x4_0, x5_0 => if (decide (x5_0 < 26)) = true then ((some (U32 (3084996963 + (U32 ((U32 (x5_0)) * 2654435769))) : Int)).bind fun y10 => (if (decide (x4_0.length + ([y10] : List Int).length ≤ 1000000000)) = true then (scrimref8_stretched.l0 k t2 (x4_0 ++ ([y10] : List Int)) (I64 (x5_0 + 1))) else (none))) else (scrimref8_stretched.l1 k t2 x4_0 t2 x4_0 0 0 0)
def scrimref8_stretched.l1 : Nat → (List Int) → (List Int) → (List Int) → (List Int) → Int → Int → Int → Option (List Int)
  | 0, _, _, _, _, _, _, _ => none
  | k + 1, t2, x4_0, x3_1, x4_1, x6_1, x7_1, x8_1 => if (decide (x8_1 < 78)) = true then (if (decide (0 ≤ (Int.tmod x8_1 26))) = true then (if (decide ((Int.tmod x8_1 26) < (x4_0.length : Int))) = true then ((some (U32 ((U32 ((rd x4_1 (Int.tmod x8_1 26)) + x6_1)) + x7_1) : Int)).bind fun y24 => ((scrimref1_Rol32.f k y24 3).bind fun t26 => (if (decide (0 ≤ (Int.tmod x8_1 26))) = true then (if (decide ((Int.tmod x8_1 26) < (x4_0.length : Int))) = true then (if (decide (0 ≤ (Int.tmod x8_1 26))) = true then (if (decide ((Int.tmod x8_1 26) < (x4_0.length : Int))) = true then ((some (rd (x4_1.set (Int.tmod x8_1 26 : Int).toNat t26) (Int.tmod x8_1 26) : Int)).bind fun y34 => (if (decide (0 ≤ (Int.tmod x8_1 4))) = true then (if (decide ((Int.tmod x8_1 4) < (t2.length : Int))) = true then ((some (U32 ((U32 ((rd x3_1 (Int.tmod x8_1 4)) + y34)) + x7_1) : Int)).bind fun y38 => ((scrimref1_Rol32.f k y38 (I64 (Int.tmod (U32 (y34 + x7_1)) 32))).bind fun t40 => (if (decide (0 ≤ (Int.tmod x8_1 4))) = true then (if (decide ((Int.tmod x8_1 4) < (t2.length : Int))) = true then (if (decide (0 ≤ (Int.tmod x8_1 4))) = true then (if (decide ((Int.tmod x8_1 4) < (t2.length : Int))) = true then ((some (rd (x3_1.set (Int.tmod x8_1 4 : Int).toNat t40) (Int.tmod x8_1 4) : Int)).bind fun y48 => (scrimref8_stretched.l1 k t2 x4_0 (x3_1.set (Int.tmod x8_1 4 : Int).toNat t40) (x4_1.set (Int.tmod x8_1 26 : Int).toNat t26) y34 y48 (I64 (x8_1 + 1)))) else (none)) else (none)) else (none)) else (none)))) else (none)) else (none))) else (none)) else (none)) else (none)) else (none)))) else (none)) else (none)) else (some x4_1)
end
def scrimref8_stretched.f (k : Nat) (a0 : List Int) : Option (List Int) := (scrimref8_little.f k a0).bind fun t2 => (scrimref8_stretched.l0 k t2 ([] : List Int) 0)
set_option maxRecDepth 100000 in
set_option maxHeartbeats 8000000 in
theorem scrimref8_stretched.calls (k : Nat) (Ap0 : Option Addr) (np0 cp0 : Nat) (a0 : List Int) (r : List Int) (w : World) (hr0 : Rd w (.slice Ap0 np0 cp0) (nums .u8 a0)) (h : scrimref8_stretched.f k a0 = some r) :
    Calls Go.Proofs.Try.prog 28 #[(.slice Ap0 np0 cp0)] w (Ret fun v w' => ∃ A0' n0' c0', v = .slice A0' n0' c0' ∧ Mem w w' [⟨.slice A0' n0' c0', 43, 1, nums .u32 r⟩]) := by
  obtain rfl : a0.length = np0 := by have h_ := hr0.1; simpa [nums_length, bools_length, strs_length] using h_
  unfold scrimref8_stretched.f at h
  refine calls_of [.slice Ap0 a0.length cp0] (fn := Go.Proofs.Try.f28) Go.Proofs.Try.func28 (by kernel_rfl) (by kernel_rfl) ?_
  have hM := Mem.refl w
  refine RunF.go 7 [9] (k' := (pin Go.Proofs.Try.f28 [1, 0] 1)) (L' := [(9, .slice Ap0 a0.length cp0)]) (w' := w) (by kernel_rfl) ?_
  obtain ⟨t2, ht2, h⟩ := Option.bind_eq_some_iff.mp h
  refine RunF.call (d := some 10) (g := 34) (args := #[.slice Ap0 a0.length cp0]) (k2 := (pin Go.Proofs.Try.f28 [1, 0] 2)) (by kernel_rfl) (scrimref8_little.calls k Ap0 a0.length cp0 a0 t2 _ (hr0.mono hM.below) ht2) ?_
  rintro _ W1 ⟨A3, n4, c5, rfl, hM_⟩
  obtain rfl : t2.length = n4 := by have h_ := (hM_.rd 0 rfl).1; simpa [nums_length, bools_length, strs_length] using h_
  replace hM := hM.call hM_
  clear hM_ ht2
  refine RunF.go 13 [3, 4, 5] (k' := (pl Go.Proofs.Try.f28 [1, 1, 1, 0, 1, 0, 0])) (L' := [(3, .slice A3 t2.length c5), (4, .slice none 0 0), (5, .int .i64 0)]) (w' := W1) (by kernel_rfl) ?_
  replace hM := hM.nil 43
  have l0 : ∀ (k_ : Nat), k_ ≤ k → ∀ (A4_0 : Option Addr) (c4_0 : Nat) (x4_0 : List Int) (x5_0 : Int) (W : World) (hM : Mem w W [⟨.slice A3 t2.length c5, 43, 1, nums .u32 t2⟩, ⟨.slice A4_0 x4_0.length c4_0, 43, 1, nums .u32 x4_0⟩]) (h : scrimref8_stretched.l0 k_ t2 x4_0 x5_0 = some r), RunF Go.Proofs.Try.prog (Ret fun v w' => ∃ A0' n0' c0', v = .slice A0' n0' c0' ∧ Mem w w' [⟨.slice A0' n0' c0', 43, 1, nums .u32 r⟩]) 28 (pl Go.Proofs.Try.f28 [1, 1, 1, 0, 1, 0, 0]) 70 [(3, .slice A3 t2.length c5), (4, .slice A4_0 x4_0.length c4_0), (5, .int .i64 x5_0)] W := by
    intro k_
    induction k_ using Nat.strongRecOn with
    | _ k_ ih0 =>
      intro hk A4_0 c4_0 x4_0 x5_0 W hM h
      cases k_ with
      | zero => exact absurd h (by simp [scrimref8_stretched.l0])
      | succ k =>
        simp only [scrimref8_stretched.l0] at h
        replace ih0 : ∀ m, m ≤ k → _ := fun m hm => ih0 m (by omega) (by omega)
        refine RunF.go 6 [3, 4, 5, 12] (k' := (pl Go.Proofs.Try.f28 [1, 1, 1, 0, 1, 0, 0, 0, 1])) (L' := [(3, .slice A3 t2.length c5), (4, .slice A4_0 x4_0.length c4_0), (5, .int .i64 x5_0), (12, .bool (decide (x5_0 < 26)))]) (w' := W) (by kernel_rfl) ?_
        rcases two (decide (x5_0 < 26)) with c9 | c9
        · replace h := of_true h c9
          refine RunF.know 12 (b := true) (by kernel_rfl) c9 ?_
          refine RunF.go 10 [3, 5, 15, 19] (k' := (pin Go.Proofs.Try.f28 [1, 1, 1, 0, 1, 0, 0, 1, 0, 0] 5)) (L' := [(3, .slice A3 t2.length c5), (5, .int .i64 x5_0), (15, .slice A4_0 x4_0.length c4_0), (19, .int .u32 (U32 (3084996963 + (U32 ((U32 (x5_0)) * 2654435769)))))]) (w' := W) (by kernel_rfl) ?_
          obtain ⟨y10, hy, h⟩ := Option.bind_eq_some_iff.mp h
          rw [show (U32 (3084996963 + (U32 ((U32 (x5_0)) * 2654435769)))) = y10 from Option.some.inj hy]
          clear hy
          refine RunF.new 43 1 1 (nums .u32 [y10]) (d := some 20) (k2 := (pin Go.Proofs.Try.f28 [1, 1, 1, 0, 1, 0, 0, 1, 0, 0] 6)) hM (by simp [nums, bools, strs]) (by kernel_rfl) (by kernel_rfl) ?_
          replace hM := hM
          intro g11 W12 hM
          rcases two (decide (x4_0.length + ([y10] : List Int).length ≤ 1000000000)) with c18 | c18
          · replace h := of_true h c18
            have h_ := of_decide_eq_true c18
            obtain ⟨A14, n15, c16, W17, hD, hM', hS_⟩ := app_does (P := Go.Proofs.Try.prog) (n := 70) (k := (pin Go.Proofs.Try.f28 [1, 1, 1, 0, 1, 0, 0, 1, 0, 0] 6)) (L := (upd [(3, .slice A3 t2.length c5), (5, .int .i64 x5_0), (15, .slice A4_0 x4_0.length c4_0), (19, .int .u32 y10)] (some 20) (.slice (some ⟨g11, 0, none⟩) 1 1))) (d := some 21) (e := 43) (A := A4_0) (m := x4_0.length) (c := c4_0) (A2 := (some ⟨g11, 0, none⟩)) (m2 := 1) (c2 := 1) (cs := nums .u32 x4_0) (ys := nums .u32 ([y10] : List Int)) (k2 := (pin Go.Proofs.Try.f28 [1, 1, 1, 0, 1, 0, 0, 1, 0, 0] 7)) [⟨.slice (some ⟨g11, 0, none⟩) 1 1, 43, 1, nums .u32 [y10]⟩, ⟨.slice A3 t2.length c5, 43, 1, nums .u32 t2⟩] [] (by kernel_rfl) (hM.pick [0, 1, 2] rfl rfl) (hM.rd 0 rfl) (one_nums _ _) (by omega)
            rw [nums_append] at hM'
            replace hM := hM'; clear h_ hM'
            obtain rfl : (x4_0 ++ ([y10] : List Int)).length = n15 := by have h_ := (hM.rd 2 rfl).1; simpa only [nums_length, bools_length, strs_length] using h_
            refine RunF.does hD ?_
            clear hD hS_
            refine RunF.go 9 [3, 4, 5] (k' := (pl Go.Proofs.Try.f28 [1, 1, 1, 0, 1, 0, 0])) (L' := [(3, .slice A3 t2.length c5), (4, .slice A14 ((x4_0 ++ ([y10] : List Int)).length) c16), (5, .int .i64 (I64 (x5_0 + 1)))]) (w' := W17) (by kernel_rfl) ?_
            exact ih0 k (by omega) A14 c16 (x4_0 ++ ([y10] : List Int)) (I64 (x5_0 + 1)) _ (hM.pick [1, 2] rfl rfl) h
          · replace h := of_false h c18
            cases h
        · replace h := of_false h c9
          refine RunF.know 12 (b := false) (by kernel_rfl) c9 ?_
          refine RunF.go 14 [3, 4, 6, 7, 8] (k' := (pl Go.Proofs.Try.f28 [1, 1, 1, 1, 1, 0, 1, 0, 0])) (L' := [(3, .slice A3 t2.length c5), (4, .slice A4_0 x4_0.length c4_0), (6, .int .u32 0), (7, .int .u32 0), (8, .int .i64 0)]) (w' := W) (by kernel_rfl) ?_
          have l1 : ∀ (k_ : Nat), k_ ≤ k → ∀ (x3_1 : List Int) (x4_1 : List Int) (x6_1 : Int) (x7_1 : Int) (x8_1 : Int) (W : World) (hM : Mem w W [⟨.slice A3 t2.length c5, 43, 1, nums .u32 x3_1⟩, ⟨.slice A4_0 x4_0.length c4_0, 43, 1, nums .u32 x4_1⟩]) (h : scrimref8_stretched.l1 k_ t2 x4_0 x3_1 x4_1 x6_1 x7_1 x8_1 = some r), RunF Go.Proofs.Try.prog (Ret fun v w' => ∃ A0' n0' c0', v = .slice A0' n0' c0' ∧ Mem w w' [⟨.slice A0' n0' c0', 43, 1, nums .u32 r⟩]) 28 (pl Go.Proofs.Try.f28 [1, 1, 1, 1, 1, 0, 1, 0, 0]) 70 [(3, .slice A3 t2.length c5), (4, .slice A4_0 x4_0.length c4_0), (6, .int .u32 x6_1), (7, .int .u32 x7_1), (8, .int .i64 x8_1)] W := by
            intro k_
            induction k_ using Nat.strongRecOn with
            | _ k_ ih1 =>
              intro hk x3_1 x4_1 x6_1 x7_1 x8_1 W hM h
              cases k_ with
              | zero => exact absurd h (by simp [scrimref8_stretched.l1])
              | succ k =>
                simp only [scrimref8_stretched.l1] at h
                replace ih1 : ∀ m, m ≤ k → _ := fun m hm => ih1 m (by omega) (by omega)
                replace ih0 : ∀ m, m ≤ k → _ := fun m hm => ih0 m (by omega)
                refine RunF.go 6 [3, 4, 6, 7, 8, 23] (k' := (pl Go.Proofs.Try.f28 [1, 1, 1, 1, 1, 0, 1, 0, 0, 0, 1])) (L' := [(3, .slice A3 t2.length c5), (4, .slice A4_0 x4_0.length c4_0), (6, .int .u32 x6_1), (7, .int .u32 x7_1), (8, .int .i64 x8_1), (23, .bool (decide (x8_1 < 78)))]) (w' := W) (by kernel_rfl) ?_
                rcases two (decide (x8_1 < 78)) with c20 | c20
                · replace h := of_true h c20
                  refine RunF.know 23 (b := true) (by kernel_rfl) c20 ?_
                  refine RunF.go 12 [3, 4, 6, 7, 8, 26, 28, 29, 31] (k' := (pin Go.Proofs.Try.f28 [1, 1, 1, 1, 1, 0, 1, 0, 0, 1, 0, 0, 0] 6)) (L' := [(3, .slice A3 t2.length c5), (4, .slice A4_0 x4_0.length c4_0), (6, .int .u32 x6_1), (7, .int .u32 x7_1), (8, .int .i64 x8_1), (26, .slice A4_0 x4_0.length c4_0), (28, .int .i64 (Int.tmod x8_1 26)), (29, .slice A4_0 x4_0.length c4_0), (31, .int .i64 (Int.tmod x8_1 26))]) (w' := W) (by kernel_rfl) ?_
                  rcases two (decide (0 ≤ (Int.tmod x8_1 26))) with c22 | c22
                  · replace h := of_true h c22
                    rcases two (decide ((Int.tmod x8_1 26) < (x4_0.length : Int))) with c23 | c23
                    · replace h := of_true h c23
                      obtain ⟨q21, hAq21, hcq21, hfq21, hlq21⟩ := hM.num_at 1 rfl (i := Int.tmod x8_1 26) (of_decide_eq_true c22) (by have h_ := of_decide_eq_true c23; omega)
                      refine RunF.y (idx_own (d := some 32) (A := A4_0) (m := x4_0.length) (i := Int.tmod x8_1 26) (k2 := (pin Go.Proofs.Try.f28 [1, 1, 1, 1, 1, 0, 1, 0, 0, 1, 0, 0, 0] 7)) (by kernel_rfl) (of_decide_eq_true c22) (by have h_ := of_decide_eq_true c23; omega) hAq21) trivial ?_
                      refine RunF.y (ld_y (d := some 33) (p := ⟨q21, (Int.tmod x8_1 26 : Int).toNat, none⟩) (k2 := (pin Go.Proofs.Try.f28 [1, 1, 1, 1, 1, 0, 1, 0, 0, 1, 0, 0, 0] 8)) (.int .u32 (rd x4_1 (Int.tmod x8_1 26))) (by kernel_rfl)) hcq21 ?_
                      refine RunF.go 4 [3, 4, 7, 8, 26, 28, 37] (k' := (pin Go.Proofs.Try.f28 [1, 1, 1, 1, 1, 0, 1, 0, 0, 1, 0, 0, 0] 12)) (L' := [(3, .slice A3 t2.length c5), (4, .slice A4_0 x4_0.length c4_0), (7, .int .u32 x7_1), (8, .int .i64 x8_1), (26, .slice A4_0 x4_0.length c4_0), (28, .int .i64 (Int.tmod x8_1 26)), (37, .int .u32 (U32 ((U32 ((rd x4_1 (Int.tmod x8_1 26)) + x6_1)) + x7_1)))]) (w' := W) (by kernel_rfl) ?_
                      obtain ⟨y24, hy, h⟩ := Option.bind_eq_some_iff.mp h
                      rw [show (U32 ((U32 ((rd x4_1 (Int.tmod x8_1 26)) + x6_1)) + x7_1)) = y24 from Option.some.inj hy]
                      clear hy
                      obtain ⟨t26, ht26, h⟩ := Option.bind_eq_some_iff.mp h
                      refine RunF.call (d := some 38) (g := 25) (args := #[.int .u32 y24, .int .i64 3]) (k2 := (pin Go.Proofs.Try.f28 [1, 1, 1, 1, 1, 0, 1, 0, 0, 1, 0, 0, 0] 13)) (by kernel_rfl) (scrimref1_Rol32.calls k y24 3 t26 _ ht26) ?_
                      rintro _ W25 ⟨rfl, hM_⟩
                      replace hM := hM.call hM_
                      clear hM_ ht26
                      rcases two (decide (0 ≤ (Int.tmod x8_1 26))) with c28 | c28
                      · replace h := of_true h c28
                        rcases two (decide ((Int.tmod x8_1 26) < (x4_0.length : Int))) with c29 | c29
                        · replace h := of_true h c29
                          obtain ⟨q27, hAq27, hcq27, hfq27, hlq27⟩ := hM.num_at 1 rfl (i := Int.tmod x8_1 26) (of_decide_eq_true c28) (by have h_ := of_decide_eq_true c29; omega)
                          refine RunF.y (idx_own (d := some 39) (A := A4_0) (m := x4_0.length) (i := Int.tmod x8_1 26) (k2 := (pin Go.Proofs.Try.f28 [1, 1, 1, 1, 1, 0, 1, 0, 0, 1, 0, 0, 0] 14)) (by kernel_rfl) (of_decide_eq_true c28) (by have h_ := of_decide_eq_true c29; omega) hAq27) trivial ?_
                          obtain ⟨g_, hA_, hc_, hf_, hl_⟩ := hM.num_at 1 rfl (i := Int.tmod x8_1 26) (of_decide_eq_true c28) (by have h_ := of_decide_eq_true c29; omega)
                          obtain rfl : q27 = g_ := by rw [hAq27] at hA_; injection hA_ with hA_; injection hA_
                          refine RunF.doesU (st_u (p := (⟨q27, (Int.tmod x8_1 26 : Int).toNat, none⟩ : Addr)) (v := .int .u32 t26) (k2 := (pin Go.Proofs.Try.f28 [1, 1, 1, 1, 1, 0, 1, 0, 0, 1, 0, 0, 0] 15)) (by kernel_rfl) hc_ hf_) ?_
                          replace hM : Mem w (W25.setCell (⟨q27, (Int.tmod x8_1 26 : Int).toNat, none⟩ : Addr) (.int .u32 t26)) [⟨.slice A3 t2.length c5, 43, 1, nums .u32 x3_1⟩, ⟨.slice A4_0 x4_0.length c4_0, 43, 1, nums .u32 (x4_1.set (Int.tmod x8_1 26 : Int).toNat t26)⟩] := Mem.put_num [⟨.slice A3 t2.length c5, 43, 1, nums .u32 x3_1⟩] [] (hM.pick [0, 1] rfl rfl) hAq27 _ hl_ _
                          generalize W25.setCell (⟨q27, (Int.tmod x8_1 26 : Int).toNat, none⟩ : Addr) (.int .u32 t26) = W30 at hM ⊢
                          clear hc_ hf_ hl_ hA_ hcq27
                          refine RunF.go 6 [3, 4, 7, 8, 40, 42] (k' := (pin Go.Proofs.Try.f28 [1, 1, 1, 1, 1, 0, 1, 0, 0, 1, 0, 0, 1, 0] 3)) (L' := [(3, .slice A3 t2.length c5), (4, .slice A4_0 x4_0.length c4_0), (7, .int .u32 x7_1), (8, .int .i64 x8_1), (40, .slice A4_0 x4_0.length c4_0), (42, .int .i64 (Int.tmod x8_1 26))]) (w' := W30) (by kernel_rfl) ?_
                          rcases two (decide (0 ≤ (Int.tmod x8_1 26))) with c32 | c32
                          · replace h := of_true h c32
                            rcases two (decide ((Int.tmod x8_1 26) < (x4_0.length : Int))) with c33 | c33
                            · replace h := of_true h c33
                              obtain ⟨q31, hAq31, hcq31, hfq31, hlq31⟩ := hM.num_at 1 rfl (i := Int.tmod x8_1 26) (of_decide_eq_true c32) (by have h_ := of_decide_eq_true c33; omega)
                              refine RunF.y (idx_own (d := some 43) (A := A4_0) (m := x4_0.length) (i := Int.tmod x8_1 26) (k2 := (pin Go.Proofs.Try.f28 [1, 1, 1, 1, 1, 0, 1, 0, 0, 1, 0, 0, 1, 0] 4)) (by kernel_rfl) (of_decide_eq_true c32) (by have h_ := of_decide_eq_true c33; omega) hAq31) trivial ?_
                              refine RunF.y (ld_y (d := some 44) (p := ⟨q31, (Int.tmod x8_1 26 : Int).toNat, none⟩) (k2 := (pin Go.Proofs.Try.f28 [1, 1, 1, 1, 1, 0, 1, 0, 0, 1, 0, 0, 1, 0] 5)) (.int .u32 (rd (x4_1.set (Int.tmod x8_1 26 : Int).toNat t26) (Int.tmod x8_1 26))) (by kernel_rfl)) hcq31 ?_
                              refine RunF.go 10 [3, 4, 6, 7, 8, 45, 47, 48, 50] (k' := (pin Go.Proofs.Try.f28 [1, 1, 1, 1, 1, 0, 1, 0, 0, 1, 0, 0, 1, 1, 0] 6)) (L' := [(3, .slice A3 t2.length c5), (4, .slice A4_0 x4_0.length c4_0), (6, .int .u32 (rd (x4_1.set (Int.tmod x8_1 26 : Int).toNat t26) (Int.tmod x8_1 26))), (7, .int .u32 x7_1), (8, .int .i64 x8_1), (45, .slice A3 t2.length c5), (47, .int .i64 (Int.tmod x8_1 4)), (48, .slice A3 t2.length c5), (50, .int .i64 (Int.tmod x8_1 4))]) (w' := W30) (by kernel_rfl) ?_
                              obtain ⟨y34, hy, h⟩ := Option.bind_eq_some_iff.mp h
                              rw [show (rd (x4_1.set (Int.tmod x8_1 26 : Int).toNat t26) (Int.tmod x8_1 26)) = y34 from Option.some.inj hy]
                              clear hy
                              rcases two (decide (0 ≤ (Int.tmod x8_1 4))) with c36 | c36
                              · replace h := of_true h c36
                                rcases two (decide ((Int.tmod x8_1 4) < (t2.length : Int))) with c37 | c37
                                · replace h := of_true h c37
                                  obtain ⟨q35, hAq35, hcq35, hfq35, hlq35⟩ := hM.num_at 0 rfl (i := Int.tmod x8_1 4) (of_decide_eq_true c36) (by have h_ := of_decide_eq_true c37; omega)
                                  refine RunF.y (idx_own (d := some 51) (A := A3) (m := t2.length) (i := Int.tmod x8_1 4) (k2 := (pin Go.Proofs.Try.f28 [1, 1, 1, 1, 1, 0, 1, 0, 0, 1, 0, 0, 1, 1, 0] 7)) (by kernel_rfl) (of_decide_eq_true c36) (by have h_ := of_decide_eq_true c37; omega) hAq35) trivial ?_
                                  refine RunF.y (ld_y (d := some 52) (p := ⟨q35, (Int.tmod x8_1 4 : Int).toNat, none⟩) (k2 := (pin Go.Proofs.Try.f28 [1, 1, 1, 1, 1, 0, 1, 0, 0, 1, 0, 0, 1, 1, 0] 8)) (.int .u32 (rd x3_1 (Int.tmod x8_1 4))) (by kernel_rfl)) hcq35 ?_
                                  refine RunF.go 9 [3, 4, 6, 8, 45, 47, 56, 61] (k' := (pin Go.Proofs.Try.f28 [1, 1, 1, 1, 1, 0, 1, 0, 0, 1, 0, 0, 1, 1, 0] 17)) (L' := [(3, .slice A3 t2.length c5), (4, .slice A4_0 x4_0.length c4_0), (6, .int .u32 y34), (8, .int .i64 x8_1), (45, .slice A3 t2.length c5), (47, .int .i64 (Int.tmod x8_1 4)), (56, .int .u32 (U32 ((U32 ((rd x3_1 (Int.tmod x8_1 4)) + y34)) + x7_1))), (61, .int .i64 (I64 (Int.tmod (U32 (y34 + x7_1)) 32)))]) (w' := W30) (by kernel_rfl) ?_
                                  obtain ⟨y38, hy, h⟩ := Option.bind_eq_some_iff.mp h
                                  rw [show (U32 ((U32 ((rd x3_1 (Int.tmod x8_1 4)) + y34)) + x7_1)) = y38 from Option.some.inj hy]
                                  clear hy
                                  obtain ⟨t40, ht40, h⟩ := Option.bind_eq_some_iff.mp h
                                  refine RunF.call (d := some 62) (g := 25) (args := #[.int .u32 y38, .int .i64 (I64 (Int.tmod (U32 (y34 + x7_1)) 32))]) (k2 := (pin Go.Proofs.Try.f28 [1, 1, 1, 1, 1, 0, 1, 0, 0, 1, 0, 0, 1, 1, 0] 18)) (by kernel_rfl) (scrimref1_Rol32.calls k y38 (I64 (Int.tmod (U32 (y34 + x7_1)) 32)) t40 _ ht40) ?_
                                  rintro _ W39 ⟨rfl, hM_⟩
                                  replace hM := hM.call hM_
                                  clear hM_ ht40
                                  rcases two (decide (0 ≤ (Int.tmod x8_1 4))) with c42 | c42
                                  · replace h := of_true h c42
                                    rcases two (decide ((Int.tmod x8_1 4) < (t2.length : Int))) with c43 | c43
                                    · replace h := of_true h c43
                                      obtain ⟨q41, hAq41, hcq41, hfq41, hlq41⟩ := hM.num_at 0 rfl (i := Int.tmod x8_1 4) (of_decide_eq_true c42) (by have h_ := of_decide_eq_true c43; omega)
                                      refine RunF.y (idx_own (d := some 63) (A := A3) (m := t2.length) (i := Int.tmod x8_1 4) (k2 := (pin Go.Proofs.Try.f28 [1, 1, 1, 1, 1, 0, 1, 0, 0, 1, 0, 0, 1, 1, 0] 19)) (by kernel_rfl) (of_decide_eq_true c42) (by have h_ := of_decide_eq_true c43; omega) hAq41) trivial ?_
                                      obtain ⟨g_, hA_, hc_, hf_, hl_⟩ := hM.num_at 0 rfl (i := Int.tmod x8_1 4) (of_decide_eq_true c42) (by have h_ := of_decide_eq_true c43; omega)
                                      obtain rfl : q41 = g_ := by rw [hAq41] at hA_; injection hA_ with hA_; injection hA_
                                      refine RunF.doesU (st_u (p := (⟨q41, (Int.tmod x8_1 4 : Int).toNat, none⟩ : Addr)) (v := .int .u32 t40) (k2 := (pin Go.Proofs.Try.f28 [1, 1, 1, 1, 1, 0, 1, 0, 0, 1, 0, 0, 1, 1, 0] 20)) (by kernel_rfl) hc_ hf_) ?_
                                      replace hM : Mem w (W39.setCell (⟨q41, (Int.tmod x8_1 4 : Int).toNat, none⟩ : Addr) (.int .u32 t40)) [⟨.slice A3 t2.length c5, 43, 1, nums .u32 (x3_1.set (Int.tmod x8_1 4 : Int).toNat t40)⟩, ⟨.slice A4_0 x4_0.length c4_0, 43, 1, nums .u32 (x4_1.set (Int.tmod x8_1 26 : Int).toNat t26)⟩] := Mem.put_num [] [⟨.slice A4_0 x4_0.length c4_0, 43, 1, nums .u32 (x4_1.set (Int.tmod x8_1 26 : Int).toNat t26)⟩] (hM.pick [0, 1] rfl rfl) hAq41 _ hl_ _
                                      generalize W39.setCell (⟨q41, (Int.tmod x8_1 4 : Int).toNat, none⟩ : Addr) (.int .u32 t40) = W44 at hM ⊢
                                      clear hc_ hf_ hl_ hA_ hcq41
                                      refine RunF.go 5 [3, 4, 6, 8, 64, 66] (k' := (pin Go.Proofs.Try.f28 [1, 1, 1, 1, 1, 0, 1, 0, 0, 1, 0, 0, 1, 1, 1] 3)) (L' := [(3, .slice A3 t2.length c5), (4, .slice A4_0 x4_0.length c4_0), (6, .int .u32 y34), (8, .int .i64 x8_1), (64, .slice A3 t2.length c5), (66, .int .i64 (Int.tmod x8_1 4))]) (w' := W44) (by kernel_rfl) ?_
                                      rcases two (decide (0 ≤ (Int.tmod x8_1 4))) with c46 | c46
                                      · replace h := of_true h c46
                                        rcases two (decide ((Int.tmod x8_1 4) < (t2.length : Int))) with c47 | c47
                                        · replace h := of_true h c47
                                          obtain ⟨q45, hAq45, hcq45, hfq45, hlq45⟩ := hM.num_at 0 rfl (i := Int.tmod x8_1 4) (of_decide_eq_true c46) (by have h_ := of_decide_eq_true c47; omega)
                                          refine RunF.y (idx_own (d := some 67) (A := A3) (m := t2.length) (i := Int.tmod x8_1 4) (k2 := (pin Go.Proofs.Try.f28 [1, 1, 1, 1, 1, 0, 1, 0, 0, 1, 0, 0, 1, 1, 1] 4)) (by kernel_rfl) (of_decide_eq_true c46) (by have h_ := of_decide_eq_true c47; omega) hAq45) trivial ?_
                                          refine RunF.y (ld_y (d := some 68) (p := ⟨q45, (Int.tmod x8_1 4 : Int).toNat, none⟩) (k2 := (pin Go.Proofs.Try.f28 [1, 1, 1, 1, 1, 0, 1, 0, 0, 1, 0, 0, 1, 1, 1] 5)) (.int .u32 (rd (x3_1.set (Int.tmod x8_1 4 : Int).toNat t40) (Int.tmod x8_1 4))) (by kernel_rfl)) hcq45 ?_
                                          refine RunF.go 9 [3, 4, 6, 7, 8] (k' := (pl Go.Proofs.Try.f28 [1, 1, 1, 1, 1, 0, 1, 0, 0])) (L' := [(3, .slice A3 t2.length c5), (4, .slice A4_0 x4_0.length c4_0), (6, .int .u32 y34), (7, .int .u32 (rd (x3_1.set (Int.tmod x8_1 4 : Int).toNat t40) (Int.tmod x8_1 4))), (8, .int .i64 (I64 (x8_1 + 1)))]) (w' := W44) (by kernel_rfl) ?_
                                          obtain ⟨y48, hy, h⟩ := Option.bind_eq_some_iff.mp h
                                          rw [show (rd (x3_1.set (Int.tmod x8_1 4 : Int).toNat t40) (Int.tmod x8_1 4)) = y48 from Option.some.inj hy]
                                          clear hy
                                          exact ih1 k (by omega) (x3_1.set (Int.tmod x8_1 4 : Int).toNat t40) (x4_1.set (Int.tmod x8_1 26 : Int).toNat t26) y34 y48 (I64 (x8_1 + 1)) _ (hM.pick [0, 1] rfl rfl) h
                                        · replace h := of_false h c47
                                          cases h
                                      · replace h := of_false h c46
                                        cases h
                                    · replace h := of_false h c43
                                      cases h
                                  · replace h := of_false h c42
                                    cases h
                                · replace h := of_false h c37
                                  cases h
                              · replace h := of_false h c36
                                cases h
                            · replace h := of_false h c33
                              cases h
                          · replace h := of_false h c32
                            cases h
                        · replace h := of_false h c29
                          cases h
                      · replace h := of_false h c28
                        cases h
                    · replace h := of_false h c23
                      cases h
                  · replace h := of_false h c22
                    cases h
                · replace h := of_false h c20
                  refine RunF.know 23 (b := false) (by kernel_rfl) c20 ?_
                  refine RunF.go 7 [2] (k' := (pl Go.Proofs.Try.f28 [1, 1, 1, 1, 1, 1, 1])) (L' := [(2, .slice A4_0 x4_0.length c4_0)]) (w' := W) (by kernel_rfl) ?_
                  obtain rfl := Option.some.inj h
                  exact RunF.ret1 2 (.slice A4_0 x4_0.length c4_0) (fn := Go.Proofs.Try.f28) Go.Proofs.Try.func28 (by kernel_rfl) (by kernel_rfl) (by kernel_rfl) ⟨_, rfl, A4_0, x4_0.length, c4_0, rfl, (hM.pick [1] rfl rfl)⟩
          exact l1 k (Nat.le_refl _) t2 x4_0 0 0 0 _ (hM.pick [0, 1] rfl rfl) h
  exact l0 k (Nat.le_refl _) none 0 ([] : List Int) 0 _ (hM.pick [1, 0] rfl rfl) h

/-! ### scrim/scrimref1.Big: function 23 -/
def scrimref1_Big.l0 : Nat → (List Int) → Int → Int → Option (Int)
  | 0, _, _, _ => none
  | k + 1, a0, x3_0, x4_0 => if (decide (x4_0 < (a0.length : Int))) = true then (if (decide (0 ≤ x4_0)) = true then (if (decide (x4_0 < (a0.length : Int))) = true then ((some (bor .u64 (shl .u64 x3_0 8) (U64 (rd a0 x4_0)) : Int)).bind fun y5 => (scrimref1_Big.l0 k a0 y5 (I64 (x4_0 + 1)))) else (none)) else (none)) else (some x3_0)
def scrimref1_Big.f (k : Nat) (a0 : List Int) : Option (Int) := scrimref1_Big.l0 k a0 0 0
set_option maxRecDepth 100000 in
theorem scrimref1_Big.calls (k : Nat) (Ap0 : Option Addr) (np0 cp0 : Nat) (a0 : List Int) (r : Int) (w : World) (hr0 : Rd w (.slice Ap0 np0 cp0) (nums .u8 a0)) (h : scrimref1_Big.f k a0 = some r) :
    Calls Go.Proofs.Try.prog 23 #[(.slice Ap0 np0 cp0)] w (Ret fun v w' => v = .int .u64 r ∧ Mem w w' []) := by
  obtain rfl : a0.length = np0 := by have h_ := hr0.1; simpa [nums_length, bools_length, strs_length] using h_
  unfold scrimref1_Big.f at h
  refine calls_of [.slice Ap0 a0.length cp0] (fn := Go.Proofs.Try.f23) Go.Proofs.Try.func23 (by kernel_rfl) (by kernel_rfl) ?_
  have hM := Mem.refl w
  refine RunF.go 15 [0, 3, 4] (k' := (pl Go.Proofs.Try.f23 [1, 1, 0, 1, 0, 0])) (L' := [(0, .slice Ap0 a0.length cp0), (3, .int .u64 0), (4, .int .i64 0)]) (w' := w) (by kernel_rfl) ?_
  have l0 : ∀ (k_ : Nat), k_ ≤ k → ∀ (x3_0 : Int) (x4_0 : Int) (W : World) (hM : Mem w W []) (h : scrimref1_Big.l0 k_ a0 x3_0 x4_0 = some r), RunF Go.Proofs.Try.prog (Ret fun v w' => v = .int .u64 r ∧ Mem w w' []) 23 (pl Go.Proofs.Try.f23 [1, 1, 0, 1, 0, 0]) 20 [(0, .slice Ap0 a0.length cp0), (3, .int .u64 x3_0), (4, .int .i64 x4_0)] W := by
    intro k_
    induction k_ using Nat.strongRecOn with
    | _ k_ ih0 =>
      intro hk x3_0 x4_0 W hM h
      cases k_ with
      | zero => exact absurd h (by simp [scrimref1_Big.l0])
      | succ k =>
        simp only [scrimref1_Big.l0] at h
        replace ih0 : ∀ m, m ≤ k → _ := fun m hm => ih0 m (by omega) (by omega)
        refine RunF.go 8 [0, 3, 4, 8] (k' := (pl Go.Proofs.Try.f23 [1, 1, 0, 1, 0, 0, 0, 1])) (L' := [(0, .slice Ap0 a0.length cp0), (3, .int .u64 x3_0), (4, .int .i64 x4_0), (8, .bool (decide (x4_0 < (a0.length : Int))))]) (w' := W) (by kernel_rfl) ?_
        rcases two (decide (x4_0 < (a0.length : Int))) with c1 | c1
        · replace h := of_true h c1
          refine RunF.know 8 (b := true) (by kernel_rfl) c1 ?_
          refine RunF.go 9 [0, 4, 12, 13, 14] (k' := (pin Go.Proofs.Try.f23 [1, 1, 0, 1, 0, 0, 1, 0, 0] 4)) (L' := [(0, .slice Ap0 a0.length cp0), (4, .int .i64 x4_0), (12, .int .u64 (shl .u64 x3_0 8)), (13, .slice Ap0 a0.length cp0), (14, .int .i64 x4_0)]) (w' := W) (by kernel_rfl) ?_
          rcases two (decide (0 ≤ x4_0)) with c3 | c3
          · replace h := of_true h c3
            rcases two (decide (x4_0 < (a0.length : Int))) with c4 | c4
            · replace h := of_true h c4
              obtain ⟨q2, hAq2, hcq2⟩ := Rd.num (hr0.mono hM.below) (i := x4_0) (of_decide_eq_true c3) (by have h_ := of_decide_eq_true c4; omega)
              refine RunF.y (idx_y (d := some 15) (A := Ap0) (m := a0.length) (i := x4_0) (k2 := (pin Go.Proofs.Try.f23 [1, 1, 0, 1, 0, 0, 1, 0, 0] 5)) (by kernel_rfl) (of_decide_eq_true c3) (by have h_ := of_decide_eq_true c4; omega) hAq2) trivial ?_
              refine RunF.y (ld_y (d := some 16) (p := (q2.add (x4_0 : Int).toNat)) (k2 := (pin Go.Proofs.Try.f23 [1, 1, 0, 1, 0, 0, 1, 0, 0] 6)) (.int .u8 (rd a0 x4_0)) (by kernel_rfl)) hcq2 ?_
              refine RunF.go 11 [0, 3, 4] (k' := (pl Go.Proofs.Try.f23 [1, 1, 0, 1, 0, 0])) (L' := [(0, .slice Ap0 a0.length cp0), (3, .int .u64 (bor .u64 (shl .u64 x3_0 8) (U64 (rd a0 x4_0)))), (4, .int .i64 (I64 (x4_0 + 1)))]) (w' := W) (by kernel_rfl) ?_
              obtain ⟨y5, hy, h⟩ := Option.bind_eq_some_iff.mp h
              rw [show (bor .u64 (shl .u64 x3_0 8) (U64 (rd a0 x4_0))) = y5 from Option.some.inj hy]
              clear hy
              exact ih0 k (by omega) y5 (I64 (x4_0 + 1)) _ (hM.pick [] rfl rfl) h
            · replace h := of_false h c4
              cases h
          · replace h := of_false h c3
            cases h
        · replace h := of_false h c1
          refine RunF.know 8 (b := false) (by kernel_rfl) c1 ?_
          refine RunF.go 7 [2] (k' := (pl Go.Proofs.Try.f23 [1, 1, 1, 1])) (L' := [(2, .int .u64 x3_0)]) (w' := W) (by kernel_rfl) ?_
          obtain rfl := Option.some.inj h
          exact RunF.ret1 2 (.int .u64 x3_0) (fn := Go.Proofs.Try.f23) Go.Proofs.Try.func23 (by kernel_rfl) (by kernel_rfl) (by kernel_rfl) ⟨_, rfl, rfl, (hM.pick [] rfl rfl)⟩
  exact l0 k (Nat.le_refl _) 0 0 _ (hM.pick [] rfl rfl) h

/-! ### scrim/scrimref8.big: function 29 -/
def scrimref8_big.l0 : Nat → (List Int) → (List Int) → Int → Option (List Int)
  | 0, _, _, _ => none
  | k + 1, a0, x3_0, x4_0 => if (decide (x4_0 < (a0.length : Int))) = true then (if (decide (0 ≤ x4_0)) = true then (if (decide (x4_0 ≤ (I64 (x4_0 + 4)))) = true then (if (decide ((I64 (x4_0 + 4)) ≤ (a0.length : Int))) = true then ((scrimref1_Big.f k ((a0.take (I64 (x4_0 + 4) : Int).toNat).drop (x4_0 : Int).toNat)).bind fun t13 => (if (decide (x3_0.length + ([U32 (t13)] : List Int).length ≤ 1000000000)) = true then (scrimref8_big.l0 k a0 (x3_0 ++ ([U32 (t13)] : List Int)) (I64 (x4_0 + 4))) else (none))) else (none)) else (none)) else (none)) else (some x3_0)
def scrimref8_big.f (k : Nat) (a0 : List Int) : Option (List Int) := scrimref8_big.l0 k a0 ([] : List Int) 0
set_option maxRecDepth 100000 in
theorem scrimref8_big.calls (k : Nat) (Ap0 : Option Addr) (np0 cp0 : Nat) (a0 : List Int) (r : List Int) (w : World) (hr0 : Rd w (.slice Ap0 np0 cp0) (nums .u8 a0)) (h : scrimref8_big.f k a0 = some r) :
    Calls Go.Proofs.Try.prog 29 #[(.slice Ap0 np0 cp0)] w (Ret fun v w' => ∃ A0' n0' c0', v = .slice A0' n0' c0' ∧ Mem w w' [⟨.slice A0' n0' c0', 43, 1, nums .u32 r⟩]) := by
  obtain rfl : a0.length = np0 := by have h_ := hr0.1; simpa [nums_length, bools_length, strs_length] using h_
  unfold scrimref8_big.f at h
  refine calls_of [.slice Ap0 a0.length cp0] (fn := Go.Proofs.Try.f29) Go.Proofs.Try.func29 (by kernel_rfl) (by kernel_rfl) ?_
  have hM := Mem.refl w
  refine RunF.go 15 [0, 3, 4] (k' := (pl Go.Proofs.Try.f29 [1, 1, 0, 1, 0, 0])) (L' := [(0, .slice Ap0 a0.length cp0), (3, .slice none 0 0), (4, .int .i64 0)]) (w' := w) (by kernel_rfl) ?_
  replace hM := hM.nil 43
  have l0 : ∀ (k_ : Nat), k_ ≤ k → ∀ (A3_0 : Option Addr) (c3_0 : Nat) (x3_0 : List Int) (x4_0 : Int) (W : World) (hM : Mem w W [⟨.slice A3_0 x3_0.length c3_0, 43, 1, nums .u32 x3_0⟩]) (h : scrimref8_big.l0 k_ a0 x3_0 x4_0 = some r), RunF Go.Proofs.Try.prog (Ret fun v w' => ∃ A0' n0' c0', v = .slice A0' n0' c0' ∧ Mem w w' [⟨.slice A0' n0' c0', 43, 1, nums .u32 r⟩]) 29 (pl Go.Proofs.Try.f29 [1, 1, 0, 1, 0, 0]) 22 [(0, .slice Ap0 a0.length cp0), (3, .slice A3_0 x3_0.length c3_0), (4, .int .i64 x4_0)] W := by
    intro k_
    induction k_ using Nat.strongRecOn with
    | _ k_ ih0 =>
      intro hk A3_0 c3_0 x3_0 x4_0 W hM h
      cases k_ with
      | zero => exact absurd h (by simp [scrimref8_big.l0])
      | succ k =>
        simp only [scrimref8_big.l0] at h
        replace ih0 : ∀ m, m ≤ k → _ := fun m hm => ih0 m (by omega) (by omega)
        refine RunF.go 8 [0, 3, 4, 8] (k' := (pl Go.Proofs.Try.f29 [1, 1, 0, 1, 0, 0, 0, 1])) (L' := [(0, .slice Ap0 a0.length cp0), (3, .slice A3_0 x3_0.length c3_0), (4, .int .i64 x4_0), (8, .bool (decide (x4_0 < (a0.length : Int))))]) (w' := W) (by kernel_rfl) ?_
        rcases two (decide (x4_0 < (a0.length : Int))) with c3 | c3
        · replace h := of_true h c3
          refine RunF.know 8 (b := true) (by kernel_rfl) c3 ?_
          refine RunF.go 10 [0, 4, 11, 12, 13, 15] (k' := (pin Go.Proofs.Try.f29 [1, 1, 0, 1, 0, 0, 1, 0, 0] 5)) (L' := [(0, .slice Ap0 a0.length cp0), (4, .int .i64 x4_0), (11, .slice A3_0 x3_0.length c3_0), (12, .slice Ap0 a0.length cp0), (13, .int .i64 x4_0), (15, .int .i64 (I64 (x4_0 + 4)))]) (w' := W) (by kernel_rfl) ?_
          rcases two (decide (0 ≤ x4_0)) with c4 | c4
          · replace h := of_true h c4
            rcases two (decide (x4_0 ≤ (I64 (x4_0 + 4)))) with c5 | c5
            · replace h := of_true h c5
              rcases two (decide ((I64 (x4_0 + 4)) ≤ (a0.length : Int))) with c6 | c6
              · replace h := of_true h c6
                have zc4 := of_decide_eq_true c4
                have zc5 := of_decide_eq_true c5
                have zc6 := of_decide_eq_true c6
                obtain ⟨A7, n8, c9, hy10, rfl, hs11⟩ := cut (P := Go.Proofs.Try.prog) (n := 22) (k := (pin Go.Proofs.Try.f29 [1, 1, 0, 1, 0, 0, 1, 0, 0] 5)) (L := [(0, .slice Ap0 a0.length cp0), (4, .int .i64 x4_0), (11, .slice A3_0 x3_0.length c3_0), (12, .slice Ap0 a0.length cp0), (13, .int .i64 x4_0), (15, .int .i64 (I64 (x4_0 + 4)))]) (d := some 16) (A := Ap0) (m := a0.length) (c := cp0) (l := x4_0) (h := I64 (x4_0 + 4)) (k2 := (pin Go.Proofs.Try.f29 [1, 1, 0, 1, 0, 0, 1, 0, 0] 6)) .u8 a0 (by kernel_rfl) (by omega) (by omega) (by omega) (hr0.mono hM.below)
                clear zc4
                clear zc5
                clear zc6
                refine RunF.y hy10 trivial ?_
                obtain ⟨t13, ht13, h⟩ := Option.bind_eq_some_iff.mp h
                refine RunF.call (d := some 17) (g := 23) (args := #[.slice A7 (((a0.take (I64 (x4_0 + 4) : Int).toNat).drop (x4_0 : Int).toNat).length) c9]) (k2 := (pin Go.Proofs.Try.f29 [1, 1, 0, 1, 0, 0, 1, 0, 0] 7)) (by kernel_rfl) (scrimref1_Big.calls k A7 (((a0.take (I64 (x4_0 + 4) : Int).toNat).drop (x4_0 : Int).toNat).length) c9 ((a0.take (I64 (x4_0 + 4) : Int).toNat).drop (x4_0 : Int).toNat) t13 _ (hs11 _ (hr0.mono hM.below)) ht13) ?_
                rintro _ W12 ⟨rfl, hM_⟩
                replace hM := hM.call hM_
                clear hM_ ht13
                refine RunF.go 1 [0, 4, 11, 18] (k' := (pin Go.Proofs.Try.f29 [1, 1, 0, 1, 0, 0, 1, 0, 0] 8)) (L' := [(0, .slice Ap0 a0.length cp0), (4, .int .i64 x4_0), (11, .slice A3_0 x3_0.length c3_0), (18, .int .u32 (U32 (t13)))]) (w' := W12) (by kernel_rfl) ?_
                refine RunF.new 43 1 1 (nums .u32 [U32 (t13)]) (d := some 19) (k2 := (pin Go.Proofs.Try.f29 [1, 1, 0, 1, 0, 0, 1, 0, 0] 9)) hM (by simp [nums, bools, strs]) (by kernel_rfl) (by kernel_rfl) ?_
                replace hM := hM
                intro g14 W15 hM
                rcases two (decide (x3_0.length + ([U32 (t13)] : List Int).length ≤ 1000000000)) with c21 | c21
                · replace h := of_true h c21
                  have h_ := of_decide_eq_true c21
                  obtain ⟨A17, n18, c19, W20, hD, hM', hS_⟩ := app_does (P := Go.Proofs.Try.prog) (n := 22) (k := (pin Go.Proofs.Try.f29 [1, 1, 0, 1, 0, 0, 1, 0, 0] 9)) (L := (upd [(0, .slice Ap0 a0.length cp0), (4, .int .i64 x4_0), (11, .slice A3_0 x3_0.length c3_0), (18, .int .u32 (U32 (t13)))] (some 19) (.slice (some ⟨g14, 0, none⟩) 1 1))) (d := some 20) (e := 43) (A := A3_0) (m := x3_0.length) (c := c3_0) (A2 := (some ⟨g14, 0, none⟩)) (m2 := 1) (c2 := 1) (cs := nums .u32 x3_0) (ys := nums .u32 ([U32 (t13)] : List Int)) (k2 := (pin Go.Proofs.Try.f29 [1, 1, 0, 1, 0, 0, 1, 0, 0] 10)) [⟨.slice (some ⟨g14, 0, none⟩) 1 1, 43, 1, nums .u32 [U32 (t13)]⟩] [] (by kernel_rfl) (hM.pick [0, 1] rfl rfl) (hM.rd 0 rfl) (one_nums _ _) (by omega)
                  rw [nums_append] at hM'
                  replace hM := hM'; clear h_ hM'
                  obtain rfl : (x3_0 ++ ([U32 (t13)] : List Int)).length = n18 := by have h_ := (hM.rd 1 rfl).1; simpa only [nums_length, bools_length, strs_length] using h_
                  refine RunF.does hD ?_
                  clear hD hS_
                  refine RunF.go 9 [0, 3, 4] (k' := (pl Go.Proofs.Try.f29 [1, 1, 0, 1, 0, 0])) (L' := [(0, .slice Ap0 a0.length cp0), (3, .slice A17 ((x3_0 ++ ([U32 (t13)] : List Int)).length) c19), (4, .int .i64 (I64 (x4_0 + 4)))]) (w' := W20) (by kernel_rfl) ?_
                  exact ih0 k (by omega) A17 c19 (x3_0 ++ ([U32 (t13)] : List Int)) (I64 (x4_0 + 4)) _ (hM.pick [1] rfl rfl) h
                · replace h := of_false h c21
                  cases h
              · replace h := of_false h c6
                cases h
            · replace h := of_false h c5
              cases h
          · replace h := of_false h c4
            cases h
        · replace h := of_false h c3
          refine RunF.know 8 (b := false) (by kernel_rfl) c3 ?_
          refine RunF.go 7 [2] (k' := (pl Go.Proofs.Try.f29 [1, 1, 1, 1])) (L' := [(2, .slice A3_0 x3_0.length c3_0)]) (w' := W) (by kernel_rfl) ?_
          obtain rfl := Option.some.inj h
          exact RunF.ret1 2 (.slice A3_0 x3_0.length c3_0) (fn := Go.Proofs.Try.f29) Go.Proofs.Try.func29 (by kernel_rfl) (by kernel_rfl) (by kernel_rfl) ⟨_, rfl, A3_0, x3_0.length, c3_0, rfl, (hM.pick [0] rfl rfl)⟩
  exact l0 k (Nat.le_refl _) none 0 ([] : List Int) 0 _ (hM.pick [0] rfl rfl) h

/-! ### scrim/scrimref8.New: function 17 -/
def scrimref8_New.f (k : Nat) (a0 : Int) (a1 : List Int) : Option (Option (Int × (List Int)) × Int) := if (a0 == 4) = true then (if ((a1.length : Int) != 16) = true then (some (none, 4)) else (if (a0 == 8) = true then ((scrimref8_stretched.f k a1).bind fun t5 => (some ((some (a0, t5)), 0))) else ((scrimref8_big.f k a1).bind fun t17 => (some ((some (a0, t17)), 0))))) else (if (a0 == 8) = true then (if ((a1.length : Int) != 16) = true then (some (none, 4)) else (if (a0 == 8) = true then ((scrimref8_stretched.f k a1).bind fun t32 => (some ((some (a0, t32)), 0))) else ((scrimref8_big.f k a1).bind fun t44 => (some ((some (a0, t44)), 0))))) else (if (a0 == 5) = true then (if ((a1.length : Int) != 32) = true then (some (none, 4)) else (if (a0 == 8) = true then ((scrimref8_stretched.f k a1).bind fun t59 => (some ((some (a0, t59)), 0))) else ((scrimref8_big.f k a1).bind fun t71 => (some ((some (a0, t71)), 0))))) else (some (none, 2))))
set_option maxRecDepth 100000 in
set_option maxHeartbeats 8000000 in
theorem scrimref8_New.calls (k : Nat) (a0 : Int) (Ap1 : Option Addr) (np1 cp1 : Nat) (a1 : List Int) (r : Option (Int × (List Int)) × Int) (w : World) (hr1 : Rd w (.slice Ap1 np1 cp1) (nums .u8 a1)) (h : scrimref8_New.f k a0 a1 = some r) :
    Calls Go.Proofs.Try.prog 17 #[.int .i64 a0, (.slice Ap1 np1 cp1)] w (Ret fun v w' => ∃ (v0' : Value) (F0' : List Ent), v = .tuple #[v0', .int .i64 r.2] ∧ (rOpt (rPtr Rs_scrimref8_Small)) (Oks F0') v0' r.1 ∧ Mem w w' (Gs [] [F0'])) := by
  obtain rfl : a1.length = np1 := by have h_ := hr1.1; simpa [nums_length, bools_length, strs_length] using h_
  unfold scrimref8_New.f at h
  refine calls_of [.int .i64 a0, .slice Ap1 a1.length cp1] (fn := Go.Proofs.Try.f17) Go.Proofs.Try.func17 (by kernel_rfl) (by kernel_rfl) ?_
  have hM := Mem.refl w
  refine RunF.go 21 [0, 1, 6, 7, 8] (k' := (pl Go.Proofs.Try.f17 [1, 1, 0, 1, 0, 0, 1])) (L' := [(0, .int .i64 a0), (1, .slice Ap1 a1.length cp1), (6, .int .i64 16), (7, .int .i64 a0), (8, .bool (a0 == 4))]) (w' := w) (by kernel_rfl) ?_
  rcases two ((a0 == 4)) with c1 | c1
  · replace h := of_true h c1
    refine RunF.know 8 (b := true) (by kernel_rfl) c1 ?_
    refine RunF.go 13 [0, 1, 16] (k' := (pl Go.Proofs.Try.f17 [1, 1, 1, 0, 1])) (L' := [(0, .int .i64 a0), (1, .slice Ap1 a1.length cp1), (16, .bool ((a1.length : Int) != 16))]) (w' := w) (by kernel_rfl) ?_
    rcases two (((a1.length : Int) != 16)) with c2 | c2
    · replace h := of_true h c2
      refine RunF.know 16 (b := true) (by kernel_rfl) c2 ?_
      refine RunF.go 6 [4, 5] (k' := (pl Go.Proofs.Try.f17 [1, 1, 1, 0, 1, 0, 1])) (L' := [(4, .pointer none), (5, .int .i64 4)]) (w' := w) (by kernel_rfl) ?_
      obtain rfl := Option.some.inj h
      exact RunF.ret2 4 5 (.pointer none) (.int .i64 4) (fn := Go.Proofs.Try.f17) Go.Proofs.Try.func17 (by kernel_rfl) (by kernel_rfl) (by kernel_rfl) (by kernel_rfl) ⟨_, rfl, .pointer none, ([] : List Ent), rfl, (.inl ⟨rfl, rfl⟩), (Mem.pickF (hM.as (H' := Gs [] []) rfl) [] rfl rfl (by simp [Gs]))⟩
    · replace h := of_false h c2
      refine RunF.know 16 (b := false) (by kernel_rfl) c2 ?_
      refine RunF.go 8 [0, 1, 18] (k' := (pl Go.Proofs.Try.f17 [1, 1, 1, 1, 0, 1])) (L' := [(0, .int .i64 a0), (1, .slice Ap1 a1.length cp1), (18, .bool (a0 == 8))]) (w' := w) (by kernel_rfl) ?_
      rcases two ((a0 == 8)) with c3 | c3
      · replace h := of_true h c3
        refine RunF.know 18 (b := true) (by kernel_rfl) c3 ?_
        refine RunF.go 5 [19, 20] (k' := (pin Go.Proofs.Try.f17 [1, 1, 1, 1, 0, 1, 0, 0] 2)) (L' := [(19, .int .i64 a0), (20, .slice Ap1 a1.length cp1)]) (w' := w) (by kernel_rfl) ?_
        obtain ⟨t5, ht5, h⟩ := Option.bind_eq_some_iff.mp h
        refine RunF.call (d := some 21) (g := 28) (args := #[.slice Ap1 a1.length cp1]) (k2 := (pin Go.Proofs.Try.f17 [1, 1, 1, 1, 0, 1, 0, 0] 3)) (by kernel_rfl) (scrimref8_stretched.calls k Ap1 a1.length cp1 a1 t5 _ (hr1.mono hM.below) ht5) ?_
        rintro _ W4 ⟨A6, n7, c8, rfl, hM_⟩
        obtain rfl : t5.length = n7 := by have h_ := (hM_.rd 0 rfl).1; simpa [nums_length, bools_length, strs_length] using h_
        replace hM := hM.call hM_
        clear hM_ ht5
        obtain ⟨Fq10, hfq10, hM⟩ := Mem.freezeS (H1 := []) (H2 := []) (Fs := []) (A := A6) (n := t5.length) (c := c8) (ty := 43) (cs := nums .u32 t5) (hM.as rfl)
        refine RunF.go 1 [22] (k' := (pin Go.Proofs.Try.f17 [1, 1, 1, 1, 0, 1, 0, 0] 4)) (L' := [(22, .agg ([.int .i64 a0, .slice A6 t5.length c8]).toArray)]) (w' := W4) (by kernel_rfl) ?_
        refine RunF.newVar 66 ([.int .i64 a0, .slice A6 t5.length c8]) (d := some 23) (k2 := (pin Go.Proofs.Try.f17 [1, 1, 1, 1, 0, 1, 0, 0] 5)) hM (by kernel_rfl) ?_
        intro g11 W12 hM
        obtain ⟨Fq14, hfq14, hM⟩ := Mem.freezeP (H1 := []) (H2 := []) (Fs := [Fq10]) (g := g11) (ty := 66) (cs := [.int .i64 a0, .slice A6 t5.length c8]) (hM.as rfl)
        have hs15 : rPtr Rs_scrimref8_Small (andZ (Oks Fq14) (Oks Fq10)) (.pointer (some ⟨g11, 0, none⟩)) (a0, t5) := ⟨g11, _, rfl, hfq14.up (fun _ hz_ => hz_.1), _, _, rfl, rfl, ((up_nums .u32) _ _ _ _ (fun _ hz_ => hz_.2) (rnums_of hfq10 (Mem.oks (hM.as (H' := Gs [] [Fq14, Fq10]) rfl) 1 rfl)))⟩
        refine RunF.go 3 [4, 5] (k' := (pl Go.Proofs.Try.f17 [1, 1, 1, 1, 0, 1, 0, 1])) (L' := [(4, .pointer (some ⟨g11, 0, none⟩)), (5, .int .i64 0)]) (w' := W12) (by kernel_rfl) ?_
        obtain rfl := Option.some.inj h
        exact RunF.ret2 4 5 (.pointer (some ⟨g11, 0, none⟩)) (.int .i64 0) (fn := Go.Proofs.Try.f17) Go.Proofs.Try.func17 (by kernel_rfl) (by kernel_rfl) (by kernel_rfl) (by kernel_rfl) ⟨_, rfl, .pointer (some ⟨g11, 0, none⟩), (Fq14 ++ Fq10), rfl, (up_opt (up_ptr up_Rs_scrimref8_Small)) _ _ _ _ (fun _ (hz_ : Oks _ _) => (And.intro hz_.left hz_.right)) (.inr ⟨(a0, t5), rfl, hs15⟩), (Mem.pickF (hM.as (H' := Gs [] [Fq14, Fq10]) rfl) [0, 1] rfl rfl (by simp [Gs]))⟩
      · replace h := of_false h c3
        refine RunF.know 18 (b := false) (by kernel_rfl) c3 ?_
        refine RunF.go 6 [24, 25] (k' := (pin Go.Proofs.Try.f17 [1, 1, 1, 1, 1, 0] 2)) (L' := [(24, .int .i64 a0), (25, .slice Ap1 a1.length cp1)]) (w' := w) (by kernel_rfl) ?_
        obtain ⟨t17, ht17, h⟩ := Option.bind_eq_some_iff.mp h
        refine RunF.call (d := some 26) (g := 29) (args := #[.slice Ap1 a1.length cp1]) (k2 := (pin Go.Proofs.Try.f17 [1, 1, 1, 1, 1, 0] 3)) (by kernel_rfl) (scrimref8_big.calls k Ap1 a1.length cp1 a1 t17 _ (hr1.mono hM.below) ht17) ?_
        rintro _ W16 ⟨A18, n19, c20, rfl, hM_⟩
        obtain rfl : t17.length = n19 := by have h_ := (hM_.rd 0 rfl).1; simpa [nums_length, bools_length, strs_length] using h_
        replace hM := hM.call hM_
        clear hM_ ht17
        obtain ⟨Fq22, hfq22, hM⟩ := Mem.freezeS (H1 := []) (H2 := []) (Fs := []) (A := A18) (n := t17.length) (c := c20) (ty := 43) (cs := nums .u32 t17) (hM.as rfl)
        refine RunF.go 1 [27] (k' := (pin Go.Proofs.Try.f17 [1, 1, 1, 1, 1, 0] 4)) (L' := [(27, .agg ([.int .i64 a0, .slice A18 t17.length c20]).toArray)]) (w' := W16) (by kernel_rfl) ?_
        refine RunF.newVar 66 ([.int .i64 a0, .slice A18 t17.length c20]) (d := some 28) (k2 := (pin Go.Proofs.Try.f17 [1, 1, 1, 1, 1, 0] 5)) hM (by kernel_rfl) ?_
        intro g23 W24 hM
        obtain ⟨Fq26, hfq26, hM⟩ := Mem.freezeP (H1 := []) (H2 := []) (Fs := [Fq22]) (g := g23) (ty := 66) (cs := [.int .i64 a0, .slice A18 t17.length c20]) (hM.as rfl)
        have hs27 : rPtr Rs_scrimref8_Small (andZ (Oks Fq26) (Oks Fq22)) (.pointer (some ⟨g23, 0, none⟩)) (a0, t17) := ⟨g23, _, rfl, hfq26.up (fun _ hz_ => hz_.1), _, _, rfl, rfl, ((up_nums .u32) _ _ _ _ (fun _ hz_ => hz_.2) (rnums_of hfq22 (Mem.oks (hM.as (H' := Gs [] [Fq26, Fq22]) rfl) 1 rfl)))⟩
        refine RunF.go 3 [4, 5] (k' := (pl Go.Proofs.Try.f17 [1, 1, 1, 1, 1, 1])) (L' := [(4, .pointer (some ⟨g23, 0, none⟩)), (5, .int .i64 0)]) (w' := W24) (by kernel_rfl) ?_
        obtain rfl := Option.some.inj h
        exact RunF.ret2 4 5 (.pointer (some ⟨g23, 0, none⟩)) (.int .i64 0) (fn := Go.Proofs.Try.f17) Go.Proofs.Try.func17 (by kernel_rfl) (by kernel_rfl) (by kernel_rfl) (by kernel_rfl) ⟨_, rfl, .pointer (some ⟨g23, 0, none⟩), (Fq26 ++ Fq22), rfl, (up_opt (up_ptr up_Rs_scrimref8_Small)) _ _ _ _ (fun _ (hz_ : Oks _ _) => (And.intro hz_.left hz_.right)) (.inr ⟨(a0, t17), rfl, hs27⟩), (Mem.pickF (hM.as (H' := Gs [] [Fq26, Fq22]) rfl) [0, 1] rfl rfl (by simp [Gs]))⟩
  · replace h := of_false h c1
    refine RunF.know 8 (b := false) (by kernel_rfl) c1 ?_
    refine RunF.go 5 [0, 1, 6, 7, 8] (k' := (pl Go.Proofs.Try.f17 [1, 1, 0, 1, 0, 1])) (L' := [(0, .int .i64 a0), (1, .slice Ap1 a1.length cp1), (6, .int .i64 16), (7, .int .i64 a0), (8, .bool (a0 == 8))]) (w' := w) (by kernel_rfl) ?_
    rcases two ((a0 == 8)) with c28 | c28
    · replace h := of_true h c28
      refine RunF.know 8 (b := true) (by kernel_rfl) c28 ?_
      refine RunF.go 11 [0, 1, 16] (k' := (pl Go.Proofs.Try.f17 [1, 1, 1, 0, 1])) (L' := [(0, .int .i64 a0), (1, .slice Ap1 a1.length cp1), (16, .bool ((a1.length : Int) != 16))]) (w' := w) (by kernel_rfl) ?_
      rcases two (((a1.length : Int) != 16)) with c29 | c29
      · replace h := of_true h c29
        refine RunF.know 16 (b := true) (by kernel_rfl) c29 ?_
        refine RunF.go 6 [4, 5] (k' := (pl Go.Proofs.Try.f17 [1, 1, 1, 0, 1, 0, 1])) (L' := [(4, .pointer none), (5, .int .i64 4)]) (w' := w) (by kernel_rfl) ?_
        obtain rfl := Option.some.inj h
        exact RunF.ret2 4 5 (.pointer none) (.int .i64 4) (fn := Go.Proofs.Try.f17) Go.Proofs.Try.func17 (by kernel_rfl) (by kernel_rfl) (by kernel_rfl) (by kernel_rfl) ⟨_, rfl, .pointer none, ([] : List Ent), rfl, (.inl ⟨rfl, rfl⟩), (Mem.pickF (hM.as (H' := Gs [] []) rfl) [] rfl rfl (by simp [Gs]))⟩
      · replace h := of_false h c29
        refine RunF.know 16 (b := false) (by kernel_rfl) c29 ?_
        refine RunF.go 8 [0, 1, 18] (k' := (pl Go.Proofs.Try.f17 [1, 1, 1, 1, 0, 1])) (L' := [(0, .int .i64 a0), (1, .slice Ap1 a1.length cp1), (18, .bool (a0 == 8))]) (w' := w) (by kernel_rfl) ?_
        rcases two ((a0 == 8)) with c30 | c30
        · replace h := of_true h c30
          refine RunF.know 18 (b := true) (by kernel_rfl) c30 ?_
          refine RunF.go 5 [19, 20] (k' := (pin Go.Proofs.Try.f17 [1, 1, 1, 1, 0, 1, 0, 0] 2)) (L' := [(19, .int .i64 a0), (20, .slice Ap1 a1.length cp1)]) (w' := w) (by kernel_rfl) ?_
          obtain ⟨t32, ht32, h⟩ := Option.bind_eq_some_iff.mp h
          refine RunF.call (d := some 21) (g := 28) (args := #[.slice Ap1 a1.length cp1]) (k2 := (pin Go.Proofs.Try.f17 [1, 1, 1, 1, 0, 1, 0, 0] 3)) (by kernel_rfl) (scrimref8_stretched.calls k Ap1 a1.length cp1 a1 t32 _ (hr1.mono hM.below) ht32) ?_
          rintro _ W31 ⟨A33, n34, c35, rfl, hM_⟩
          obtain rfl : t32.length = n34 := by have h_ := (hM_.rd 0 rfl).1; simpa [nums_length, bools_length, strs_length] using h_
          replace hM := hM.call hM_
          clear hM_ ht32
          obtain ⟨Fq37, hfq37, hM⟩ := Mem.freezeS (H1 := []) (H2 := []) (Fs := []) (A := A33) (n := t32.length) (c := c35) (ty := 43) (cs := nums .u32 t32) (hM.as rfl)
          refine RunF.go 1 [22] (k' := (pin Go.Proofs.Try.f17 [1, 1, 1, 1, 0, 1, 0, 0] 4)) (L' := [(22, .agg ([.int .i64 a0, .slice A33 t32.length c35]).toArray)]) (w' := W31) (by kernel_rfl) ?_
          refine RunF.newVar 66 ([.int .i64 a0, .slice A33 t32.length c35]) (d := some 23) (k2 := (pin Go.Proofs.Try.f17 [1, 1, 1, 1, 0, 1, 0, 0] 5)) hM (by kernel_rfl) ?_
          intro g38 W39 hM
          obtain ⟨Fq41, hfq41, hM⟩ := Mem.freezeP (H1 := []) (H2 := []) (Fs := [Fq37]) (g := g38) (ty := 66) (cs := [.int .i64 a0, .slice A33 t32.length c35]) (hM.as rfl)
          have hs42 : rPtr Rs_scrimref8_Small (andZ (Oks Fq41) (Oks Fq37)) (.pointer (some ⟨g38, 0, none⟩)) (a0, t32) := ⟨g38, _, rfl, hfq41.up (fun _ hz_ => hz_.1), _, _, rfl, rfl, ((up_nums .u32) _ _ _ _ (fun _ hz_ => hz_.2) (rnums_of hfq37 (Mem.oks (hM.as (H' := Gs [] [Fq41, Fq37]) rfl) 1 rfl)))⟩
          refine RunF.go 3 [4, 5] (k' := (pl Go.Proofs.Try.f17 [1, 1, 1, 1, 0, 1, 0, 1])) (L' := [(4, .pointer (some ⟨g38, 0, none⟩)), (5, .int .i64 0)]) (w' := W39) (by kernel_rfl) ?_
          obtain rfl := Option.some.inj h
          exact RunF.ret2 4 5 (.pointer (some ⟨g38, 0, none⟩)) (.int .i64 0) (fn := Go.Proofs.Try.f17) Go.Proofs.Try.func17 (by kernel_rfl) (by kernel_rfl) (by kernel_rfl) (by kernel_rfl) ⟨_, rfl, .pointer (some ⟨g38, 0, none⟩), (Fq41 ++ Fq37), rfl, (up_opt (up_ptr up_Rs_scrimref8_Small)) _ _ _ _ (fun _ (hz_ : Oks _ _) => (And.intro hz_.left hz_.right)) (.inr ⟨(a0, t32), rfl, hs42⟩), (Mem.pickF (hM.as (H' := Gs [] [Fq41, Fq37]) rfl) [0, 1] rfl rfl (by simp [Gs]))⟩
        · replace h := of_false h c30
          refine RunF.know 18 (b := false) (by kernel_rfl) c30 ?_
          refine RunF.go 6 [24, 25] (k' := (pin Go.Proofs.Try.f17 [1, 1, 1, 1, 1, 0] 2)) (L' := [(24, .int .i64 a0), (25, .slice Ap1 a1.length cp1)]) (w' := w) (by kernel_rfl) ?_
          obtain ⟨t44, ht44, h⟩ := Option.bind_eq_some_iff.mp h
          refine RunF.call (d := some 26) (g := 29) (args := #[.slice Ap1 a1.length cp1]) (k2 := (pin Go.Proofs.Try.f17 [1, 1, 1, 1, 1, 0] 3)) (by kernel_rfl) (scrimref8_big.calls k Ap1 a1.length cp1 a1 t44 _ (hr1.mono hM.below) ht44) ?_
          rintro _ W43 ⟨A45, n46, c47, rfl, hM_⟩
          obtain rfl : t44.length = n46 := by have h_ := (hM_.rd 0 rfl).1; simpa [nums_length, bools_length, strs_length] using h_
          replace hM := hM.call hM_
          clear hM_ ht44
          obtain ⟨Fq49, hfq49, hM⟩ := Mem.freezeS (H1 := []) (H2 := []) (Fs := []) (A := A45) (n := t44.length) (c := c47) (ty := 43) (cs := nums .u32 t44) (hM.as rfl)
          refine RunF.go 1 [27] (k' := (pin Go.Proofs.Try.f17 [1, 1, 1, 1, 1, 0] 4)) (L' := [(27, .agg ([.int .i64 a0, .slice A45 t44.length c47]).toArray)]) (w' := W43) (by kernel_rfl) ?_
          refine RunF.newVar 66 ([.int .i64 a0, .slice A45 t44.length c47]) (d := some 28) (k2 := (pin Go.Proofs.Try.f17 [1, 1, 1, 1, 1, 0] 5)) hM (by kernel_rfl) ?_
          intro g50 W51 hM
          obtain ⟨Fq53, hfq53, hM⟩ := Mem.freezeP (H1 := []) (H2 := []) (Fs := [Fq49]) (g := g50) (ty := 66) (cs := [.int .i64 a0, .slice A45 t44.length c47]) (hM.as rfl)
          have hs54 : rPtr Rs_scrimref8_Small (andZ (Oks Fq53) (Oks Fq49)) (.pointer (some ⟨g50, 0, none⟩)) (a0, t44) := ⟨g50, _, rfl, hfq53.up (fun _ hz_ => hz_.1), _, _, rfl, rfl, ((up_nums .u32) _ _ _ _ (fun _ hz_ => hz_.2) (rnums_of hfq49 (Mem.oks (hM.as (H' := Gs [] [Fq53, Fq49]) rfl) 1 rfl)))⟩
          refine RunF.go 3 [4, 5] (k' := (pl Go.Proofs.Try.f17 [1, 1, 1, 1, 1, 1])) (L' := [(4, .pointer (some ⟨g50, 0, none⟩)), (5, .int .i64 0)]) (w' := W51) (by kernel_rfl) ?_
          obtain rfl := Option.some.inj h
          exact RunF.ret2 4 5 (.pointer (some ⟨g50, 0, none⟩)) (.int .i64 0) (fn := Go.Proofs.Try.f17) Go.Proofs.Try.func17 (by kernel_rfl) (by kernel_rfl) (by kernel_rfl) (by kernel_rfl) ⟨_, rfl, .pointer (some ⟨g50, 0, none⟩), (Fq53 ++ Fq49), rfl, (up_opt (up_ptr up_Rs_scrimref8_Small)) _ _ _ _ (fun _ (hz_ : Oks _ _) => (And.intro hz_.left hz_.right)) (.inr ⟨(a0, t44), rfl, hs54⟩), (Mem.pickF (hM.as (H' := Gs [] [Fq53, Fq49]) rfl) [0, 1] rfl rfl (by simp [Gs]))⟩
    · replace h := of_false h c28
      refine RunF.know 8 (b := false) (by kernel_rfl) c28 ?_
      refine RunF.go 6 [0, 1, 11] (k' := (pl Go.Proofs.Try.f17 [1, 1, 0, 1, 0, 1, 1, 1])) (L' := [(0, .int .i64 a0), (1, .slice Ap1 a1.length cp1), (11, .bool (a0 == 5))]) (w' := w) (by kernel_rfl) ?_
      rcases two ((a0 == 5)) with c55 | c55
      · replace h := of_true h c55
        refine RunF.know 11 (b := true) (by kernel_rfl) c55 ?_
        refine RunF.go 13 [0, 1, 16] (k' := (pl Go.Proofs.Try.f17 [1, 1, 1, 0, 1])) (L' := [(0, .int .i64 a0), (1, .slice Ap1 a1.length cp1), (16, .bool ((a1.length : Int) != 32))]) (w' := w) (by kernel_rfl) ?_
        rcases two (((a1.length : Int) != 32)) with c56 | c56
        · replace h := of_true h c56
          refine RunF.know 16 (b := true) (by kernel_rfl) c56 ?_
          refine RunF.go 6 [4, 5] (k' := (pl Go.Proofs.Try.f17 [1, 1, 1, 0, 1, 0, 1])) (L' := [(4, .pointer none), (5, .int .i64 4)]) (w' := w) (by kernel_rfl) ?_
          obtain rfl := Option.some.inj h
          exact RunF.ret2 4 5 (.pointer none) (.int .i64 4) (fn := Go.Proofs.Try.f17) Go.Proofs.Try.func17 (by kernel_rfl) (by kernel_rfl) (by kernel_rfl) (by kernel_rfl) ⟨_, rfl, .pointer none, ([] : List Ent), rfl, (.inl ⟨rfl, rfl⟩), (Mem.pickF (hM.as (H' := Gs [] []) rfl) [] rfl rfl (by simp [Gs]))⟩
        · replace h := of_false h c56
          refine RunF.know 16 (b := false) (by kernel_rfl) c56 ?_
          refine RunF.go 8 [0, 1, 18] (k' := (pl Go.Proofs.Try.f17 [1, 1, 1, 1, 0, 1])) (L' := [(0, .int .i64 a0), (1, .slice Ap1 a1.length cp1), (18, .bool (a0 == 8))]) (w' := w) (by kernel_rfl) ?_
          rcases two ((a0 == 8)) with c57 | c57
          · replace h := of_true h c57
            refine RunF.know 18 (b := true) (by kernel_rfl) c57 ?_
            refine RunF.go 5 [19, 20] (k' := (pin Go.Proofs.Try.f17 [1, 1, 1, 1, 0, 1, 0, 0] 2)) (L' := [(19, .int .i64 a0), (20, .slice Ap1 a1.length cp1)]) (w' := w) (by kernel_rfl) ?_
            obtain ⟨t59, ht59, h⟩ := Option.bind_eq_some_iff.mp h
            refine RunF.call (d := some 21) (g := 28) (args := #[.slice Ap1 a1.length cp1]) (k2 := (pin Go.Proofs.Try.f17 [1, 1, 1, 1, 0, 1, 0, 0] 3)) (by kernel_rfl) (scrimref8_stretched.calls k Ap1 a1.length cp1 a1 t59 _ (hr1.mono hM.below) ht59) ?_
            rintro _ W58 ⟨A60, n61, c62, rfl, hM_⟩
            obtain rfl : t59.length = n61 := by have h_ := (hM_.rd 0 rfl).1; simpa [nums_length, bools_length, strs_length] using h_
            replace hM := hM.call hM_
            clear hM_ ht59
            obtain ⟨Fq64, hfq64, hM⟩ := Mem.freezeS (H1 := []) (H2 := []) (Fs := []) (A := A60) (n := t59.length) (c := c62) (ty := 43) (cs := nums .u32 t59) (hM.as rfl)
            refine RunF.go 1 [22] (k' := (pin Go.Proofs.Try.f17 [1, 1, 1, 1, 0, 1, 0, 0] 4)) (L' := [(22, .agg ([.int .i64 a0, .slice A60 t59.length c62]).toArray)]) (w' := W58) (by kernel_rfl) ?_
            refine RunF.newVar 66 ([.int .i64 a0, .slice A60 t59.length c62]) (d := some 23) (k2 := (pin Go.Proofs.Try.f17 [1, 1, 1, 1, 0, 1, 0, 0] 5)) hM (by kernel_rfl) ?_
            intro g65 W66 hM
            obtain ⟨Fq68, hfq68, hM⟩ := Mem.freezeP (H1 := []) (H2 := []) (Fs := [Fq64]) (g := g65) (ty := 66) (cs := [.int .i64 a0, .slice A60 t59.length c62]) (hM.as rfl)
            have hs69 : rPtr Rs_scrimref8_Small (andZ (Oks Fq68) (Oks Fq64)) (.pointer (some ⟨g65, 0, none⟩)) (a0, t59) := ⟨g65, _, rfl, hfq68.up (fun _ hz_ => hz_.1), _, _, rfl, rfl, ((up_nums .u32) _ _ _ _ (fun _ hz_ => hz_.2) (rnums_of hfq64 (Mem.oks (hM.as (H' := Gs [] [Fq68, Fq64]) rfl) 1 rfl)))⟩
            refine RunF.go 3 [4, 5] (k' := (pl Go.Proofs.Try.f17 [1, 1, 1, 1, 0, 1, 0, 1])) (L' := [(4, .pointer (some ⟨g65, 0, none⟩)), (5, .int .i64 0)]) (w' := W66) (by kernel_rfl) ?_
            obtain rfl := Option.some.inj h
            exact RunF.ret2 4 5 (.pointer (some ⟨g65, 0, none⟩)) (.int .i64 0) (fn := Go.Proofs.Try.f17) Go.Proofs.Try.func17 (by kernel_rfl) (by kernel_rfl) (by kernel_rfl) (by kernel_rfl) ⟨_, rfl, .pointer (some ⟨g65, 0, none⟩), (Fq68 ++ Fq64), rfl, (up_opt (up_ptr up_Rs_scrimref8_Small)) _ _ _ _ (fun _ (hz_ : Oks _ _) => (And.intro hz_.left hz_.right)) (.inr ⟨(a0, t59), rfl, hs69⟩), (Mem.pickF (hM.as (H' := Gs [] [Fq68, Fq64]) rfl) [0, 1] rfl rfl (by simp [Gs]))⟩
          · replace h := of_false h c57
            refine RunF.know 18 (b := false) (by kernel_rfl) c57 ?_
            refine RunF.go 6 [24, 25] (k' := (pin Go.Proofs.Try.f17 [1, 1, 1, 1, 1, 0] 2)) (L' := [(24, .int .i64 a0), (25, .slice Ap1 a1.length cp1)]) (w' := w) (by kernel_rfl) ?_
            obtain ⟨t71, ht71, h⟩ := Option.bind_eq_some_iff.mp h
            refine RunF.call (d := some 26) (g := 29) (args := #[.slice Ap1 a1.length cp1]) (k2 := (pin Go.Proofs.Try.f17 [1, 1, 1, 1, 1, 0] 3)) (by kernel_rfl) (scrimref8_big.calls k Ap1 a1.length cp1 a1 t71 _ (hr1.mono hM.below) ht71) ?_
            rintro _ W70 ⟨A72, n73, c74, rfl, hM_⟩
            obtain rfl : t71.length = n73 := by have h_ := (hM_.rd 0 rfl).1; simpa [nums_length, bools_length, strs_length] using h_
            replace hM := hM.call hM_
            clear hM_ ht71
            obtain ⟨Fq76, hfq76, hM⟩ := Mem.freezeS (H1 := []) (H2 := []) (Fs := []) (A := A72) (n := t71.length) (c := c74) (ty := 43) (cs := nums .u32 t71) (hM.as rfl)
            refine RunF.go 1 [27] (k' := (pin Go.Proofs.Try.f17 [1, 1, 1, 1, 1, 0] 4)) (L' := [(27, .agg ([.int .i64 a0, .slice A72 t71.length c74]).toArray)]) (w' := W70) (by kernel_rfl) ?_
            refine RunF.newVar 66 ([.int .i64 a0, .slice A72 t71.length c74]) (d := some 28) (k2 := (pin Go.Proofs.Try.f17 [1, 1, 1, 1, 1, 0] 5)) hM (by kernel_rfl) ?_
            intro g77 W78 hM
            obtain ⟨Fq80, hfq80, hM⟩ := Mem.freezeP (H1 := []) (H2 := []) (Fs := [Fq76]) (g := g77) (ty := 66) (cs := [.int .i64 a0, .slice A72 t71.length c74]) (hM.as rfl)
            have hs81 : rPtr Rs_scrimref8_Small (andZ (Oks Fq80) (Oks Fq76)) (.pointer (some ⟨g77, 0, none⟩)) (a0, t71) := ⟨g77, _, rfl, hfq80.up (fun _ hz_ => hz_.1), _, _, rfl, rfl, ((up_nums .u32) _ _ _ _ (fun _ hz_ => hz_.2) (rnums_of hfq76 (Mem.oks (hM.as (H' := Gs [] [Fq80, Fq76]) rfl) 1 rfl)))⟩
            refine RunF.go 3 [4, 5] (k' := (pl Go.Proofs.Try.f17 [1, 1, 1, 1, 1, 1])) (L' := [(4, .pointer (some ⟨g77, 0, none⟩)), (5, .int .i64 0)]) (w' := W78) (by kernel_rfl) ?_
            obtain rfl := Option.some.inj h
            exact RunF.ret2 4 5 (.pointer (some ⟨g77, 0, none⟩)) (.int .i64 0) (fn := Go.Proofs.Try.f17) Go.Proofs.Try.func17 (by kernel_rfl) (by kernel_rfl) (by kernel_rfl) (by kernel_rfl) ⟨_, rfl, .pointer (some ⟨g77, 0, none⟩), (Fq80 ++ Fq76), rfl, (up_opt (up_ptr up_Rs_scrimref8_Small)) _ _ _ _ (fun _ (hz_ : Oks _ _) => (And.intro hz_.left hz_.right)) (.inr ⟨(a0, t71), rfl, hs81⟩), (Mem.pickF (hM.as (H' := Gs [] [Fq80, Fq76]) rfl) [0, 1] rfl rfl (by simp [Gs]))⟩
      · replace h := of_false h c55
        refine RunF.know 11 (b := false) (by kernel_rfl) c55 ?_
        refine RunF.go 6 [4, 5] (k' := (pl Go.Proofs.Try.f17 [1, 1, 0, 1, 0, 1, 1, 1, 1, 1])) (L' := [(4, .pointer none), (5, .int .i64 2)]) (w' := w) (by kernel_rfl) ?_
        obtain rfl := Option.some.inj h
        exact RunF.ret2 4 5 (.pointer none) (.int .i64 2) (fn := Go.Proofs.Try.f17) Go.Proofs.Try.func17 (by kernel_rfl) (by kernel_rfl) (by kernel_rfl) (by kernel_rfl) ⟨_, rfl, .pointer none, ([] : List Ent), rfl, (.inl ⟨rfl, rfl⟩), (Mem.pickF (hM.as (H' := Gs [] []) rfl) [] rfl rfl (by simp [Gs]))⟩

/-! ### scrim/scrimref1.PutBe32: function 24 -/
def scrimref1_PutBe32.f (k : Nat) (a0 : Int) : Option (List Int) := some ([U8 (shr a0 24), U8 (shr a0 16), U8 (shr a0 8), U8 (a0)] : List Int)
set_option maxRecDepth 100000 in
theorem scrimref1_PutBe32.calls (k : Nat) (a0 : Int) (r : List Int) (w : World) (h : scrimref1_PutBe32.f k a0 = some r) :
    Calls Go.Proofs.Try.prog 24 #[.int .u32 a0] w (Ret fun v w' => ∃ A0' n0' c0', v = .slice A0' n0' c0' ∧ Mem w w' [⟨.slice A0' n0' c0', 5, 1, nums .u8 r⟩]) := by
  unfold scrimref1_PutBe32.f at h
  refine calls_of [.int .u32 a0] (fn := Go.Proofs.Try.f24) Go.Proofs.Try.func24 (by kernel_rfl) (by kernel_rfl) ?_
  have hM := Mem.refl w
  refine RunF.go 17 [5, 8, 11, 13] (k' := (pin Go.Proofs.Try.f24 [1, 0] 11)) (L' := [(5, .int .u8 (U8 (shr a0 24))), (8, .int .u8 (U8 (shr a0 16))), (11, .int .u8 (U8 (shr a0 8))), (13, .int .u8 (U8 (a0)))]) (w' := w) (by kernel_rfl) ?_
  refine RunF.new 5 1 4 (nums .u8 [U8 (shr a0 24), U8 (shr a0 16), U8 (shr a0 8), U8 (a0)]) (d := some 14) (k2 := (pin Go.Proofs.Try.f24 [1, 0] 12)) hM (by simp [nums, bools, strs]) (by kernel_rfl) (by kernel_rfl) ?_
  replace hM := hM
  intro g1 W2 hM
  refine RunF.go 2 [2] (k' := (pl Go.Proofs.Try.f24 [1, 1])) (L' := [(2, .slice (some ⟨g1, 0, none⟩) 4 4)]) (w' := W2) (by kernel_rfl) ?_
  obtain rfl := Option.some.inj h
  exact RunF.ret1 2 (.slice (some ⟨g1, 0, none⟩) 4 4) (fn := Go.Proofs.Try.f24) Go.Proofs.Try.func24 (by kernel_rfl) (by kernel_rfl) (by kernel_rfl) ⟨_, rfl, (some ⟨g1, 0, none⟩), 4, 4, rfl, (hM.pick [0] rfl rfl)⟩

/-! ### (*scrim/scrimref8.Small).rc5: function 35 -/
mutual
def scrimref8_Small_rc5.l0 : Nat → (Int × (List Int)) → Int → Int → Int → Option (Int × Int)
  | 0, _, _, _, _ => none
  | k + 1, a0, x1_0, x2_0, x10_0 => if (decide (x10_0 ≤ 12)) = true then (if (decide (0 ≤ (I64 (2 * x10_0)))) = true then (if (decide ((I64 (2 * x10_0)) < (a0.2.length : Int))) = true then ((scrimref1_Rol32.f k (bxor .u32 x1_0 x2_0) (I64 (Int.tmod x2_0 32))).bind fun t16 => (if (decide (0 ≤ (I64 ((I64 (2 * x10_0)) + 1)))) = true then (if (decide ((I64 ((I64 (2 * x10_0)) + 1)) < (a0.2.length : Int))) = true then ((scrimref1_Rol32.f k (bxor .u32 x2_0 (U32 (t16 + (rd a0.2 (I64 (2 * x10_0)))))) (I64 (Int.tmod (U32 (t16 + (rd a0.2 (I64 (2 * x10_0))))) 32))).bind fun t23 => ((some (U32 (t23 + (rd a0.2 (I64 ((I64 (2 * x10_0)) + 1)))) : Int)).bind fun y24 => (scrimref8_Small_rc5.l0 k a0 (U32 (t16 + (rd a0.2 (I64 (2 * x10_0))))) y24 (I64 (x10_0 + 1))))) else (none)) else (none))) else (none)) else (none)) else (some (x1_0, x2_0))
def scrimref8_Small_rc5.l1 : Nat → (Int × (List Int)) → Int → Int → Int → Option (Int × Int)
  | 0, _, _, _, _ => none
  | k + 1, a0, x1_1, x2_1, x11_1 => if (decide (x11_1 ≥ 1)) = true then (if (decide (0 ≤ (I64 ((I64 (2 * x11_1)) + 1)))) = true then (if (decide ((I64 ((I64 (2 * x11_1)) + 1)) < (a0.2.length : Int))) = true then ((some (U32 (x2_1 - (rd a0.2 (I64 ((I64 (2 * x11_1)) + 1)))) : Int)).bind fun y29 => ((scrimref1_Rol32.f k y29 (I64 (32 - (I64 (Int.tmod x1_1 32))))).bind fun t31 => (if (decide (0 ≤ (I64 (2 * x11_1)))) = true then (if (decide ((I64 (2 * x11_1)) < (a0.2.length : Int))) = true then ((some (I64 (32 - (I64 (Int.tmod (bxor .u32 t31 x1_1) 32))) : Int)).bind fun y35 => ((scrimref1_Rol32.f k (U32 (x1_1 - (rd a0.2 (I64 (2 * x11_1))))) y35).bind fun t37 => (scrimref8_Small_rc5.l1 k a0 (bxor .u32 t37 (bxor .u32 t31 x1_1)) (bxor .u32 t31 x1_1) (I64 (x11_1 - 1))))) else (none)) else (none)))) else (none)) else (none)) else (if (decide (0 < (a0.2.length : Int))) = true then (if (decide (1 < (a0.2.length : Int))) = true then (some (U32 (x1_1 - (rd a0.2 0)), U32 (x2_1 - (rd a0.2 1)))) else (none)) else (none))
end
def scrimref8_Small_rc5.f (k : Nat) (a0 : (Int × (List Int))) (a1 : Int) (a2 : Int) (a3 : Bool) : Option (Int × Int) := if (!a3) = true then (if (decide (0 < (a0.2.length : Int))) = true then (if (decide (1 < (a0.2.length : Int))) = true then (scrimref8_Small_rc5.l0 k a0 (U32 (a1 + (rd a0.2 0))) (U32 (a2 + (rd a0.2 1))) 1) else (none)) else (none)) else (scrimref8_Small_rc5.l1 k a0 a1 a2 12)
set_option maxRecDepth 100000 in
set_option maxHeartbeats 8000000 in
theorem scrimref8_Small_rc5.calls (k : Nat) (vp0 : Value) (Zp0 : Zp) (a0 : (Int × (List Int))) (a1 : Int) (a2 : Int) (a3 : Bool) (r : Int × Int) (w : World) (hp0 : (rPtr Rs_scrimref8_Small) Zp0 vp0 a0) (hZp0 : ∀ W, Kept w W → Zp0 W) (h : scrimref8_Small_rc5.f k a0 a1 a2 a3 = some r) :
    Calls Go.Proofs.Try.prog 35 #[vp0, .int .u32 a1, .int .u32 a2, .bool a3] w (Ret fun v w' => v = .tuple #[.int .u32 r.1, .int .u32 r.2] ∧ Mem w w' []) := by
  obtain ⟨gp0, _, rfl, hco1, _, _, rfl, rfl, ⟨Ao1_1, co1_1, rfl, ho1_1⟩⟩ := id hp0
  unfold scrimref8_Small_rc5.f at h
  refine calls_of [.pointer (some ⟨gp0, 0, none⟩), .int .u32 a1, .int .u32 a2, .bool a3] (fn := Go.Proofs.Try.f35) Go.Proofs.Try.func35 (by kernel_rfl) (by kernel_rfl) ?_
  have hM := Mem.refl w
  refine RunF.go 11 [0, 1, 2, 13] (k' := (pl Go.Proofs.Try.f35 [1, 0, 1])) (L' := [(0, .pointer (some ⟨gp0, 0, none⟩)), (1, .int .u32 a1), (2, .int .u32 a2), (13, .bool (!a3))]) (w' := w) (by kernel_rfl) ?_
  rcases two (!a3) with c2 | c2
  · replace h := of_true h c2
    refine RunF.know 13 (b := true) (by kernel_rfl) c2 ?_
    refine RunF.go 2 [0, 1, 2] (k' := (pl Go.Proofs.Try.f35 [1, 0, 1, 0, 0])) (L' := [(0, .pointer (some ⟨gp0, 0, none⟩)), (1, .int .u32 a1), (2, .int .u32 a2)]) (w' := w) (by kernel_rfl) ?_
    refine RunF.draw (Still ({ w with drawn := w.drawn + 1 } : World) []) (by kernel_rfl) (by kernel_rfl) ?_
    have hMd4 := hM.drew
    have hS := Still.refl ({ w with drawn := w.drawn + 1 } : World) []
    generalize ({ w with drawn := w.drawn + 1 } : World) = W3 at hMd4 hS ⊢
    replace hM := hMd4
    refine RunAny.y 0 (by kernel_rfl) (yl_pure (d := some 14) (v := .int .u32 a1) (k2 := [.inRegion (opsOf (pl Go.Proofs.Try.f35 [1, 0, 1, 0, 0])) []]) fun w => by kernel_rfl) (fun _ _ => trivial) hS ?_
    refine RunAny.y 1 (by kernel_rfl) (yl_pure (d := some 15) (v := .pointer (some ⟨gp0, 0, none⟩)) (k2 := [.inRegion (opsOf (pl Go.Proofs.Try.f35 [1, 0, 1, 0, 0])) []]) fun w => by kernel_rfl) (fun _ _ => trivial) hS ?_
    refine RunAny.y 2 (by kernel_rfl) (yl_pure (d := some 16) (v := .pointer (some ⟨gp0, 0, none⟩)) (k2 := [.inRegion (opsOf (pl Go.Proofs.Try.f35 [1, 0, 1, 0, 0])) []]) fun w => by kernel_rfl) (fun _ _ => trivial) hS ?_
    refine RunAny.y 3 (by kernel_rfl) (yl_pure (d := some 17) (v := .pointer (some ⟨gp0, 1, none⟩)) (k2 := [.inRegion (opsOf (pl Go.Proofs.Try.f35 [1, 0, 1, 0, 0])) []]) fun w => by kernel_rfl) (fun _ _ => trivial) hS ?_
    refine RunAny.y 4 (by kernel_rfl) (ld_y (d := some 18) (p := ⟨gp0, 1, none⟩) (k2 := [.inRegion (opsOf (pl Go.Proofs.Try.f35 [1, 0, 1, 0, 0])) []]) (.slice Ao1_1 a0.2.length co1_1) (by kernel_rfl)) (fun _ hs => hs.cell (hco1 _ (hZp0 _ hM.kept) 1 _ rfl) (by simp)) hS ?_
    rcases two (decide (0 < (a0.2.length : Int))) with c6 | c6
    · replace h := of_true h c6
      obtain ⟨q5, hAq5, hcq5⟩ := Rd.num (ho1_1 _ (hZp0 _ hM.kept)) (i := 0) (by omega) (by have h_ := of_decide_eq_true c6; omega)
      refine RunAny.y 5 (by kernel_rfl) (idx_y (d := some 19) (A := Ao1_1) (m := a0.2.length) (i := 0) (k2 := [.inRegion (opsOf (pl Go.Proofs.Try.f35 [1, 0, 1, 0, 0])) []]) (by kernel_rfl) (by omega) (by have h_ := of_decide_eq_true c6; omega) hAq5) (fun _ _ => trivial) hS ?_
      refine RunAny.y 6 (by kernel_rfl) (ld_y (d := some 20) (p := (q5.add (0 : Int).toNat)) (k2 := [.inRegion (opsOf (pl Go.Proofs.Try.f35 [1, 0, 1, 0, 0])) []]) (.int .u32 (rd a0.2 0)) (by kernel_rfl)) (fun _ hs => hs.cell hcq5 (by simp)) hS ?_
      refine RunAny.y 7 (by kernel_rfl) (yl_pure (d := some 21) (v := .int .u32 (U32 (a1 + (rd a0.2 0)))) (k2 := [.inRegion (opsOf (pl Go.Proofs.Try.f35 [1, 0, 1, 0, 0])) []]) fun w => by kernel_rfl) (fun _ _ => trivial) hS ?_
      refine RunAny.y 8 (by kernel_rfl) (yl_pure (d := some 22) (v := .int .u32 a2) (k2 := [.inRegion (opsOf (pl Go.Proofs.Try.f35 [1, 0, 1, 0, 0])) []]) fun w => by kernel_rfl) (fun _ _ => trivial) hS ?_
      refine RunAny.y 9 (by kernel_rfl) (yl_pure (d := some 23) (v := .pointer (some ⟨gp0, 0, none⟩)) (k2 := [.inRegion (opsOf (pl Go.Proofs.Try.f35 [1, 0, 1, 0, 0])) []]) fun w => by kernel_rfl) (fun _ _ => trivial) hS ?_
      refine RunAny.y 10 (by kernel_rfl) (yl_pure (d := some 24) (v := .pointer (some ⟨gp0, 0, none⟩)) (k2 := [.inRegion (opsOf (pl Go.Proofs.Try.f35 [1, 0, 1, 0, 0])) []]) fun w => by kernel_rfl) (fun _ _ => trivial) hS ?_
      refine RunAny.y 11 (by kernel_rfl) (yl_pure (d := some 25) (v := .pointer (some ⟨gp0, 1, none⟩)) (k2 := [.inRegion (opsOf (pl Go.Proofs.Try.f35 [1, 0, 1, 0, 0])) []]) fun w => by kernel_rfl) (fun _ _ => trivial) hS ?_
      refine RunAny.y 12 (by kernel_rfl) (ld_y (d := some 26) (p := ⟨gp0, 1, none⟩) (k2 := [.inRegion (opsOf (pl Go.Proofs.Try.f35 [1, 0, 1, 0, 0])) []]) (.slice Ao1_1 a0.2.length co1_1) (by kernel_rfl)) (fun _ hs => hs.cell (hco1 _ (hZp0 _ hM.kept) 1 _ rfl) (by simp)) hS ?_
      rcases two (decide (1 < (a0.2.length : Int))) with c8 | c8
      · replace h := of_true h c8
        obtain ⟨q7, hAq7, hcq7⟩ := Rd.num (ho1_1 _ (hZp0 _ hM.kept)) (i := 1) (by omega) (by have h_ := of_decide_eq_true c8; omega)
        refine RunAny.y 13 (by kernel_rfl) (idx_y (d := some 27) (A := Ao1_1) (m := a0.2.length) (i := 1) (k2 := [.inRegion (opsOf (pl Go.Proofs.Try.f35 [1, 0, 1, 0, 0])) []]) (by kernel_rfl) (by omega) (by have h_ := of_decide_eq_true c8; omega) hAq7) (fun _ _ => trivial) hS ?_
        refine RunAny.y 14 (by kernel_rfl) (ld_y (d := some 28) (p := (q7.add (1 : Int).toNat)) (k2 := [.inRegion (opsOf (pl Go.Proofs.Try.f35 [1, 0, 1, 0, 0])) []]) (.int .u32 (rd a0.2 1)) (by kernel_rfl)) (fun _ hs => hs.cell hcq7 (by simp)) hS ?_
        refine RunAny.y 15 (by kernel_rfl) (yl_pure (d := some 29) (v := .int .u32 (U32 (a2 + (rd a0.2 1)))) (k2 := [.inRegion (opsOf (pl Go.Proofs.Try.f35 [1, 0, 1, 0, 0])) []]) fun w => by kernel_rfl) (fun _ _ => trivial) hS ?_
        refine RunAny.y 16 (by kernel_rfl) (yl_pure (d := some 1) (v := .int .u32 (U32 (a1 + (rd a0.2 0)))) (k2 := [.inRegion (opsOf (pl Go.Proofs.Try.f35 [1, 0, 1, 0, 0])) []]) fun w => by kernel_rfl) (fun _ _ => trivial) hS ?_
        refine RunAny.y 17 (by kernel_rfl) (yl_pure (d := some 2) (v := .int .u32 (U32 (a2 + (rd a0.2 1)))) (k2 := [.inRegion (opsOf (pl Go.Proofs.Try.f35 [1, 0, 1, 0, 0])) []]) fun w => by kernel_rfl) (fun _ _ => trivial) hS ?_
        refine RunAny.done (by kernel_rfl) ?_
        clear hS
        refine RunF.go 7 [0, 1, 2, 10] (k' := (pl Go.Proofs.Try.f35 [1, 0, 1, 0, 1, 0, 1, 0, 0])) (L' := [(0, .pointer (some ⟨gp0, 0, none⟩)), (1, .int .u32 (U32 (a1 + (rd a0.2 0)))), (2, .int .u32 (U32 (a2 + (rd a0.2 1)))), (10, .int .i64 1)]) (w' := W3) (by kernel_rfl) ?_
        have l0 : ∀ (k_ : Nat), k_ ≤ k → ∀ (x1_0 : Int) (x2_0 : Int) (x10_0 : Int) (W : World) (hM : Mem w W []) (h : scrimref8_Small_rc5.l0 k_ a0 x1_0 x2_0 x10_0 = some r), RunF Go.Proofs.Try.prog (Ret fun v w' => v = .tuple #[.int .u32 r.1, .int .u32 r.2] ∧ Mem w w' []) 35 (pl Go.Proofs.Try.f35 [1, 0, 1, 0, 1, 0, 1, 0, 0]) 124 [(0, .pointer (some ⟨gp0, 0, none⟩)), (1, .int .u32 x1_0), (2, .int .u32 x2_0), (10, .int .i64 x10_0)] W := by
          intro k_
          induction k_ using Nat.strongRecOn with
          | _ k_ ih0 =>
            intro hk x1_0 x2_0 x10_0 W hM h
            cases k_ with
            | zero => exact absurd h (by simp [scrimref8_Small_rc5.l0])
            | succ k =>
              simp only [scrimref8_Small_rc5.l0] at h
              replace ih0 : ∀ m, m ≤ k → _ := fun m hm => ih0 m (by omega) (by omega)
              refine RunF.go 6 [0, 1, 2, 10, 31] (k' := (pl Go.Proofs.Try.f35 [1, 0, 1, 0, 1, 0, 1, 0, 0, 0, 1])) (L' := [(0, .pointer (some ⟨gp0, 0, none⟩)), (1, .int .u32 x1_0), (2, .int .u32 x2_0), (10, .int .i64 x10_0), (31, .bool (decide (x10_0 ≤ 12)))]) (w' := W) (by kernel_rfl) ?_
              rcases two (decide (x10_0 ≤ 12)) with c9 | c9
              · replace h := of_true h c9
                refine RunF.know 31 (b := true) (by kernel_rfl) c9 ?_
                refine RunF.go 5 [0, 1, 2, 10] (k' := (pl Go.Proofs.Try.f35 [1, 0, 1, 0, 1, 0, 1, 0, 0, 1, 0, 0, 0])) (L' := [(0, .pointer (some ⟨gp0, 0, none⟩)), (1, .int .u32 x1_0), (2, .int .u32 x2_0), (10, .int .i64 x10_0)]) (w' := W) (by kernel_rfl) ?_
                refine RunF.draw (Still ({ W with drawn := W.drawn + 1 } : World) []) (by kernel_rfl) (by kernel_rfl) ?_
                have hMd11 := hM.drew
                have hS := Still.refl ({ W with drawn := W.drawn + 1 } : World) []
                generalize ({ W with drawn := W.drawn + 1 } : World) = W10 at hMd11 hS ⊢
                replace hM := hMd11
                refine RunAny.y 0 (by kernel_rfl) (yl_pure (d := some 34) (v := .int .u32 x1_0) (k2 := [.inRegion (opsOf (pl Go.Proofs.Try.f35 [1, 0, 1, 0, 1, 0, 1, 0, 0, 1, 0, 0, 0])) []]) fun w => by kernel_rfl) (fun _ _ => trivial) hS ?_
                refine RunAny.y 1 (by kernel_rfl) (yl_pure (d := some 35) (v := .int .u32 x2_0) (k2 := [.inRegion (opsOf (pl Go.Proofs.Try.f35 [1, 0, 1, 0, 1, 0, 1, 0, 0, 1, 0, 0, 0])) []]) fun w => by kernel_rfl) (fun _ _ => trivial) hS ?_
                refine RunAny.y 2 (by kernel_rfl) (yl_pure (d := some 36) (v := .int .u32 (bxor .u32 x1_0 x2_0)) (k2 := [.inRegion (opsOf (pl Go.Proofs.Try.f35 [1, 0, 1, 0, 1, 0, 1, 0, 0, 1, 0, 0, 0])) []]) fun w => by kernel_rfl) (fun _ _ => trivial) hS ?_
                refine RunAny.y 3 (by kernel_rfl) (yl_pure (d := some 37) (v := .int .u32 x2_0) (k2 := [.inRegion (opsOf (pl Go.Proofs.Try.f35 [1, 0, 1, 0, 1, 0, 1, 0, 0, 1, 0, 0, 0])) []]) fun w => by kernel_rfl) (fun _ _ => trivial) hS ?_
                refine RunAny.y 4 (by kernel_rfl) (yl_pure (d := some 38) (v := .int .u32 (Int.tmod x2_0 32)) (k2 := [.inRegion (opsOf (pl Go.Proofs.Try.f35 [1, 0, 1, 0, 1, 0, 1, 0, 0, 1, 0, 0, 0])) []]) fun w => by kernel_rfl) (fun _ _ => trivial) hS ?_
                refine RunAny.y 5 (by kernel_rfl) (yl_pure (d := some 39) (v := .int .i64 (I64 (Int.tmod x2_0 32))) (k2 := [.inRegion (opsOf (pl Go.Proofs.Try.f35 [1, 0, 1, 0, 1, 0, 1, 0, 0, 1, 0, 0, 0])) []]) fun w => by kernel_rfl) (fun _ _ => trivial) hS ?_
                refine RunAny.y 7 (by kernel_rfl) (yl_pure (d := some 41) (v := .pointer (some ⟨gp0, 0, none⟩)) (k2 := [.inRegion (opsOf (pl Go.Proofs.Try.f35 [1, 0, 1, 0, 1, 0, 1, 0, 0, 1, 0, 0, 0])) []]) fun w => by kernel_rfl) (fun _ _ => trivial) hS ?_
                refine RunAny.y 8 (by kernel_rfl) (yl_pure (d := some 42) (v := .pointer (some ⟨gp0, 0, none⟩)) (k2 := [.inRegion (opsOf (pl Go.Proofs.Try.f35 [1, 0, 1, 0, 1, 0, 1, 0, 0, 1, 0, 0, 0])) []]) fun w => by kernel_rfl) (fun _ _ => trivial) hS ?_
                refine RunAny.y 9 (by kernel_rfl) (yl_pure (d := some 43) (v := .pointer (some ⟨gp0, 1, none⟩)) (k2 := [.inRegion (opsOf (pl Go.Proofs.Try.f35 [1, 0, 1, 0, 1, 0, 1, 0, 0, 1, 0, 0, 0])) []]) fun w => by kernel_rfl) (fun _ _ => trivial) hS ?_
                refine RunAny.y 10 (by kernel_rfl) (ld_y (d := some 44) (p := ⟨gp0, 1, none⟩) (k2 := [.inRegion (opsOf (pl Go.Proofs.Try.f35 [1, 0, 1, 0, 1, 0, 1, 0, 0, 1, 0, 0, 0])) []]) (.slice Ao1_1 a0.2.length co1_1) (by kernel_rfl)) (fun _ hs => hs.cell (hco1 _ (hZp0 _ hM.kept) 1 _ rfl) (by simp)) hS ?_
                refine RunAny.y 11 (by kernel_rfl) (yl_pure (d := some 45) (v := .int .i64 x10_0) (k2 := [.inRegion (opsOf (pl Go.Proofs.Try.f35 [1, 0, 1, 0, 1, 0, 1, 0, 0, 1, 0, 0, 0])) []]) fun w => by kernel_rfl) (fun _ _ => trivial) hS ?_
                refine RunAny.y 12 (by kernel_rfl) (yl_pure (d := some 46) (v := .int .i64 (I64 (2 * x10_0))) (k2 := [.inRegion (opsOf (pl Go.Proofs.Try.f35 [1, 0, 1, 0, 1, 0, 1, 0, 0, 1, 0, 0, 0])) []]) fun w => by kernel_rfl) (fun _ _ => trivial) hS ?_
                rcases two (decide (0 ≤ (I64 (2 * x10_0)))) with c13 | c13
                · replace h := of_true h c13
                  rcases two (decide ((I64 (2 * x10_0)) < (a0.2.length : Int))) with c14 | c14
                  · replace h := of_true h c14
                    obtain ⟨q12, hAq12, hcq12⟩ := Rd.num (ho1_1 _ (hZp0 _ hM.kept)) (i := I64 (2 * x10_0)) (of_decide_eq_true c13) (by have h_ := of_decide_eq_true c14; omega)
                    refine RunAny.y 13 (by kernel_rfl) (idx_y (d := some 47) (A := Ao1_1) (m := a0.2.length) (i := I64 (2 * x10_0)) (k2 := [.inRegion (opsOf (pl Go.Proofs.Try.f35 [1, 0, 1, 0, 1, 0, 1, 0, 0, 1, 0, 0, 0])) []]) (by kernel_rfl) (of_decide_eq_true c13) (by have h_ := of_decide_eq_true c14; omega) hAq12) (fun _ _ => trivial) hS ?_
                    refine RunAny.y 14 (by kernel_rfl) (ld_y (d := some 48) (p := (q12.add (I64 (2 * x10_0) : Int).toNat)) (k2 := [.inRegion (opsOf (pl Go.Proofs.Try.f35 [1, 0, 1, 0, 1, 0, 1, 0, 0, 1, 0, 0, 0])) []]) (.int .u32 (rd a0.2 (I64 (2 * x10_0)))) (by kernel_rfl)) (fun _ hs => hs.cell hcq12 (by simp)) hS ?_
                    obtain ⟨t16, ht16, h⟩ := Option.bind_eq_some_iff.mp h
                    refine RunAny.call 6 (d := some 40) (g := 25) (args := #[.int .u32 (bxor .u32 x1_0 x2_0), .int .i64 (I64 (Int.tmod x2_0 32))]) (by kernel_rfl) (by kernel_rfl) (scrimref1_Rol32.calls k (bxor .u32 x1_0 x2_0) (I64 (Int.tmod x2_0 32)) t16 _ ht16) (by rintro _ _ ⟨rfl, hM_⟩; exact hS.below hM_.below) ?_
                    rintro _ W15 ⟨rfl, hM_⟩
                    replace hS := hS.below hM_.below
                    replace hM := hM.call hM_
                    clear hM_ ht16
                    refine RunAny.rebase hS ?_
                    replace hS := Still.refl W15 []
                    refine RunAny.y 15 (by kernel_rfl) (yl_pure (d := some 49) (v := .int .u32 (U32 (t16 + (rd a0.2 (I64 (2 * x10_0)))))) (k2 := [.inRegion (opsOf (pl Go.Proofs.Try.f35 [1, 0, 1, 0, 1, 0, 1, 0, 0, 1, 0, 0, 0])) []]) fun w => by kernel_rfl) (fun _ _ => trivial) hS ?_
                    refine RunAny.y 16 (by kernel_rfl) (yl_pure (d := some 1) (v := .int .u32 (U32 (t16 + (rd a0.2 (I64 (2 * x10_0)))))) (k2 := [.inRegion (opsOf (pl Go.Proofs.Try.f35 [1, 0, 1, 0, 1, 0, 1, 0, 0, 1, 0, 0, 0])) []]) fun w => by kernel_rfl) (fun _ _ => trivial) hS ?_
                    refine RunAny.done (by kernel_rfl) ?_
                    clear hS
                    refine RunF.draw (Still ({ W15 with drawn := W15.drawn + 1 } : World) []) (by kernel_rfl) (by kernel_rfl) ?_
                    have hMd18 := hM.drew
                    have hS := Still.refl ({ W15 with drawn := W15.drawn + 1 } : World) []
                    generalize ({ W15 with drawn := W15.drawn + 1 } : World) = W17 at hMd18 hS ⊢
                    replace hM := hMd18
                    refine RunAny.y 0 (by kernel_rfl) (yl_pure (d := some 50) (v := .int .u32 x2_0) (k2 := [.inRegion (opsOf (pl Go.Proofs.Try.f35 [1, 0, 1, 0, 1, 0, 1, 0, 0, 1, 0, 0, 1])) []]) fun w => by kernel_rfl) (fun _ _ => trivial) hS ?_
                    refine RunAny.y 1 (by kernel_rfl) (yl_pure (d := some 51) (v := .int .u32 (U32 (t16 + (rd a0.2 (I64 (2 * x10_0)))))) (k2 := [.inRegion (opsOf (pl Go.Proofs.Try.f35 [1, 0, 1, 0, 1, 0, 1, 0, 0, 1, 0, 0, 1])) []]) fun w => by kernel_rfl) (fun _ _ => trivial) hS ?_
                    refine RunAny.y 2 (by kernel_rfl) (yl_pure (d := some 52) (v := .int .u32 (bxor .u32 x2_0 (U32 (t16 + (rd a0.2 (I64 (2 * x10_0))))))) (k2 := [.inRegion (opsOf (pl Go.Proofs.Try.f35 [1, 0, 1, 0, 1, 0, 1, 0, 0, 1, 0, 0, 1])) []]) fun w => by kernel_rfl) (fun _ _ => trivial) hS ?_
                    refine RunAny.y 3 (by kernel_rfl) (yl_pure (d := some 53) (v := .int .u32 (U32 (t16 + (rd a0.2 (I64 (2 * x10_0)))))) (k2 := [.inRegion (opsOf (pl Go.Proofs.Try.f35 [1, 0, 1, 0, 1, 0, 1, 0, 0, 1, 0, 0, 1])) []]) fun w => by kernel_rfl) (fun _ _ => trivial) hS ?_
                    refine RunAny.y 4 (by kernel_rfl) (yl_pure (d := some 54) (v := .int .u32 (Int.tmod (U32 (t16 + (rd a0.2 (I64 (2 * x10_0))))) 32)) (k2 := [.inRegion (opsOf (pl Go.Proofs.Try.f35 [1, 0, 1, 0, 1, 0, 1, 0, 0, 1, 0, 0, 1])) []]) fun w => by kernel_rfl) (fun _ _ => trivial) hS ?_
                    refine RunAny.y 5 (by kernel_rfl) (yl_pure (d := some 55) (v := .int .i64 (I64 (Int.tmod (U32 (t16 + (rd a0.2 (I64 (2 * x10_0))))) 32))) (k2 := [.inRegion (opsOf (pl Go.Proofs.Try.f35 [1, 0, 1, 0, 1, 0, 1, 0, 0, 1, 0, 0, 1])) []]) fun w => by kernel_rfl) (fun _ _ => trivial) hS ?_
                    refine RunAny.y 7 (by kernel_rfl) (yl_pure (d := some 57) (v := .pointer (some ⟨gp0, 0, none⟩)) (k2 := [.inRegion (opsOf (pl Go.Proofs.Try.f35 [1, 0, 1, 0, 1, 0, 1, 0, 0, 1, 0, 0, 1])) []]) fun w => by kernel_rfl) (fun _ _ => trivial) hS ?_
                    refine RunAny.y 8 (by kernel_rfl) (yl_pure (d := some 58) (v := .pointer (some ⟨gp0, 0, none⟩)) (k2 := [.inRegion (opsOf (pl Go.Proofs.Try.f35 [1, 0, 1, 0, 1, 0, 1, 0, 0, 1, 0, 0, 1])) []]) fun w => by kernel_rfl) (fun _ _ => trivial) hS ?_
                    refine RunAny.y 9 (by kernel_rfl) (yl_pure (d := some 59) (v := .pointer (some ⟨gp0, 1, none⟩)) (k2 := [.inRegion (opsOf (pl Go.Proofs.Try.f35 [1, 0, 1, 0, 1, 0, 1, 0, 0, 1, 0, 0, 1])) []]) fun w => by kernel_rfl) (fun _ _ => trivial) hS ?_
                    refine RunAny.y 10 (by kernel_rfl) (ld_y (d := some 60) (p := ⟨gp0, 1, none⟩) (k2 := [.inRegion (opsOf (pl Go.Proofs.Try.f35 [1, 0, 1, 0, 1, 0, 1, 0, 0, 1, 0, 0, 1])) []]) (.slice Ao1_1 a0.2.length co1_1) (by kernel_rfl)) (fun _ hs => hs.cell (hco1 _ (hZp0 _ hM.kept) 1 _ rfl) (by simp)) hS ?_
                    refine RunAny.y 11 (by kernel_rfl) (yl_pure (d := some 61) (v := .int .i64 x10_0) (k2 := [.inRegion (opsOf (pl Go.Proofs.Try.f35 [1, 0, 1, 0, 1, 0, 1, 0, 0, 1, 0, 0, 1])) []]) fun w => by kernel_rfl) (fun _ _ => trivial) hS ?_
                    refine RunAny.y 12 (by kernel_rfl) (yl_pure (d := some 62) (v := .int .i64 (I64 (2 * x10_0))) (k2 := [.inRegion (opsOf (pl Go.Proofs.Try.f35 [1, 0, 1, 0, 1, 0, 1, 0, 0, 1, 0, 0, 1])) []]) fun w => by kernel_rfl) (fun _ _ => trivial) hS ?_
                    refine RunAny.y 13 (by kernel_rfl) (yl_pure (d := some 63) (v := .int .i64 (I64 ((I64 (2 * x10_0)) + 1))) (k2 := [.inRegion (opsOf (pl Go.Proofs.Try.f35 [1, 0, 1, 0, 1, 0, 1, 0, 0, 1, 0, 0, 1])) []]) fun w => by kernel_rfl) (fun _ _ => trivial) hS ?_
                    rcases two (decide (0 ≤ (I64 ((I64 (2 * x10_0)) + 1)))) with c20 | c20
                    · replace h := of_true h c20
                      rcases two (decide ((I64 ((I64 (2 * x10_0)) + 1)) < (a0.2.length : Int))) with c21 | c21
                      · replace h := of_true h c21
                        obtain ⟨q19, hAq19, hcq19⟩ := Rd.num (ho1_1 _ (hZp0 _ hM.kept)) (i := I64 ((I64 (2 * x10_0)) + 1)) (of_decide_eq_true c20) (by have h_ := of_decide_eq_true c21; omega)
                        refine RunAny.y 14 (by kernel_rfl) (idx_y (d := some 64) (A := Ao1_1) (m := a0.2.length) (i := I64 ((I64 (2 * x10_0)) + 1)) (k2 := [.inRegion (opsOf (pl Go.Proofs.Try.f35 [1, 0, 1, 0, 1, 0, 1, 0, 0, 1, 0, 0, 1])) []]) (by kernel_rfl) (of_decide_eq_true c20) (by have h_ := of_decide_eq_true c21; omega) hAq19) (fun _ _ => trivial) hS ?_
                        refine RunAny.y 15 (by kernel_rfl) (ld_y (d := some 65) (p := (q19.add (I64 ((I64 (2 * x10_0)) + 1) : Int).toNat)) (k2 := [.inRegion (opsOf (pl Go.Proofs.Try.f35 [1, 0, 1, 0, 1, 0, 1, 0, 0, 1, 0, 0, 1])) []]) (.int .u32 (rd a0.2 (I64 ((I64 (2 * x10_0)) + 1)))) (by kernel_rfl)) (fun _ hs => hs.cell hcq19 (by simp)) hS ?_
                        obtain ⟨t23, ht23, h⟩ := Option.bind_eq_some_iff.mp h
                        refine RunAny.call 6 (d := some 56) (g := 25) (args := #[.int .u32 (bxor .u32 x2_0 (U32 (t16 + (rd a0.2 (I64 (2 * x10_0)))))), .int .i64 (I64 (Int.tmod (U32 (t16 + (rd a0.2 (I64 (2 * x10_0))))) 32))]) (by kernel_rfl) (by kernel_rfl) (scrimref1_Rol32.calls k (bxor .u32 x2_0 (U32 (t16 + (rd a0.2 (I64 (2 * x10_0)))))) (I64 (Int.tmod (U32 (t16 + (rd a0.2 (I64 (2 * x10_0))))) 32)) t23 _ ht23) (by rintro _ _ ⟨rfl, hM_⟩; exact hS.below hM_.below) ?_
                        rintro _ W22 ⟨rfl, hM_⟩
                        replace hS := hS.below hM_.below
                        replace hM := hM.call hM_
                        clear hM_ ht23
                        refine RunAny.rebase hS ?_
                        replace hS := Still.refl W22 []
                        refine RunAny.y 16 (by kernel_rfl) (yl_pure (d := some 66) (v := .int .u32 (U32 (t23 + (rd a0.2 (I64 ((I64 (2 * x10_0)) + 1)))))) (k2 := [.inRegion (opsOf (pl Go.Proofs.Try.f35 [1, 0, 1, 0, 1, 0, 1, 0, 0, 1, 0, 0, 1])) []]) fun w => by kernel_rfl) (fun _ _ => trivial) hS ?_
                        refine RunAny.y 17 (by kernel_rfl) (yl_pure (d := some 2) (v := .int .u32 (U32 (t23 + (rd a0.2 (I64 ((I64 (2 * x10_0)) + 1)))))) (k2 := [.inRegion (opsOf (pl Go.Proofs.Try.f35 [1, 0, 1, 0, 1, 0, 1, 0, 0, 1, 0, 0, 1])) []]) fun w => by kernel_rfl) (fun _ _ => trivial) hS ?_
                        refine RunAny.done (by kernel_rfl) ?_
                        clear hS
                        refine RunF.go 7 [0, 1, 2, 10] (k' := (pl Go.Proofs.Try.f35 [1, 0, 1, 0, 1, 0, 1, 0, 0])) (L' := [(0, .pointer (some ⟨gp0, 0, none⟩)), (1, .int .u32 (U32 (t16 + (rd a0.2 (I64 (2 * x10_0)))))), (2, .int .u32 (U32 (t23 + (rd a0.2 (I64 ((I64 (2 * x10_0)) + 1)))))), (10, .int .i64 (I64 (x10_0 + 1)))]) (w' := W22) (by kernel_rfl) ?_
                        obtain ⟨y24, hy, h⟩ := Option.bind_eq_some_iff.mp h
                        rw [show (U32 (t23 + (rd a0.2 (I64 ((I64 (2 * x10_0)) + 1))))) = y24 from Option.some.inj hy]
                        clear hy
                        exact ih0 k (by omega) (U32 (t16 + (rd a0.2 (I64 (2 * x10_0))))) y24 (I64 (x10_0 + 1)) _ (hM.pick [] rfl rfl) h
                      · replace h := of_false h c21
                        cases h
                    · replace h := of_false h c20
                      cases h
                  · replace h := of_false h c14
                    cases h
                · replace h := of_false h c13
                  cases h
              · replace h := of_false h c9
                refine RunF.know 31 (b := false) (by kernel_rfl) c9 ?_
                refine RunF.go 9 [8, 9] (k' := (pl Go.Proofs.Try.f35 [1, 0, 1, 0, 1, 1, 1])) (L' := [(8, .int .u32 x1_0), (9, .int .u32 x2_0)]) (w' := W) (by kernel_rfl) ?_
                obtain rfl := Option.some.inj h
                exact RunF.ret2 8 9 (.int .u32 x1_0) (.int .u32 x2_0) (fn := Go.Proofs.Try.f35) Go.Proofs.Try.func35 (by kernel_rfl) (by kernel_rfl) (by kernel_rfl) (by kernel_rfl) ⟨_, rfl, rfl, (hM.pick [] rfl rfl)⟩
        exact l0 k (Nat.le_refl _) (U32 (a1 + (rd a0.2 0))) (U32 (a2 + (rd a0.2 1))) 1 _ (hM.pick [] rfl rfl) h
      · replace h := of_false h c8
        cases h
    · replace h := of_false h c6
      cases h
  · replace h := of_false h c2
    refine RunF.know 13 (b := false) (by kernel_rfl) c2 ?_
    refine RunF.go 9 [0, 1, 2, 11] (k' := (pl Go.Proofs.Try.f35 [1, 1, 0, 1, 0, 0])) (L' := [(0, .pointer (some ⟨gp0, 0, none⟩)), (1, .int .u32 a1), (2, .int .u32 a2), (11, .int .i64 12)]) (w' := w) (by kernel_rfl) ?_
    have l1 : ∀ (k_ : Nat), k_ ≤ k → ∀ (x1_1 : Int) (x2_1 : Int) (x11_1 : Int) (W : World) (hM : Mem w W []) (h : scrimref8_Small_rc5.l1 k_ a0 x1_1 x2_1 x11_1 = some r), RunF Go.Proofs.Try.prog (Ret fun v w' => v = .tuple #[.int .u32 r.1, .int .u32 r.2] ∧ Mem w w' []) 35 (pl Go.Proofs.Try.f35 [1, 1, 0, 1, 0, 0]) 124 [(0, .pointer (some ⟨gp0, 0, none⟩)), (1, .int .u32 x1_1), (2, .int .u32 x2_1), (11, .int .i64 x11_1)] W := by
      intro k_
      induction k_ using Nat.strongRecOn with
      | _ k_ ih1 =>
        intro hk x1_1 x2_1 x11_1 W hM h
        cases k_ with
        | zero => exact absurd h (by simp [scrimref8_Small_rc5.l1])
        | succ k =>
          simp only [scrimref8_Small_rc5.l1] at h
          replace ih1 : ∀ m, m ≤ k → _ := fun m hm => ih1 m (by omega) (by omega)
          refine RunF.go 6 [0, 1, 2, 11, 70] (k' := (pl Go.Proofs.Try.f35 [1, 1, 0, 1, 0, 0, 0, 1])) (L' := [(0, .pointer (some ⟨gp0, 0, none⟩)), (1, .int .u32 x1_1), (2, .int .u32 x2_1), (11, .int .i64 x11_1), (70, .bool (decide (x11_1 ≥ 1)))]) (w' := W) (by kernel_rfl) ?_
          rcases two (decide (x11_1 ≥ 1)) with c25 | c25
          · replace h := of_true h c25
            refine RunF.know 70 (b := true) (by kernel_rfl) c25 ?_
            refine RunF.go 10 [0, 1, 11, 73, 76] (k' := (pin Go.Proofs.Try.f35 [1, 1, 0, 1, 0, 0, 1, 0, 0, 0] 4)) (L' := [(0, .pointer (some ⟨gp0, 0, none⟩)), (1, .int .u32 x1_1), (11, .int .i64 x11_1), (73, .int .u32 x2_1), (76, .pointer (some ⟨gp0, 1, none⟩))]) (w' := W) (by kernel_rfl) ?_
            refine RunF.y (ld_y (d := some 77) (p := ⟨gp0, 1, none⟩) (k2 := (pin Go.Proofs.Try.f35 [1, 1, 0, 1, 0, 0, 1, 0, 0, 0] 5)) (.slice Ao1_1 a0.2.length co1_1) (by kernel_rfl)) (hco1 _ (hZp0 _ hM.kept) 1 _ rfl) ?_
            refine RunF.go 3 [0, 1, 11, 73, 77, 80] (k' := (pin Go.Proofs.Try.f35 [1, 1, 0, 1, 0, 0, 1, 0, 0, 0] 8)) (L' := [(0, .pointer (some ⟨gp0, 0, none⟩)), (1, .int .u32 x1_1), (11, .int .i64 x11_1), (73, .int .u32 x2_1), (77, .slice Ao1_1 a0.2.length co1_1), (80, .int .i64 (I64 ((I64 (2 * x11_1)) + 1)))]) (w' := W) (by kernel_rfl) ?_
            rcases two (decide (0 ≤ (I64 ((I64 (2 * x11_1)) + 1)))) with c27 | c27
            · replace h := of_true h c27
              rcases two (decide ((I64 ((I64 (2 * x11_1)) + 1)) < (a0.2.length : Int))) with c28 | c28
              · replace h := of_true h c28
                obtain ⟨q26, hAq26, hcq26⟩ := Rd.num (ho1_1 _ (hZp0 _ hM.kept)) (i := I64 ((I64 (2 * x11_1)) + 1)) (of_decide_eq_true c27) (by have h_ := of_decide_eq_true c28; omega)
                refine RunF.y (idx_y (d := some 81) (A := Ao1_1) (m := a0.2.length) (i := I64 ((I64 (2 * x11_1)) + 1)) (k2 := (pin Go.Proofs.Try.f35 [1, 1, 0, 1, 0, 0, 1, 0, 0, 0] 9)) (by kernel_rfl) (of_decide_eq_true c27) (by have h_ := of_decide_eq_true c28; omega) hAq26) trivial ?_
                refine RunF.y (ld_y (d := some 82) (p := (q26.add (I64 ((I64 (2 * x11_1)) + 1) : Int).toNat)) (k2 := (pin Go.Proofs.Try.f35 [1, 1, 0, 1, 0, 0, 1, 0, 0, 0] 10)) (.int .u32 (rd a0.2 (I64 ((I64 (2 * x11_1)) + 1)))) (by kernel_rfl)) hcq26 ?_
                refine RunF.go 5 [0, 1, 11, 83, 87] (k' := (pin Go.Proofs.Try.f35 [1, 1, 0, 1, 0, 0, 1, 0, 0, 0] 15)) (L' := [(0, .pointer (some ⟨gp0, 0, none⟩)), (1, .int .u32 x1_1), (11, .int .i64 x11_1), (83, .int .u32 (U32 (x2_1 - (rd a0.2 (I64 ((I64 (2 * x11_1)) + 1)))))), (87, .int .i64 (I64 (32 - (I64 (Int.tmod x1_1 32)))))]) (w' := W) (by kernel_rfl) ?_
                obtain ⟨y29, hy, h⟩ := Option.bind_eq_some_iff.mp h
                rw [show (U32 (x2_1 - (rd a0.2 (I64 ((I64 (2 * x11_1)) + 1))))) = y29 from Option.some.inj hy]
                clear hy
                obtain ⟨t31, ht31, h⟩ := Option.bind_eq_some_iff.mp h
                refine RunF.call (d := some 88) (g := 25) (args := #[.int .u32 y29, .int .i64 (I64 (32 - (I64 (Int.tmod x1_1 32))))]) (k2 := (pin Go.Proofs.Try.f35 [1, 1, 0, 1, 0, 0, 1, 0, 0, 0] 16)) (by kernel_rfl) (scrimref1_Rol32.calls k y29 (I64 (32 - (I64 (Int.tmod x1_1 32)))) t31 _ ht31) ?_
                rintro _ W30 ⟨rfl, hM_⟩
                replace hM := hM.call hM_
                clear hM_ ht31
                refine RunF.go 9 [0, 2, 11, 91, 94] (k' := (pin Go.Proofs.Try.f35 [1, 1, 0, 1, 0, 0, 1, 0, 0, 1] 4)) (L' := [(0, .pointer (some ⟨gp0, 0, none⟩)), (2, .int .u32 (bxor .u32 t31 x1_1)), (11, .int .i64 x11_1), (91, .int .u32 x1_1), (94, .pointer (some ⟨gp0, 1, none⟩))]) (w' := W30) (by kernel_rfl) ?_
                refine RunF.y (ld_y (d := some 95) (p := ⟨gp0, 1, none⟩) (k2 := (pin Go.Proofs.Try.f35 [1, 1, 0, 1, 0, 0, 1, 0, 0, 1] 5)) (.slice Ao1_1 a0.2.length co1_1) (by kernel_rfl)) (hco1 _ (hZp0 _ hM.kept) 1 _ rfl) ?_
                refine RunF.go 2 [0, 2, 11, 91, 95, 97] (k' := (pin Go.Proofs.Try.f35 [1, 1, 0, 1, 0, 0, 1, 0, 0, 1] 7)) (L' := [(0, .pointer (some ⟨gp0, 0, none⟩)), (2, .int .u32 (bxor .u32 t31 x1_1)), (11, .int .i64 x11_1), (91, .int .u32 x1_1), (95, .slice Ao1_1 a0.2.length co1_1), (97, .int .i64 (I64 (2 * x11_1)))]) (w' := W30) (by kernel_rfl) ?_
                rcases two (decide (0 ≤ (I64 (2 * x11_1)))) with c33 | c33
                · replace h := of_true h c33
                  rcases two (decide ((I64 (2 * x11_1)) < (a0.2.length : Int))) with c34 | c34
                  · replace h := of_true h c34
                    obtain ⟨q32, hAq32, hcq32⟩ := Rd.num (ho1_1 _ (hZp0 _ hM.kept)) (i := I64 (2 * x11_1)) (of_decide_eq_true c33) (by have h_ := of_decide_eq_true c34; omega)
                    refine RunF.y (idx_y (d := some 98) (A := Ao1_1) (m := a0.2.length) (i := I64 (2 * x11_1)) (k2 := (pin Go.Proofs.Try.f35 [1, 1, 0, 1, 0, 0, 1, 0, 0, 1] 8)) (by kernel_rfl) (of_decide_eq_true c33) (by have h_ := of_decide_eq_true c34; omega) hAq32) trivial ?_
                    refine RunF.y (ld_y (d := some 99) (p := (q32.add (I64 (2 * x11_1) : Int).toNat)) (k2 := (pin Go.Proofs.Try.f35 [1, 1, 0, 1, 0, 0, 1, 0, 0, 1] 9)) (.int .u32 (rd a0.2 (I64 (2 * x11_1)))) (by kernel_rfl)) hcq32 ?_
                    refine RunF.go 5 [0, 2, 11, 100, 104] (k' := (pin Go.Proofs.Try.f35 [1, 1, 0, 1, 0, 0, 1, 0, 0, 1] 14)) (L' := [(0, .pointer (some ⟨gp0, 0, none⟩)), (2, .int .u32 (bxor .u32 t31 x1_1)), (11, .int .i64 x11_1), (100, .int .u32 (U32 (x1_1 - (rd a0.2 (I64 (2 * x11_1)))))), (104, .int .i64 (I64 (32 - (I64 (Int.tmod (bxor .u32 t31 x1_1) 32)))))]) (w' := W30) (by kernel_rfl) ?_
                    obtain ⟨y35, hy, h⟩ := Option.bind_eq_some_iff.mp h
                    rw [show (I64 (32 - (I64 (Int.tmod (bxor .u32 t31 x1_1) 32)))) = y35 from Option.some.inj hy]
                    clear hy
                    obtain ⟨t37, ht37, h⟩ := Option.bind_eq_some_iff.mp h
                    refine RunF.call (d := some 105) (g := 25) (args := #[.int .u32 (U32 (x1_1 - (rd a0.2 (I64 (2 * x11_1))))), .int .i64 y35]) (k2 := (pin Go.Proofs.Try.f35 [1, 1, 0, 1, 0, 0, 1, 0, 0, 1] 15)) (by kernel_rfl) (scrimref1_Rol32.calls k (U32 (x1_1 - (rd a0.2 (I64 (2 * x11_1))))) y35 t37 _ ht37) ?_
                    rintro _ W36 ⟨rfl, hM_⟩
                    replace hM := hM.call hM_
                    clear hM_ ht37
                    refine RunF.go 11 [0, 1, 2, 11] (k' := (pl Go.Proofs.Try.f35 [1, 1, 0, 1, 0, 0])) (L' := [(0, .pointer (some ⟨gp0, 0, none⟩)), (1, .int .u32 (bxor .u32 t37 (bxor .u32 t31 x1_1))), (2, .int .u32 (bxor .u32 t31 x1_1)), (11, .int .i64 (I64 (x11_1 - 1)))]) (w' := W36) (by kernel_rfl) ?_
                    exact ih1 k (by omega) (bxor .u32 t37 (bxor .u32 t31 x1_1)) (bxor .u32 t31 x1_1) (I64 (x11_1 - 1)) _ (hM.pick [] rfl rfl) h
                  · replace h := of_false h c34
                    cases h
                · replace h := of_false h c33
                  cases h
              · replace h := of_false h c28
                cases h
            · replace h := of_false h c27
              cases h
          · replace h := of_false h c25
            refine RunF.know 70 (b := false) (by kernel_rfl) c25 ?_
            refine RunF.go 3 [0, 1, 2] (k' := (pl Go.Proofs.Try.f35 [1, 1, 1, 0])) (L' := [(0, .pointer (some ⟨gp0, 0, none⟩)), (1, .int .u32 x1_1), (2, .int .u32 x2_1)]) (w' := W) (by kernel_rfl) ?_
            refine RunF.draw (Still ({ W with drawn := W.drawn + 1 } : World) []) (by kernel_rfl) (by kernel_rfl) ?_
            have hMd39 := hM.drew
            have hS := Still.refl ({ W with drawn := W.drawn + 1 } : World) []
            generalize ({ W with drawn := W.drawn + 1 } : World) = W38 at hMd39 hS ⊢
            replace hM := hMd39
            refine RunAny.y 0 (by kernel_rfl) (yl_pure (d := some 108) (v := .int .u32 x1_1) (k2 := [.inRegion (opsOf (pl Go.Proofs.Try.f35 [1, 1, 1, 0])) []]) fun w => by kernel_rfl) (fun _ _ => trivial) hS ?_
            refine RunAny.y 1 (by kernel_rfl) (yl_pure (d := some 109) (v := .pointer (some ⟨gp0, 0, none⟩)) (k2 := [.inRegion (opsOf (pl Go.Proofs.Try.f35 [1, 1, 1, 0])) []]) fun w => by kernel_rfl) (fun _ _ => trivial) hS ?_
            refine RunAny.y 2 (by kernel_rfl) (yl_pure (d := some 110) (v := .pointer (some ⟨gp0, 0, none⟩)) (k2 := [.inRegion (opsOf (pl Go.Proofs.Try.f35 [1, 1, 1, 0])) []]) fun w => by kernel_rfl) (fun _ _ => trivial) hS ?_
            refine RunAny.y 3 (by kernel_rfl) (yl_pure (d := some 111) (v := .pointer (some ⟨gp0, 1, none⟩)) (k2 := [.inRegion (opsOf (pl Go.Proofs.Try.f35 [1, 1, 1, 0])) []]) fun w => by kernel_rfl) (fun _ _ => trivial) hS ?_
            refine RunAny.y 4 (by kernel_rfl) (ld_y (d := some 112) (p := ⟨gp0, 1, none⟩) (k2 := [.inRegion (opsOf (pl Go.Proofs.Try.f35 [1, 1, 1, 0])) []]) (.slice Ao1_1 a0.2.length co1_1) (by kernel_rfl)) (fun _ hs => hs.cell (hco1 _ (hZp0 _ hM.kept) 1 _ rfl) (by simp)) hS ?_
            rcases two (decide (0 < (a0.2.length : Int))) with c41 | c41
            · replace h := of_true h c41
              obtain ⟨q40, hAq40, hcq40⟩ := Rd.num (ho1_1 _ (hZp0 _ hM.kept)) (i := 0) (by omega) (by have h_ := of_decide_eq_true c41; omega)
              refine RunAny.y 5 (by kernel_rfl) (idx_y (d := some 113) (A := Ao1_1) (m := a0.2.length) (i := 0) (k2 := [.inRegion (opsOf (pl Go.Proofs.Try.f35 [1, 1, 1, 0])) []]) (by kernel_rfl) (by omega) (by have h_ := of_decide_eq_true c41; omega) hAq40) (fun _ _ => trivial) hS ?_
              refine RunAny.y 6 (by kernel_rfl) (ld_y (d := some 114) (p := (q40.add (0 : Int).toNat)) (k2 := [.inRegion (opsOf (pl Go.Proofs.Try.f35 [1, 1, 1, 0])) []]) (.int .u32 (rd a0.2 0)) (by kernel_rfl)) (fun _ hs => hs.cell hcq40 (by simp)) hS ?_
              refine RunAny.y 7 (by kernel_rfl) (yl_pure (d := some 115) (v := .int .u32 (U32 (x1_1 - (rd a0.2 0)))) (k2 := [.inRegion (opsOf (pl Go.Proofs.Try.f35 [1, 1, 1, 0])) []]) fun w => by kernel_rfl) (fun _ _ => trivial) hS ?_
              refine RunAny.y 8 (by kernel_rfl) (yl_pure (d := some 116) (v := .int .u32 x2_1) (k2 := [.inRegion (opsOf (pl Go.Proofs.Try.f35 [1, 1, 1, 0])) []]) fun w => by kernel_rfl) (fun _ _ => trivial) hS ?_
              refine RunAny.y 9 (by kernel_rfl) (yl_pure (d := some 117) (v := .pointer (some ⟨gp0, 0, none⟩)) (k2 := [.inRegion (opsOf (pl Go.Proofs.Try.f35 [1, 1, 1, 0])) []]) fun w => by kernel_rfl) (fun _ _ => trivial) hS ?_
              refine RunAny.y 10 (by kernel_rfl) (yl_pure (d := some 118) (v := .pointer (some ⟨gp0, 0, none⟩)) (k2 := [.inRegion (opsOf (pl Go.Proofs.Try.f35 [1, 1, 1, 0])) []]) fun w => by kernel_rfl) (fun _ _ => trivial) hS ?_
              refine RunAny.y 11 (by kernel_rfl) (yl_pure (d := some 119) (v := .pointer (some ⟨gp0, 1, none⟩)) (k2 := [.inRegion (opsOf (pl Go.Proofs.Try.f35 [1, 1, 1, 0])) []]) fun w => by kernel_rfl) (fun _ _ => trivial) hS ?_
              refine RunAny.y 12 (by kernel_rfl) (ld_y (d := some 120) (p := ⟨gp0, 1, none⟩) (k2 := [.inRegion (opsOf (pl Go.Proofs.Try.f35 [1, 1, 1, 0])) []]) (.slice Ao1_1 a0.2.length co1_1) (by kernel_rfl)) (fun _ hs => hs.cell (hco1 _ (hZp0 _ hM.kept) 1 _ rfl) (by simp)) hS ?_
              rcases two (decide (1 < (a0.2.length : Int))) with c43 | c43
              · replace h := of_true h c43
                obtain ⟨q42, hAq42, hcq42⟩ := Rd.num (ho1_1 _ (hZp0 _ hM.kept)) (i := 1) (by omega) (by have h_ := of_decide_eq_true c43; omega)
                refine RunAny.y 13 (by kernel_rfl) (idx_y (d := some 121) (A := Ao1_1) (m := a0.2.length) (i := 1) (k2 := [.inRegion (opsOf (pl Go.Proofs.Try.f35 [1, 1, 1, 0])) []]) (by kernel_rfl) (by omega) (by have h_ := of_decide_eq_true c43; omega) hAq42) (fun _ _ => trivial) hS ?_
                refine RunAny.y 14 (by kernel_rfl) (ld_y (d := some 122) (p := (q42.add (1 : Int).toNat)) (k2 := [.inRegion (opsOf (pl Go.Proofs.Try.f35 [1, 1, 1, 0])) []]) (.int .u32 (rd a0.2 1)) (by kernel_rfl)) (fun _ hs => hs.cell hcq42 (by simp)) hS ?_
                refine RunAny.y 15 (by kernel_rfl) (yl_pure (d := some 123) (v := .int .u32 (U32 (x2_1 - (rd a0.2 1)))) (k2 := [.inRegion (opsOf (pl Go.Proofs.Try.f35 [1, 1, 1, 0])) []]) fun w => by kernel_rfl) (fun _ _ => trivial) hS ?_
                refine RunAny.y 16 (by kernel_rfl) (yl_pure (d := some 8) (v := .int .u32 (U32 (x1_1 - (rd a0.2 0)))) (k2 := [.inRegion (opsOf (pl Go.Proofs.Try.f35 [1, 1, 1, 0])) []]) fun w => by kernel_rfl) (fun _ _ => trivial) hS ?_
                refine RunAny.y 17 (by kernel_rfl) (yl_pure (d := some 9) (v := .int .u32 (U32 (x2_1 - (rd a0.2 1)))) (k2 := [.inRegion (opsOf (pl Go.Proofs.Try.f35 [1, 1, 1, 0])) []]) fun w => by kernel_rfl) (fun _ _ => trivial) hS ?_
                refine RunAny.done (by kernel_rfl) ?_
                clear hS
                obtain rfl := Option.some.inj h
                exact RunF.ret2 8 9 (.int .u32 (U32 (x1_1 - (rd a0.2 0)))) (.int .u32 (U32 (x2_1 - (rd a0.2 1)))) (fn := Go.Proofs.Try.f35) Go.Proofs.Try.func35 (by kernel_rfl) (by kernel_rfl) (by kernel_rfl) (by kernel_rfl) ⟨_, rfl, rfl, (hM.pick [] rfl rfl)⟩
              · replace h := of_false h c43
                cases h
            · replace h := of_false h c41
              cases h
    exact l1 k (Nat.le_refl _) a1 a2 12 _ (hM.pick [] rfl rfl) h

/-! ### scrim/scrimref1.PutLe32: function 36 -/
def scrimref1_PutLe32.f (k : Nat) (a0 : Int) : Option (List Int) := some ([U8 (a0), U8 (shr a0 8), U8 (shr a0 16), U8 (shr a0 24)] : List Int)
set_option maxRecDepth 100000 in
theorem scrimref1_PutLe32.calls (k : Nat) (a0 : Int) (r : List Int) (w : World) (h : scrimref1_PutLe32.f k a0 = some r) :
    Calls Go.Proofs.Try.prog 36 #[.int .u32 a0] w (Ret fun v w' => ∃ A0' n0' c0', v = .slice A0' n0' c0' ∧ Mem w w' [⟨.slice A0' n0' c0', 5, 1, nums .u8 r⟩]) := by
  unfold scrimref1_PutLe32.f at h
  refine calls_of [.int .u32 a0] (fn := Go.Proofs.Try.f36) Go.Proofs.Try.func36 (by kernel_rfl) (by kernel_rfl) ?_
  have hM := Mem.refl w
  refine RunF.go 17 [4, 7, 10, 13] (k' := (pin Go.Proofs.Try.f36 [1, 0] 11)) (L' := [(4, .int .u8 (U8 (a0))), (7, .int .u8 (U8 (shr a0 8))), (10, .int .u8 (U8 (shr a0 16))), (13, .int .u8 (U8 (shr a0 24)))]) (w' := w) (by kernel_rfl) ?_
  refine RunF.new 5 1 4 (nums .u8 [U8 (a0), U8 (shr a0 8), U8 (shr a0 16), U8 (shr a0 24)]) (d := some 14) (k2 := (pin Go.Proofs.Try.f36 [1, 0] 12)) hM (by simp [nums, bools, strs]) (by kernel_rfl) (by kernel_rfl) ?_
  replace hM := hM
  intro g1 W2 hM
  refine RunF.go 2 [2] (k' := (pl Go.Proofs.Try.f36 [1, 1])) (L' := [(2, .slice (some ⟨g1, 0, none⟩) 4 4)]) (w' := W2) (by kernel_rfl) ?_
  obtain rfl := Option.some.inj h
  exact RunF.ret1 2 (.slice (some ⟨g1, 0, none⟩) 4 4) (fn := Go.Proofs.Try.f36) Go.Proofs.Try.func36 (by kernel_rfl) (by kernel_rfl) (by kernel_rfl) ⟨_, rfl, (some ⟨g1, 0, none⟩), 4, 4, rfl, (hM.pick [0] rfl rfl)⟩

/-! ### (*scrim/scrimref8.Small).lays: function 55 -/
def scrimref8_Small_lays.f (k : Nat) (a0 : (Int × (List Int))) (a1 : Int) (a2 : Int) (a3 : Int) : Option (Int) := (some (U32 ((bxor .u32 (shl .u32 a1 4) (shr a1 5)) + a1) : Int)).bind fun y2 => (if (decide (0 ≤ (Int.tmod a3 4))) = true then (if (decide ((Int.tmod a3 4) < (a0.2.length : Int))) = true then (some (bxor .u32 y2 (U32 (a2 + (rd a0.2 (Int.tmod a3 4)))))) else (none)) else (none))
set_option maxRecDepth 100000 in
theorem scrimref8_Small_lays.calls (k : Nat) (vp0 : Value) (Zp0 : Zp) (a0 : (Int × (List Int))) (a1 : Int) (a2 : Int) (a3 : Int) (r : Int) (w : World) (hp0 : (rPtr Rs_scrimref8_Small) Zp0 vp0 a0) (hZp0 : ∀ W, Kept w W → Zp0 W) (h : scrimref8_Small_lays.f k a0 a1 a2 a3 = some r) :
    Calls Go.Proofs.Try.prog 55 #[vp0, .int .u32 a1, .int .u32 a2, .int .u32 a3] w (Ret fun v w' => v = .int .u32 r ∧ Mem w w' []) := by
  obtain ⟨gp0, _, rfl, hco1, _, _, rfl, rfl, ⟨Ao1_1, co1_1, rfl, ho1_1⟩⟩ := id hp0
  unfold scrimref8_Small_lays.f at h
  refine calls_of [.pointer (some ⟨gp0, 0, none⟩), .int .u32 a1, .int .u32 a2, .int .u32 a3] (fn := Go.Proofs.Try.f55) Go.Proofs.Try.func55 (by kernel_rfl) (by kernel_rfl) ?_
  have hM := Mem.refl w
  refine RunF.go 17 [3, 15, 16, 19] (k' := (pin Go.Proofs.Try.f55 [1, 0] 11)) (L' := [(3, .int .u32 a3), (15, .int .u32 (U32 ((bxor .u32 (shl .u32 a1 4) (shr a1 5)) + a1))), (16, .int .u32 a2), (19, .pointer (some ⟨gp0, 1, none⟩))]) (w' := w) (by kernel_rfl) ?_
  obtain ⟨y2, hy, h⟩ := Option.bind_eq_some_iff.mp h
  rw [show (U32 ((bxor .u32 (shl .u32 a1 4) (shr a1 5)) + a1)) = y2 from Option.some.inj hy]
  clear hy
  refine RunF.y (ld_y (d := some 20) (p := ⟨gp0, 1, none⟩) (k2 := (pin Go.Proofs.Try.f55 [1, 0] 12)) (.slice Ao1_1 a0.2.length co1_1) (by kernel_rfl)) (hco1 _ (hZp0 _ hM.kept) 1 _ rfl) ?_
  refine RunF.go 2 [15, 16, 20, 22] (k' := (pin Go.Proofs.Try.f55 [1, 0] 14)) (L' := [(15, .int .u32 y2), (16, .int .u32 a2), (20, .slice Ao1_1 a0.2.length co1_1), (22, .int .u32 (Int.tmod a3 4))]) (w' := w) (by kernel_rfl) ?_
  rcases two (decide (0 ≤ (Int.tmod a3 4))) with c4 | c4
  · replace h := of_true h c4
    rcases two (decide ((Int.tmod a3 4) < (a0.2.length : Int))) with c5 | c5
    · replace h := of_true h c5
      obtain ⟨q3, hAq3, hcq3⟩ := Rd.num (ho1_1 _ (hZp0 _ hM.kept)) (i := Int.tmod a3 4) (of_decide_eq_true c4) (by have h_ := of_decide_eq_true c5; omega)
      refine RunF.y (idx_y (d := some 23) (A := Ao1_1) (m := a0.2.length) (i := Int.tmod a3 4) (k2 := (pin Go.Proofs.Try.f55 [1, 0] 15)) (by kernel_rfl) (of_decide_eq_true c4) (by have h_ := of_decide_eq_true c5; omega) hAq3) trivial ?_
      refine RunF.y (ld_y (d := some 24) (p := (q3.add (Int.tmod a3 4 : Int).toNat)) (k2 := (pin Go.Proofs.Try.f55 [1, 0] 16)) (.int .u32 (rd a0.2 (Int.tmod a3 4))) (by kernel_rfl)) hcq3 ?_
      refine RunF.go 4 [8] (k' := (pl Go.Proofs.Try.f55 [1, 1])) (L' := [(8, .int .u32 (bxor .u32 y2 (U32 (a2 + (rd a0.2 (Int.tmod a3 4))))))]) (w' := w) (by kernel_rfl) ?_
      obtain rfl := Option.some.inj h
      exact RunF.ret1 8 (.int .u32 (bxor .u32 y2 (U32 (a2 + (rd a0.2 (Int.tmod a3 4)))))) (fn := Go.Proofs.Try.f55) Go.Proofs.Try.func55 (by kernel_rfl) (by kernel_rfl) (by kernel_rfl) ⟨_, rfl, rfl, (hM.pick [] rfl rfl)⟩
    · replace h := of_false h c5
      cases h
  · replace h := of_false h c4
    cases h

/-! ### (*scrim/scrimref8.Small).xtea: function 37 -/
mutual
def scrimref8_Small_xtea.l0 : Nat → (Int × (List Int)) → Int → Int → Int → Int → Option (Int × Int)
  | 0, _, _, _, _, _ => none
  | k + 1, a0, x1_0, x2_0, x10_0, x11_0 => if (decide (x11_0 < 32)) = true then ((scrimref8_Small_lays.f k a0 x2_0 x10_0 x10_0).bind fun t5 => ((scrimref8_Small_lays.f k a0 (U32 (x1_0 + t5)) (U32 (x10_0 + 2654435769)) (shr (U32 (x10_0 + 2654435769)) 11)).bind fun t7 => (scrimref8_Small_xtea.l0 k a0 (U32 (x1_0 + t5)) (U32 (x2_0 + t7)) (U32 (x10_0 + 2654435769)) (I64 (x11_0 + 1))))) else (some (x1_0, x2_0))
def scrimref8_Small_xtea.l1 : Nat → (Int × (List Int)) → Int → Int → Int → Int → Option (Int × Int)
  | 0, _, _, _, _, _ => none
  | k + 1, a0, a1, a2, x10_1, x12_1 => if (decide (x12_1 < 32)) = true then (scrimref8_Small_xtea.l1 k a0 a1 a2 (U32 (x10_1 + 2654435769)) (I64 (x12_1 + 1))) else (scrimref8_Small_xtea.l2 k a0 a1 a2 x10_1 0)
def scrimref8_Small_xtea.l2 : Nat → (Int × (List Int)) → Int → Int → Int → Int → Option (Int × Int)
  | 0, _, _, _, _, _ => none
  | k + 1, a0, x1_2, x2_2, x10_2, x13_2 => if (decide (x13_2 < 32)) = true then ((scrimref8_Small_lays.f k a0 x1_2 x10_2 (shr x10_2 11)).bind fun t11 => ((scrimref8_Small_lays.f k a0 (U32 (x2_2 - t11)) (U32 (x10_2 - 2654435769)) (U32 (x10_2 - 2654435769))).bind fun t13 => (scrimref8_Small_xtea.l2 k a0 (U32 (x1_2 - t13)) (U32 (x2_2 - t11)) (U32 (x10_2 - 2654435769)) (I64 (x13_2 + 1))))) else (some (x1_2, x2_2))
end
def scrimref8_Small_xtea.f (k : Nat) (a0 : (Int × (List Int))) (a1 : Int) (a2 : Int) (a3 : Bool) : Option (Int × Int) := if (!a3) = true then (scrimref8_Small_xtea.l0 k a0 a1 a2 0 0) else (scrimref8_Small_xtea.l1 k a0 a1 a2 0 0)
set_option maxRecDepth 100000 in
theorem scrimref8_Small_xtea.calls (k : Nat) (vp0 : Value) (Zp0 : Zp) (a0 : (Int × (List Int))) (a1 : Int) (a2 : Int) (a3 : Bool) (r : Int × Int) (w : World) (hp0 : (rPtr Rs_scrimref8_Small) Zp0 vp0 a0) (hZp0 : ∀ W, Kept w W → Zp0 W) (h : scrimref8_Small_xtea.f k a0 a1 a2 a3 = some r) :
    Calls Go.Proofs.Try.prog 37 #[vp0, .int .u32 a1, .int .u32 a2, .bool a3] w (Ret fun v w' => v = .tuple #[.int .u32 r.1, .int .u32 r.2] ∧ Mem w w' []) := by
  obtain ⟨gp0, _, rfl, hco1, _, _, rfl, rfl, ⟨Ao1_1, co1_1, rfl, ho1_1⟩⟩ := id hp0
  unfold scrimref8_Small_xtea.f at h
  refine calls_of [.pointer (some ⟨gp0, 0, none⟩), .int .u32 a1, .int .u32 a2, .bool a3] (fn := Go.Proofs.Try.f37) Go.Proofs.Try.func37 (by kernel_rfl) (by kernel_rfl) ?_
  have hM := Mem.refl w
  refine RunF.go 15 [0, 1, 2, 10, 15] (k' := (pl Go.Proofs.Try.f37 [1, 1, 0, 1])) (L' := [(0, .pointer (some ⟨gp0, 0, none⟩)), (1, .int .u32 a1), (2, .int .u32 a2), (10, .int .u32 0), (15, .bool (!a3))]) (w' := w) (by kernel_rfl) ?_
  rcases two (!a3) with c2 | c2
  · replace h := of_true h c2
    refine RunF.know 15 (b := true) (by kernel_rfl) c2 ?_
    refine RunF.go 8 [0, 1, 2, 10, 11] (k' := (pl Go.Proofs.Try.f37 [1, 1, 0, 1, 0, 0, 1, 0, 0])) (L' := [(0, .pointer (some ⟨gp0, 0, none⟩)), (1, .int .u32 a1), (2, .int .u32 a2), (10, .int .u32 0), (11, .int .i64 0)]) (w' := w) (by kernel_rfl) ?_
    have l0 : ∀ (k_ : Nat), k_ ≤ k → ∀ (x1_0 : Int) (x2_0 : Int) (x10_0 : Int) (x11_0 : Int) (W : World) (hM : Mem w W []) (h : scrimref8_Small_xtea.l0 k_ a0 x1_0 x2_0 x10_0 x11_0 = some r), RunF Go.Proofs.Try.prog (Ret fun v w' => v = .tuple #[.int .u32 r.1, .int .u32 r.2] ∧ Mem w w' []) 37 (pl Go.Proofs.Try.f37 [1, 1, 0, 1, 0, 0, 1, 0, 0]) 68 [(0, .pointer (some ⟨gp0, 0, none⟩)), (1, .int .u32 x1_0), (2, .int .u32 x2_0), (10, .int .u32 x10_0), (11, .int .i64 x11_0)] W := by
      intro k_
      induction k_ using Nat.strongRecOn with
      | _ k_ ih0 =>
        intro hk x1_0 x2_0 x10_0 x11_0 W hM h
        cases k_ with
        | zero => exact absurd h (by simp [scrimref8_Small_xtea.l0])
        | succ k =>
          simp only [scrimref8_Small_xtea.l0] at h
          replace ih0 : ∀ m, m ≤ k → _ := fun m hm => ih0 m (by omega) (by omega)
          refine RunF.go 6 [0, 1, 2, 10, 11, 17] (k' := (pl Go.Proofs.Try.f37 [1, 1, 0, 1, 0, 0, 1, 0, 0, 0, 1])) (L' := [(0, .pointer (some ⟨gp0, 0, none⟩)), (1, .int .u32 x1_0), (2, .int .u32 x2_0), (10, .int .u32 x10_0), (11, .int .i64 x11_0), (17, .bool (decide (x11_0 < 32)))]) (w' := W) (by kernel_rfl) ?_
          rcases two (decide (x11_0 < 32)) with c3 | c3
          · replace h := of_true h c3
            refine RunF.know 17 (b := true) (by kernel_rfl) c3 ?_
            refine RunF.go 11 [0, 2, 10, 11, 20, 21, 22, 23, 24] (k' := (pin Go.Proofs.Try.f37 [1, 1, 0, 1, 0, 0, 1, 0, 0, 1, 0, 0, 0] 5)) (L' := [(0, .pointer (some ⟨gp0, 0, none⟩)), (2, .int .u32 x2_0), (10, .int .u32 x10_0), (11, .int .i64 x11_0), (20, .int .u32 x1_0), (21, .pointer (some ⟨gp0, 0, none⟩)), (22, .int .u32 x2_0), (23, .int .u32 x10_0), (24, .int .u32 x10_0)]) (w' := W) (by kernel_rfl) ?_
            obtain ⟨t5, ht5, h⟩ := Option.bind_eq_some_iff.mp h
            refine RunF.call (d := some 25) (g := 55) (args := #[.pointer (some ⟨gp0, 0, none⟩), .int .u32 x2_0, .int .u32 x10_0, .int .u32 x10_0]) (k2 := (pin Go.Proofs.Try.f37 [1, 1, 0, 1, 0, 0, 1, 0, 0, 1, 0, 0, 0] 6)) (by kernel_rfl) (scrimref8_Small_lays.calls k (.pointer (some ⟨gp0, 0, none⟩)) Zp0 a0 x2_0 x10_0 x10_0 t5 _ hp0 (fun _ hb_ => (hZp0 _ (hM.kept.trans hb_))) ht5) ?_
            rintro _ W4 ⟨rfl, hM_⟩
            replace hM := hM.call hM_
            clear hM_ ht5
            refine RunF.go 16 [0, 1, 10, 11, 29, 30, 31, 32, 34] (k' := (pin Go.Proofs.Try.f37 [1, 1, 0, 1, 0, 0, 1, 0, 0, 1, 0, 0, 1, 1] 6)) (L' := [(0, .pointer (some ⟨gp0, 0, none⟩)), (1, .int .u32 (U32 (x1_0 + t5))), (10, .int .u32 (U32 (x10_0 + 2654435769))), (11, .int .i64 x11_0), (29, .int .u32 x2_0), (30, .pointer (some ⟨gp0, 0, none⟩)), (31, .int .u32 (U32 (x1_0 + t5))), (32, .int .u32 (U32 (x10_0 + 2654435769))), (34, .int .u32 (shr (U32 (x10_0 + 2654435769)) 11))]) (w' := W4) (by kernel_rfl) ?_
            obtain ⟨t7, ht7, h⟩ := Option.bind_eq_some_iff.mp h
            refine RunF.call (d := some 35) (g := 55) (args := #[.pointer (some ⟨gp0, 0, none⟩), .int .u32 (U32 (x1_0 + t5)), .int .u32 (U32 (x10_0 + 2654435769)), .int .u32 (shr (U32 (x10_0 + 2654435769)) 11)]) (k2 := (pin Go.Proofs.Try.f37 [1, 1, 0, 1, 0, 0, 1, 0, 0, 1, 0, 0, 1, 1] 7)) (by kernel_rfl) (scrimref8_Small_lays.calls k (.pointer (some ⟨gp0, 0, none⟩)) Zp0 a0 (U32 (x1_0 + t5)) (U32 (x10_0 + 2654435769)) (shr (U32 (x10_0 + 2654435769)) 11) t7 _ hp0 (fun _ hb_ => (hZp0 _ (hM.kept.trans hb_))) ht7) ?_
            rintro _ W6 ⟨rfl, hM_⟩
            replace hM := hM.call hM_
            clear hM_ ht7
            refine RunF.go 10 [0, 1, 2, 10, 11] (k' := (pl Go.Proofs.Try.f37 [1, 1, 0, 1, 0, 0, 1, 0, 0])) (L' := [(0, .pointer (some ⟨gp0, 0, none⟩)), (1, .int .u32 (U32 (x1_0 + t5))), (2, .int .u32 (U32 (x2_0 + t7))), (10, .int .u32 (U32 (x10_0 + 2654435769))), (11, .int .i64 (I64 (x11_0 + 1)))]) (w' := W6) (by kernel_rfl) ?_
            exact ih0 k (by omega) (U32 (x1_0 + t5)) (U32 (x2_0 + t7)) (U32 (x10_0 + 2654435769)) (I64 (x11_0 + 1)) _ (hM.pick [] rfl rfl) h
          · replace h := of_false h c3
            refine RunF.know 17 (b := false) (by kernel_rfl) c3 ?_
            refine RunF.go 9 [8, 9] (k' := (pl Go.Proofs.Try.f37 [1, 1, 0, 1, 0, 1, 1])) (L' := [(8, .int .u32 x1_0), (9, .int .u32 x2_0)]) (w' := W) (by kernel_rfl) ?_
            obtain rfl := Option.some.inj h
            exact RunF.ret2 8 9 (.int .u32 x1_0) (.int .u32 x2_0) (fn := Go.Proofs.Try.f37) Go.Proofs.Try.func37 (by kernel_rfl) (by kernel_rfl) (by kernel_rfl) (by kernel_rfl) ⟨_, rfl, rfl, (hM.pick [] rfl rfl)⟩
    exact l0 k (Nat.le_refl _) a1 a2 0 0 _ (hM.pick [] rfl rfl) h
  · replace h := of_false h c2
    refine RunF.know 15 (b := false) (by kernel_rfl) c2 ?_
    refine RunF.go 9 [0, 1, 2, 10, 12] (k' := (pl Go.Proofs.Try.f37 [1, 1, 1, 0, 1, 0, 0])) (L' := [(0, .pointer (some ⟨gp0, 0, none⟩)), (1, .int .u32 a1), (2, .int .u32 a2), (10, .int .u32 0), (12, .int .i64 0)]) (w' := w) (by kernel_rfl) ?_
    have l1 : ∀ (k_ : Nat), k_ ≤ k → ∀ (x10_1 : Int) (x12_1 : Int) (W : World) (hM : Mem w W []) (h : scrimref8_Small_xtea.l1 k_ a0 a1 a2 x10_1 x12_1 = some r), RunF Go.Proofs.Try.prog (Ret fun v w' => v = .tuple #[.int .u32 r.1, .int .u32 r.2] ∧ Mem w w' []) 37 (pl Go.Proofs.Try.f37 [1, 1, 1, 0, 1, 0, 0]) 68 [(0, .pointer (some ⟨gp0, 0, none⟩)), (1, .int .u32 a1), (2, .int .u32 a2), (10, .int .u32 x10_1), (12, .int .i64 x12_1)] W := by
      intro k_
      induction k_ using Nat.strongRecOn with
      | _ k_ ih1 =>
        intro hk x10_1 x12_1 W hM h
        cases k_ with
        | zero => exact absurd h (by simp [scrimref8_Small_xtea.l1])
        | succ k =>
          simp only [scrimref8_Small_xtea.l1] at h
          replace ih1 : ∀ m, m ≤ k → _ := fun m hm => ih1 m (by omega) (by omega)
          refine RunF.go 6 [0, 1, 2, 10, 12, 40] (k' := (pl Go.Proofs.Try.f37 [1, 1, 1, 0, 1, 0, 0, 0, 1])) (L' := [(0, .pointer (some ⟨gp0, 0, none⟩)), (1, .int .u32 a1), (2, .int .u32 a2), (10, .int .u32 x10_1), (12, .int .i64 x12_1), (40, .bool (decide (x12_1 < 32)))]) (w' := W) (by kernel_rfl) ?_
          rcases two (decide (x12_1 < 32)) with c8 | c8
          · replace h := of_true h c8
            refine RunF.know 40 (b := true) (by kernel_rfl) c8 ?_
            refine RunF.go 16 [0, 1, 2, 10, 12] (k' := (pl Go.Proofs.Try.f37 [1, 1, 1, 0, 1, 0, 0])) (L' := [(0, .pointer (some ⟨gp0, 0, none⟩)), (1, .int .u32 a1), (2, .int .u32 a2), (10, .int .u32 (U32 (x10_1 + 2654435769))), (12, .int .i64 (I64 (x12_1 + 1)))]) (w' := W) (by kernel_rfl) ?_
            exact ih1 k (by omega) (U32 (x10_1 + 2654435769)) (I64 (x12_1 + 1)) _ (hM.pick [] rfl rfl) h
          · replace h := of_false h c8
            refine RunF.know 40 (b := false) (by kernel_rfl) c8 ?_
            refine RunF.go 9 [0, 1, 2, 10, 13] (k' := (pl Go.Proofs.Try.f37 [1, 1, 1, 1, 0, 1, 0, 0])) (L' := [(0, .pointer (some ⟨gp0, 0, none⟩)), (1, .int .u32 a1), (2, .int .u32 a2), (10, .int .u32 x10_1), (13, .int .i64 0)]) (w' := W) (by kernel_rfl) ?_
            have l2 : ∀ (k_ : Nat), k_ ≤ k → ∀ (x1_2 : Int) (x2_2 : Int) (x10_2 : Int) (x13_2 : Int) (W : World) (hM : Mem w W []) (h : scrimref8_Small_xtea.l2 k_ a0 x1_2 x2_2 x10_2 x13_2 = some r), RunF Go.Proofs.Try.prog (Ret fun v w' => v = .tuple #[.int .u32 r.1, .int .u32 r.2] ∧ Mem w w' []) 37 (pl Go.Proofs.Try.f37 [1, 1, 1, 1, 0, 1, 0, 0]) 68 [(0, .pointer (some ⟨gp0, 0, none⟩)), (1, .int .u32 x1_2), (2, .int .u32 x2_2), (10, .int .u32 x10_2), (13, .int .i64 x13_2)] W := by
              intro k_
              induction k_ using Nat.strongRecOn with
              | _ k_ ih2 =>
                intro hk x1_2 x2_2 x10_2 x13_2 W hM h
                cases k_ with
                | zero => exact absurd h (by simp [scrimref8_Small_xtea.l2])
                | succ k =>
                  simp only [scrimref8_Small_xtea.l2] at h
                  replace ih2 : ∀ m, m ≤ k → _ := fun m hm => ih2 m (by omega) (by omega)
                  replace ih1 : ∀ m, m ≤ k → _ := fun m hm => ih1 m (by omega)
                  refine RunF.go 6 [0, 1, 2, 10, 13, 46] (k' := (pl Go.Proofs.Try.f37 [1, 1, 1, 1, 0, 1, 0, 0, 0, 1])) (L' := [(0, .pointer (some ⟨gp0, 0, none⟩)), (1, .int .u32 x1_2), (2, .int .u32 x2_2), (10, .int .u32 x10_2), (13, .int .i64 x13_2), (46, .bool (decide (x13_2 < 32)))]) (w' := W) (by kernel_rfl) ?_
                  rcases two (decide (x13_2 < 32)) with c9 | c9
                  · replace h := of_true h c9
                    refine RunF.know 46 (b := true) (by kernel_rfl) c9 ?_
                    refine RunF.go 12 [0, 1, 10, 13, 49, 50, 51, 52, 54] (k' := (pin Go.Proofs.Try.f37 [1, 1, 1, 1, 0, 1, 0, 0, 1, 0, 0, 0] 6)) (L' := [(0, .pointer (some ⟨gp0, 0, none⟩)), (1, .int .u32 x1_2), (10, .int .u32 x10_2), (13, .int .i64 x13_2), (49, .int .u32 x2_2), (50, .pointer (some ⟨gp0, 0, none⟩)), (51, .int .u32 x1_2), (52, .int .u32 x10_2), (54, .int .u32 (shr x10_2 11))]) (w' := W) (by kernel_rfl) ?_
                    obtain ⟨t11, ht11, h⟩ := Option.bind_eq_some_iff.mp h
                    refine RunF.call (d := some 55) (g := 55) (args := #[.pointer (some ⟨gp0, 0, none⟩), .int .u32 x1_2, .int .u32 x10_2, .int .u32 (shr x10_2 11)]) (k2 := (pin Go.Proofs.Try.f37 [1, 1, 1, 1, 0, 1, 0, 0, 1, 0, 0, 0] 7)) (by kernel_rfl) (scrimref8_Small_lays.calls k (.pointer (some ⟨gp0, 0, none⟩)) Zp0 a0 x1_2 x10_2 (shr x10_2 11) t11 _ hp0 (fun _ hb_ => (hZp0 _ (hM.kept.trans hb_))) ht11) ?_
                    rintro _ W10 ⟨rfl, hM_⟩
                    replace hM := hM.call hM_
                    clear hM_ ht11
                    refine RunF.go 15 [0, 2, 10, 13, 59, 60, 61, 62, 63] (k' := (pin Go.Proofs.Try.f37 [1, 1, 1, 1, 0, 1, 0, 0, 1, 0, 0, 1, 1] 5)) (L' := [(0, .pointer (some ⟨gp0, 0, none⟩)), (2, .int .u32 (U32 (x2_2 - t11))), (10, .int .u32 (U32 (x10_2 - 2654435769))), (13, .int .i64 x13_2), (59, .int .u32 x1_2), (60, .pointer (some ⟨gp0, 0, none⟩)), (61, .int .u32 (U32 (x2_2 - t11))), (62, .int .u32 (U32 (x10_2 - 2654435769))), (63, .int .u32 (U32 (x10_2 - 2654435769)))]) (w' := W10) (by kernel_rfl) ?_
                    obtain ⟨t13, ht13, h⟩ := Option.bind_eq_some_iff.mp h
                    refine RunF.call (d := some 64) (g := 55) (args := #[.pointer (some ⟨gp0, 0, none⟩), .int .u32 (U32 (x2_2 - t11)), .int .u32 (U32 (x10_2 - 2654435769)), .int .u32 (U32 (x10_2 - 2654435769))]) (k2 := (pin Go.Proofs.Try.f37 [1, 1, 1, 1, 0, 1, 0, 0, 1, 0, 0, 1, 1] 6)) (by kernel_rfl) (scrimref8_Small_lays.calls k (.pointer (some ⟨gp0, 0, none⟩)) Zp0 a0 (U32 (x2_2 - t11)) (U32 (x10_2 - 2654435769)) (U32 (x10_2 - 2654435769)) t13 _ hp0 (fun _ hb_ => (hZp0 _ (hM.kept.trans hb_))) ht13) ?_
                    rintro _ W12 ⟨rfl, hM_⟩
                    replace hM := hM.call hM_
                    clear hM_ ht13
                    refine RunF.go 10 [0, 1, 2, 10, 13] (k' := (pl Go.Proofs.Try.f37 [1, 1, 1, 1, 0, 1, 0, 0])) (L' := [(0, .pointer (some ⟨gp0, 0, none⟩)), (1, .int .u32 (U32 (x1_2 - t13))), (2, .int .u32 (U32 (x2_2 - t11))), (10, .int .u32 (U32 (x10_2 - 2654435769))), (13, .int .i64 (I64 (x13_2 + 1)))]) (w' := W12) (by kernel_rfl) ?_
                    exact ih2 k (by omega) (U32 (x1_2 - t13)) (U32 (x2_2 - t11)) (U32 (x10_2 - 2654435769)) (I64 (x13_2 + 1)) _ (hM.pick [] rfl rfl) h
                  · replace h := of_false h c9
                    refine RunF.know 46 (b := false) (by kernel_rfl) c9 ?_
                    refine RunF.go 9 [8, 9] (k' := (pl Go.Proofs.Try.f37 [1, 1, 1, 1, 1, 1])) (L' := [(8, .int .u32 x1_2), (9, .int .u32 x2_2)]) (w' := W) (by kernel_rfl) ?_
                    obtain rfl := Option.some.inj h
                    exact RunF.ret2 8 9 (.int .u32 x1_2) (.int .u32 x2_2) (fn := Go.Proofs.Try.f37) Go.Proofs.Try.func37 (by kernel_rfl) (by kernel_rfl) (by kernel_rfl) (by kernel_rfl) ⟨_, rfl, rfl, (hM.pick [] rfl rfl)⟩
            exact l2 k (Nat.le_refl _) a1 a2 x10_1 0 _ (hM.pick [] rfl rfl) h
    exact l1 k (Nat.le_refl _) 0 0 _ (hM.pick [] rfl rfl) h

/-! ### scrim/scrimref6.digit: function 57 -/
def scrimref6_digit.f (k : Nat) (a0 : Int) : Option (Int) := if (decide (a0 ≥ 65)) = true then (some (I64 ((I64 (U8 (a0 - 65))) + 10))) else (some (I64 (U8 (a0 - 48))))
set_option maxRecDepth 100000 in
theorem scrimref6_digit.calls (k : Nat) (a0 : Int) (r : Int) (w : World) (h : scrimref6_digit.f k a0 = some r) :
    Calls Go.Proofs.Try.prog 57 #[.int .u8 a0] w (Ret fun v w' => v = .int .i64 r ∧ Mem w w' []) := by
  unfold scrimref6_digit.f at h
  refine calls_of [.int .u8 a0] (fn := Go.Proofs.Try.f57) Go.Proofs.Try.func57 (by kernel_rfl) (by kernel_rfl) ?_
  have hM := Mem.refl w
  refine RunF.go 10 [0, 4] (k' := (pl Go.Proofs.Try.f57 [1, 0, 1])) (L' := [(0, .int .u8 a0), (4, .bool (decide (a0 ≥ 65)))]) (w' := w) (by kernel_rfl) ?_
  rcases two (decide (a0 ≥ 65)) with c1 | c1
  · replace h := of_true h c1
    refine RunF.know 4 (b := true) (by kernel_rfl) c1 ?_
    refine RunF.go 9 [2] (k' := (pl Go.Proofs.Try.f57 [1, 0, 1, 0, 1])) (L' := [(2, .int .i64 (I64 ((I64 (U8 (a0 - 65))) + 10)))]) (w' := w) (by kernel_rfl) ?_
    obtain rfl := Option.some.inj h
    exact RunF.ret1 2 (.int .i64 (I64 ((I64 (U8 (a0 - 65))) + 10))) (fn := Go.Proofs.Try.f57) Go.Proofs.Try.func57 (by kernel_rfl) (by kernel_rfl) (by kernel_rfl) ⟨_, rfl, rfl, (hM.pick [] rfl rfl)⟩
  · replace h := of_false h c1
    refine RunF.know 4 (b := false) (by kernel_rfl) c1 ?_
    refine RunF.go 9 [2] (k' := (pl Go.Proofs.Try.f57 [1, 1, 1])) (L' := [(2, .int .i64 (I64 (U8 (a0 - 48))))]) (w' := w) (by kernel_rfl) ?_
    obtain rfl := Option.some.inj h
    exact RunF.ret1 2 (.int .i64 (I64 (U8 (a0 - 48)))) (fn := Go.Proofs.Try.f57) Go.Proofs.Try.func57 (by kernel_rfl) (by kernel_rfl) (by kernel_rfl) ⟨_, rfl, rfl, (hM.pick [] rfl rfl)⟩

/-! ### scrim/scrimref6.At: function 42 -/
def scrimref6_At.f (k : Nat) (a0 : ByteArray) (a1 : Int) : Option (Int) := if (decide (0 ≤ a1)) = true then (if (decide (a1 < (a0.size : Int))) = true then ((scrimref6_digit.f k (sb a0 a1)).bind fun t4 => (some t4)) else (none)) else (none)
set_option maxRecDepth 100000 in
theorem scrimref6_At.calls (k : Nat) (a0 : ByteArray) (a1 : Int) (r : Int) (w : World) (h : scrimref6_At.f k a0 a1 = some r) :
    Calls Go.Proofs.Try.prog 42 #[.string a0, .int .i64 a1] w (Ret fun v w' => v = .int .i64 r ∧ Mem w w' []) := by
  unfold scrimref6_At.f at h
  refine calls_of [.string a0, .int .i64 a1] (fn := Go.Proofs.Try.f42) Go.Proofs.Try.func42 (by kernel_rfl) (by kernel_rfl) ?_
  have hM := Mem.refl w
  refine RunF.go 8 [5, 6] (k' := (pin Go.Proofs.Try.f42 [1, 0] 2)) (L' := [(5, .string a0), (6, .int .i64 a1)]) (w' := w) (by kernel_rfl) ?_
  rcases two (decide (0 ≤ a1)) with c1 | c1
  · replace h := of_true h c1
    rcases two (decide (a1 < (a0.size : Int))) with c2 | c2
    · replace h := of_true h c2
      refine RunF.y (idxStr_y (d := some 7) (s := a0) (i := a1) (k2 := (pin Go.Proofs.Try.f42 [1, 0] 3)) (by kernel_rfl) (of_decide_eq_true c1) (of_decide_eq_true c2)) trivial ?_
      obtain ⟨t4, ht4, h⟩ := Option.bind_eq_some_iff.mp h
      refine RunF.call (d := some 8) (g := 57) (args := #[.int .u8 (sb a0 a1)]) (k2 := (pin Go.Proofs.Try.f42 [1, 0] 4)) (by kernel_rfl) (scrimref6_digit.calls k (sb a0 a1) t4 _ ht4) ?_
      rintro _ W3 ⟨rfl, hM_⟩
      replace hM := hM.call hM_
      clear hM_ ht4
      refine RunF.go 2 [4] (k' := (pl Go.Proofs.Try.f42 [1, 1])) (L' := [(4, .int .i64 t4)]) (w' := W3) (by kernel_rfl) ?_
      obtain rfl := Option.some.inj h
      exact RunF.ret1 4 (.int .i64 t4) (fn := Go.Proofs.Try.f42) Go.Proofs.Try.func42 (by kernel_rfl) (by kernel_rfl) (by kernel_rfl) ⟨_, rfl, rfl, (hM.pick [] rfl rfl)⟩
    · replace h := of_false h c2
      cases h
  · replace h := of_false h c1
    cases h

/-! ### scrim/scrimref8.row: function 43 -/
def scrimref8_row.f (k : Nat) (a0 : Int) : Option (ByteArray) := if (decide (0 ≤ a0)) = true then (if (decide (a0 < (8 : Int))) = true then (some (rds ([(⟨#[67, 52, 54, 50, 65, 53, 66, 57, 69, 56, 68, 55, 48, 51, 70, 49]⟩ : ByteArray), (⟨#[54, 56, 50, 51, 57, 65, 53, 67, 49, 69, 52, 55, 66, 68, 48, 70]⟩ : ByteArray), (⟨#[66, 51, 53, 56, 50, 70, 65, 68, 69, 49, 55, 52, 67, 57, 54, 48]⟩ : ByteArray), (⟨#[67, 56, 50, 49, 68, 52, 70, 54, 55, 48, 65, 53, 51, 69, 57, 66]⟩ : ByteArray), (⟨#[55, 70, 53, 65, 56, 49, 54, 68, 48, 57, 51, 69, 66, 52, 50, 67]⟩ : ByteArray), (⟨#[53, 68, 70, 54, 57, 50, 67, 65, 66, 55, 56, 49, 52, 51, 69, 48]⟩ : ByteArray), (⟨#[56, 69, 50, 53, 54, 57, 49, 67, 70, 52, 66, 48, 68, 65, 51, 55]⟩ : ByteArray), (⟨#[49, 55, 69, 68, 48, 53, 56, 51, 52, 70, 65, 54, 57, 67, 66, 50]⟩ : ByteArray)] : List ByteArray) a0)) else (none)) else (none)
set_option maxRecDepth 100000 in
theorem scrimref8_row.calls (k : Nat) (a0 : Int) (r : ByteArray) (w : World) (h : scrimref8_row.f k a0 = some r) :
    Calls Go.Proofs.Try.prog 43 #[.int .i64 a0] w (Ret fun v w' => v = .string r ∧ Mem w w' []) := by
  unfold scrimref8_row.f at h
  refine calls_of [.int .i64 a0] (fn := Go.Proofs.Try.f43) Go.Proofs.Try.func43 (by kernel_rfl) (by kernel_rfl) ?_
  have hM := Mem.refl w
  refine RunF.go 6 [0] (k' := (pin Go.Proofs.Try.f43 [1, 0] 0)) (L' := [(0, .int .i64 a0)]) (w' := w) (by kernel_rfl) ?_
  refine RunF.new 9 1 8 (strs [(⟨#[67, 52, 54, 50, 65, 53, 66, 57, 69, 56, 68, 55, 48, 51, 70, 49]⟩ : ByteArray), (⟨#[54, 56, 50, 51, 57, 65, 53, 67, 49, 69, 52, 55, 66, 68, 48, 70]⟩ : ByteArray), (⟨#[66, 51, 53, 56, 50, 70, 65, 68, 69, 49, 55, 52, 67, 57, 54, 48]⟩ : ByteArray), (⟨#[67, 56, 50, 49, 68, 52, 70, 54, 55, 48, 65, 53, 51, 69, 57, 66]⟩ : ByteArray), (⟨#[55, 70, 53, 65, 56, 49, 54, 68, 48, 57, 51, 69, 66, 52, 50, 67]⟩ : ByteArray), (⟨#[53, 68, 70, 54, 57, 50, 67, 65, 66, 55, 56, 49, 52, 51, 69, 48]⟩ : ByteArray), (⟨#[56, 69, 50, 53, 54, 57, 49, 67, 70, 52, 66, 48, 68, 65, 51, 55]⟩ : ByteArray), (⟨#[49, 55, 69, 68, 48, 53, 56, 51, 52, 70, 65, 54, 57, 67, 66, 50]⟩ : ByteArray)]) (d := some 3) (k2 := (pin Go.Proofs.Try.f43 [1, 0] 1)) hM (by simp [nums, bools, strs]) (by kernel_rfl) (by kernel_rfl) ?_
  replace hM := hM
  intro g1 W2 hM
  refine RunF.go 1 [3, 4] (k' := (pin Go.Proofs.Try.f43 [1, 0] 2)) (L' := [(3, .slice (some ⟨g1, 0, none⟩) 8 8), (4, .int .i64 a0)]) (w' := W2) (by kernel_rfl) ?_
  rcases two (decide (0 ≤ a0)) with c5 | c5
  · replace h := of_true h c5
    rcases two (decide (a0 < (8 : Int))) with c6 | c6
    · replace h := of_true h c6
      obtain ⟨q4, hAq4, hcq4, hfq4, hlq4⟩ := hM.str_at 0 rfl (i := a0) (of_decide_eq_true c5) (by have h_ := of_decide_eq_true c6; omega)
      refine RunF.y (idx_own (d := some 5) (A := (some ⟨g1, 0, none⟩)) (m := 8) (i := a0) (k2 := (pin Go.Proofs.Try.f43 [1, 0] 3)) (by kernel_rfl) (of_decide_eq_true c5) (by have h_ := of_decide_eq_true c6; omega) hAq4) trivial ?_
      refine RunF.y (ld_y (d := some 6) (p := ⟨q4, (a0 : Int).toNat, none⟩) (k2 := (pin Go.Proofs.Try.f43 [1, 0] 4)) (.string (rds ([(⟨#[67, 52, 54, 50, 65, 53, 66, 57, 69, 56, 68, 55, 48, 51, 70, 49]⟩ : ByteArray), (⟨#[54, 56, 50, 51, 57, 65, 53, 67, 49, 69, 52, 55, 66, 68, 48, 70]⟩ : ByteArray), (⟨#[66, 51, 53, 56, 50, 70, 65, 68, 69, 49, 55, 52, 67, 57, 54, 48]⟩ : ByteArray), (⟨#[67, 56, 50, 49, 68, 52, 70, 54, 55, 48, 65, 53, 51, 69, 57, 66]⟩ : ByteArray), (⟨#[55, 70, 53, 65, 56, 49, 54, 68, 48, 57, 51, 69, 66, 52, 50, 67]⟩ : ByteArray), (⟨#[53, 68, 70, 54, 57, 50, 67, 65, 66, 55, 56, 49, 52, 51, 69, 48]⟩ : ByteArray), (⟨#[56, 69, 50, 53, 54, 57, 49, 67, 70, 52, 66, 48, 68, 65, 51, 55]⟩ : ByteArray), (⟨#[49, 55, 69, 68, 48, 53, 56, 51, 52, 70, 65, 54, 57, 67, 66, 50]⟩ : ByteArray)] : List ByteArray) a0)) (by kernel_rfl)) hcq4 ?_
      refine RunF.go 2 [2] (k' := (pl Go.Proofs.Try.f43 [1, 1])) (L' := [(2, .string (rds ([(⟨#[67, 52, 54, 50, 65, 53, 66, 57, 69, 56, 68, 55, 48, 51, 70, 49]⟩ : ByteArray), (⟨#[54, 56, 50, 51, 57, 65, 53, 67, 49, 69, 52, 55, 66, 68, 48, 70]⟩ : ByteArray), (⟨#[66, 51, 53, 56, 50, 70, 65, 68, 69, 49, 55, 52, 67, 57, 54, 48]⟩ : ByteArray), (⟨#[67, 56, 50, 49, 68, 52, 70, 54, 55, 48, 65, 53, 51, 69, 57, 66]⟩ : ByteArray), (⟨#[55, 70, 53, 65, 56, 49, 54, 68, 48, 57, 51, 69, 66, 52, 50, 67]⟩ : ByteArray), (⟨#[53, 68, 70, 54, 57, 50, 67, 65, 66, 55, 56, 49, 52, 51, 69, 48]⟩ : ByteArray), (⟨#[56, 69, 50, 53, 54, 57, 49, 67, 70, 52, 66, 48, 68, 65, 51, 55]⟩ : ByteArray), (⟨#[49, 55, 69, 68, 48, 53, 56, 51, 52, 70, 65, 54, 57, 67, 66, 50]⟩ : ByteArray)] : List ByteArray) a0))]) (w' := W2) (by kernel_rfl) ?_
      obtain rfl := Option.some.inj h
      exact RunF.ret1 2 (.string (rds ([(⟨#[67, 52, 54, 50, 65, 53, 66, 57, 69, 56, 68, 55, 48, 51, 70, 49]⟩ : ByteArray), (⟨#[54, 56, 50, 51, 57, 65, 53, 67, 49, 69, 52, 55, 66, 68, 48, 70]⟩ : ByteArray), (⟨#[66, 51, 53, 56, 50, 70, 65, 68, 69, 49, 55, 52, 67, 57, 54, 48]⟩ : ByteArray), (⟨#[67, 56, 50, 49, 68, 52, 70, 54, 55, 48, 65, 53, 51, 69, 57, 66]⟩ : ByteArray), (⟨#[55, 70, 53, 65, 56, 49, 54, 68, 48, 57, 51, 69, 66, 52, 50, 67]⟩ : ByteArray), (⟨#[53, 68, 70, 54, 57, 50, 67, 65, 66, 55, 56, 49, 52, 51, 69, 48]⟩ : ByteArray), (⟨#[56, 69, 50, 53, 54, 57, 49, 67, 70, 52, 66, 48, 68, 65, 51, 55]⟩ : ByteArray), (⟨#[49, 55, 69, 68, 48, 53, 56, 51, 52, 70, 65, 54, 57, 67, 66, 50]⟩ : ByteArray)] : List ByteArray) a0)) (fn := Go.Proofs.Try.f43) Go.Proofs.Try.func43 (by kernel_rfl) (by kernel_rfl) (by kernel_rfl) ⟨_, rfl, rfl, (hM.pick [] rfl rfl)⟩
    · replace h := of_false h c6
      cases h
  · replace h := of_false h c5
    cases h

/-! ### scrim/scrimref8.G: function 22 -/
def scrimref8_G.l0 : Nat → Int → Int → Int → Int → Option (Int)
  | 0, _, _, _, _ => none
  | k + 1, a0, a1, x5_0, x6_0 => if (decide (x6_0 < 8)) = true then ((scrimref8_row.f k x6_0).bind fun t3 => (if (decide (0 ≤ (U64 (I64 (4 * x6_0))))) = true then ((some (I64 (band .u32 (shrv .u32 (U32 (a0 + a1)) (U64 (I64 (4 * x6_0)))) 15) : Int)).bind fun y5 => ((scrimref6_At.f k t3 y5).bind fun t7 => (if (decide (0 ≤ (U64 (I64 (4 * x6_0))))) = true then ((some (bor .u32 x5_0 (shlv .u32 (U32 (t7)) (U64 (I64 (4 * x6_0)))) : Int)).bind fun y9 => (scrimref8_G.l0 k a0 a1 y9 (I64 (x6_0 + 1)))) else (none)))) else (none))) else ((scrimref1_Rol32.f k x5_0 11).bind fun t11 => (some t11))
def scrimref8_G.f (k : Nat) (a0 : Int) (a1 : Int) : Option (Int) := scrimref8_G.l0 k a0 a1 0 0
set_option maxRecDepth 100000 in
theorem scrimref8_G.calls (k : Nat) (a0 : Int) (a1 : Int) (r : Int) (w : World) (h : scrimref8_G.f k a0 a1 = some r) :
    Calls Go.Proofs.Try.prog 22 #[.int .u32 a0, .int .u32 a1] w (Ret fun v w' => v = .int .u32 r ∧ Mem w w' []) := by
  unfold scrimref8_G.f at h
  refine calls_of [.int .u32 a0, .int .u32 a1] (fn := Go.Proofs.Try.f22) Go.Proofs.Try.func22 (by kernel_rfl) (by kernel_rfl) ?_
  have hM := Mem.refl w
  refine RunF.go 22 [0, 5, 6] (k' := (pl Go.Proofs.Try.f22 [1, 1, 1, 0, 1, 0, 0])) (L' := [(0, .int .u32 (U32 (a0 + a1))), (5, .int .u32 0), (6, .int .i64 0)]) (w' := w) (by kernel_rfl) ?_
  have l0 : ∀ (k_ : Nat), k_ ≤ k → ∀ (x5_0 : Int) (x6_0 : Int) (W : World) (hM : Mem w W []) (h : scrimref8_G.l0 k_ a0 a1 x5_0 x6_0 = some r), RunF Go.Proofs.Try.prog (Ret fun v w' => v = .int .u32 r ∧ Mem w w' []) 22 (pl Go.Proofs.Try.f22 [1, 1, 1, 0, 1, 0, 0]) 33 [(0, .int .u32 (U32 (a0 + a1))), (5, .int .u32 x5_0), (6, .int .i64 x6_0)] W := by
    intro k_
    induction k_ using Nat.strongRecOn with
    | _ k_ ih0 =>
      intro hk x5_0 x6_0 W hM h
      cases k_ with
      | zero => exact absurd h (by simp [scrimref8_G.l0])
      | succ k =>
        simp only [scrimref8_G.l0] at h
        replace ih0 : ∀ m, m ≤ k → _ := fun m hm => ih0 m (by omega) (by omega)
        refine RunF.go 6 [0, 5, 6, 11] (k' := (pl Go.Proofs.Try.f22 [1, 1, 1, 0, 1, 0, 0, 0, 1])) (L' := [(0, .int .u32 (U32 (a0 + a1))), (5, .int .u32 x5_0), (6, .int .i64 x6_0), (11, .bool (decide (x6_0 < 8)))]) (w' := W) (by kernel_rfl) ?_
        rcases two (decide (x6_0 < 8)) with c1 | c1
        · replace h := of_true h c1
          refine RunF.know 11 (b := true) (by kernel_rfl) c1 ?_
          refine RunF.go 7 [0, 6, 14, 15] (k' := (pin Go.Proofs.Try.f22 [1, 1, 1, 0, 1, 0, 0, 1, 0, 0] 2)) (L' := [(0, .int .u32 (U32 (a0 + a1))), (6, .int .i64 x6_0), (14, .int .u32 x5_0), (15, .int .i64 x6_0)]) (w' := W) (by kernel_rfl) ?_
          obtain ⟨t3, ht3, h⟩ := Option.bind_eq_some_iff.mp h
          refine RunF.call (d := some 16) (g := 43) (args := #[.int .i64 x6_0]) (k2 := (pin Go.Proofs.Try.f22 [1, 1, 1, 0, 1, 0, 0, 1, 0, 0] 3)) (by kernel_rfl) (scrimref8_row.calls k x6_0 t3 _ ht3) ?_
          rintro _ W2 ⟨rfl, hM_⟩
          replace hM := hM.call hM_
          clear hM_ ht3
          refine RunF.go 4 [0, 6, 14, 16, 17, 20] (k' := (pin Go.Proofs.Try.f22 [1, 1, 1, 0, 1, 0, 0, 1, 0, 0] 7)) (L' := [(0, .int .u32 (U32 (a0 + a1))), (6, .int .i64 x6_0), (14, .int .u32 x5_0), (16, .string t3), (17, .int .u32 (U32 (a0 + a1))), (20, .int .u64 (U64 (I64 (4 * x6_0))))]) (w' := W2) (by kernel_rfl) ?_
          rcases two (decide (0 ≤ (U64 (I64 (4 * x6_0))))) with c4 | c4
          · replace h := of_true h c4
            refine RunF.y (sh_y (d := some 21) (b := false) (kd := .u32) (x := U32 (a0 + a1)) (y := U64 (I64 (4 * x6_0))) (k2 := (pin Go.Proofs.Try.f22 [1, 1, 1, 0, 1, 0, 0, 1, 0, 0] 8)) (by kernel_rfl) c4) trivial ?_
            refine RunF.go 2 [0, 6, 14, 16, 23] (k' := (pin Go.Proofs.Try.f22 [1, 1, 1, 0, 1, 0, 0, 1, 0, 0] 10)) (L' := [(0, .int .u32 (U32 (a0 + a1))), (6, .int .i64 x6_0), (14, .int .u32 x5_0), (16, .string t3), (23, .int .i64 (I64 (band .u32 (shrv .u32 (U32 (a0 + a1)) (U64 (I64 (4 * x6_0)))) 15)))]) (w' := W2) (by kernel_rfl) ?_
            obtain ⟨y5, hy, h⟩ := Option.bind_eq_some_iff.mp h
            rw [show (I64 (band .u32 (shrv .u32 (U32 (a0 + a1)) (U64 (I64 (4 * x6_0)))) 15)) = y5 from Option.some.inj hy]
            clear hy
            obtain ⟨t7, ht7, h⟩ := Option.bind_eq_some_iff.mp h
            refine RunF.call (d := some 24) (g := 42) (args := #[.string t3, .int .i64 y5]) (k2 := (pin Go.Proofs.Try.f22 [1, 1, 1, 0, 1, 0, 0, 1, 0, 0] 11)) (by kernel_rfl) (scrimref6_At.calls k t3 y5 t7 _ ht7) ?_
            rintro _ W6 ⟨rfl, hM_⟩
            replace hM := hM.call hM_
            clear hM_ ht7
            refine RunF.go 4 [0, 6, 14, 25, 28] (k' := (pin Go.Proofs.Try.f22 [1, 1, 1, 0, 1, 0, 0, 1, 0, 0] 15)) (L' := [(0, .int .u32 (U32 (a0 + a1))), (6, .int .i64 x6_0), (14, .int .u32 x5_0), (25, .int .u32 (U32 (t7))), (28, .int .u64 (U64 (I64 (4 * x6_0))))]) (w' := W6) (by kernel_rfl) ?_
            rcases two (decide (0 ≤ (U64 (I64 (4 * x6_0))))) with c8 | c8
            · replace h := of_true h c8
              refine RunF.y (sh_y (d := some 29) (b := true) (kd := .u32) (x := U32 (t7)) (y := U64 (I64 (4 * x6_0))) (k2 := (pin Go.Proofs.Try.f22 [1, 1, 1, 0, 1, 0, 0, 1, 0, 0] 16)) (by kernel_rfl) c8) trivial ?_
              refine RunF.go 10 [0, 5, 6] (k' := (pl Go.Proofs.Try.f22 [1, 1, 1, 0, 1, 0, 0])) (L' := [(0, .int .u32 (U32 (a0 + a1))), (5, .int .u32 (bor .u32 x5_0 (shlv .u32 (U32 (t7)) (U64 (I64 (4 * x6_0)))))), (6, .int .i64 (I64 (x6_0 + 1)))]) (w' := W6) (by kernel_rfl) ?_
              obtain ⟨y9, hy, h⟩ := Option.bind_eq_some_iff.mp h
              rw [show (bor .u32 x5_0 (shlv .u32 (U32 (t7)) (U64 (I64 (4 * x6_0))))) = y9 from Option.some.inj hy]
              clear hy
              exact ih0 k (by omega) y9 (I64 (x6_0 + 1)) _ (hM.pick [] rfl rfl) h
            · replace h := of_false h c8
              cases h
          · replace h := of_false h c4
            cases h
        · replace h := of_false h c1
          refine RunF.know 11 (b := false) (by kernel_rfl) c1 ?_
          refine RunF.go 5 [31] (k' := (pin Go.Proofs.Try.f22 [1, 1, 1, 1, 0] 1)) (L' := [(31, .int .u32 x5_0)]) (w' := W) (by kernel_rfl) ?_
          obtain ⟨t11, ht11, h⟩ := Option.bind_eq_some_iff.mp h
          refine RunF.call (d := some 32) (g := 25) (args := #[.int .u32 x5_0, .int .i64 11]) (k2 := (pin Go.Proofs.Try.f22 [1, 1, 1, 1, 0] 2)) (by kernel_rfl) (scrimref1_Rol32.calls k x5_0 11 t11 _ ht11) ?_
          rintro _ W10 ⟨rfl, hM_⟩
          replace hM := hM.call hM_
          clear hM_ ht11
          refine RunF.go 2 [4] (k' := (pl Go.Proofs.Try.f22 [1, 1, 1, 1, 1])) (L' := [(4, .int .u32 t11)]) (w' := W10) (by kernel_rfl) ?_
          obtain rfl := Option.some.inj h
          exact RunF.ret1 4 (.int .u32 t11) (fn := Go.Proofs.Try.f22) Go.Proofs.Try.func22 (by kernel_rfl) (by kernel_rfl) (by kernel_rfl) ⟨_, rfl, rfl, (hM.pick [] rfl rfl)⟩
  exact l0 k (Nat.le_refl _) 0 0 _ (hM.pick [] rfl rfl) h


end Go.Scr.S
