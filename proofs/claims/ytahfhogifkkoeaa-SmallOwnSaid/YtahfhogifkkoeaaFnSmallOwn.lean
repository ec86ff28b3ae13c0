/- The functions that the law SmallOwn reaches, as plain functions, and that each call answers so. -/
import Derived.Test.YtahfhogifkkoeaaProg
import Derived.Test.YtahfhogifkkoeaaFnSmallOwn0
set_option linter.unusedVariables false
set_option linter.unusedSimpArgs false
set_option linter.unnecessarySimpa false
namespace Go.Scr.S
open Go.RowKit (Below)
/-! ### slices.Concat[[]byte,byte]: function 51 -/
mutual
def slices_Concat_byte_byte.l0 : Nat → (List (List Int)) → Int → Int → Option (List Int)
  | 0, _, _, _ => none
  | k + 1, a0, x3_0, x11_0 => if (decide (x11_0 < (a0.length : Int))) = true then (if (decide (0 ≤ x11_0)) = true then (if (decide (x11_0 < (a0.length : Int))) = true then ((some (I64 (x3_0 + ((rdr ([] : List Int) a0 x11_0).length : Int)) : Int)).bind fun y5 => (if (decide (y5 < 0)) = true then (none) else (slices_Concat_byte_byte.l0 k a0 y5 (I64 (x11_0 + 1))))) else (none)) else (none)) else ((slices_Grow_byte_byte.f k x3_0).bind fun t8 => (slices_Concat_byte_byte.l1 k a0 t8 0))
def slices_Concat_byte_byte.l1 : Nat → (List (List Int)) → (List Int) → Int → Option (List Int)
  | 0, _, _, _ => none
  | k + 1, a0, x6_1, x27_1 => if (decide (x27_1 < (a0.length : Int))) = true then (if (decide (0 ≤ x27_1)) = true then (if (decide (x27_1 < (a0.length : Int))) = true then (if (decide (x6_1.length + (rdr ([] : List Int) a0 x27_1).length ≤ 1000000000)) = true then (slices_Concat_byte_byte.l1 k a0 (x6_1 ++ (rdr ([] : List Int) a0 x27_1)) (I64 (x27_1 + 1))) else (none)) else (none)) else (none)) else (some x6_1)
end
def slices_Concat_byte_byte.f (k : Nat) (a0 : List (List Int)) : Option (List Int) := slices_Concat_byte_byte.l0 k a0 0 0
set_option maxRecDepth 100000 in
theorem slices_Concat_byte_byte.calls (k : Nat) (vp0 : Value) (Zp0 : Zp) (a0 : List (List Int)) (r : List Int) (w : World) (hp0 : (rRows (rNums .u8)) Zp0 vp0 a0) (hZp0 : ∀ W, Kept w W → Zp0 W) (h : slices_Concat_byte_byte.f k a0 = some r) :
    Calls Go.Proofs.Try.prog 51 #[vp0] w (Ret fun v w' => ∃ A0' n0' c0', v = .slice A0' n0' c0' ∧ Mem w w' [⟨.slice A0' n0' c0', 5, 1, nums .u8 r⟩]) := by
  obtain ⟨Ap0, cp0, cs0, rfl, hr0, hq0⟩ := hp0
  unfold slices_Concat_byte_byte.f at h
  refine calls_of [.slice Ap0 a0.length cp0] (fn := Go.Proofs.Try.f51) Go.Proofs.Try.func51 (by kernel_rfl) (by kernel_rfl) ?_
  have hM := Mem.refl w
  refine RunF.go 17 [0, 3, 9, 10, 11] (k' := (pl Go.Proofs.Try.f51 [1, 1, 0, 1, 0, 0])) (L' := [(0, .slice Ap0 a0.length cp0), (3, .int .i64 0), (9, .slice Ap0 a0.length cp0), (10, .int .i64 (a0.length : Int)), (11, .int .i64 0)]) (w' := w) (by kernel_rfl) ?_
  have l0 : ∀ (k_ : Nat), k_ ≤ k → ∀ (x3_0 : Int) (x11_0 : Int) (W : World) (hM : Mem w W []) (h : slices_Concat_byte_byte.l0 k_ a0 x3_0 x11_0 = some r), RunF Go.Proofs.Try.prog (Ret fun v w' => ∃ A0' n0' c0', v = .slice A0' n0' c0' ∧ Mem w w' [⟨.slice A0' n0' c0', 5, 1, nums .u8 r⟩]) 51 (pl Go.Proofs.Try.f51 [1, 1, 0, 1, 0, 0]) 36 [(0, .slice Ap0 a0.length cp0), (3, .int .i64 x3_0), (9, .slice Ap0 a0.length cp0), (10, .int .i64 (a0.length : Int)), (11, .int .i64 x11_0)] W := by
    intro k_
    induction k_ using Nat.strongRecOn with
    | _ k_ ih0 =>
      intro hk x3_0 x11_0 W hM h
      cases k_ with
      | zero => exact absurd h (by simp [slices_Concat_byte_byte.l0])
      | succ k =>
        simp only [slices_Concat_byte_byte.l0] at h
        replace ih0 : ∀ m, m ≤ k → _ := fun m hm => ih0 m (by omega) (by omega)
        refine RunF.go 5 [0, 3, 9, 10, 11, 12] (k' := (pl Go.Proofs.Try.f51 [1, 1, 0, 1, 0, 0, 1, 0])) (L' := [(0, .slice Ap0 a0.length cp0), (3, .int .i64 x3_0), (9, .slice Ap0 a0.length cp0), (10, .int .i64 (a0.length : Int)), (11, .int .i64 x11_0), (12, .bool (decide (x11_0 < (a0.length : Int))))]) (w' := W) (by kernel_rfl) ?_
        rcases two (decide (x11_0 < (a0.length : Int))) with c1 | c1
        · replace h := of_true h c1
          refine RunF.know 12 (b := true) (by kernel_rfl) c1 ?_
          refine RunF.go 6 [0, 3, 9, 10, 11] (k' := (pin Go.Proofs.Try.f51 [1, 1, 0, 1, 0, 0, 1, 1, 0, 0, 0] 0)) (L' := [(0, .slice Ap0 a0.length cp0), (3, .int .i64 x3_0), (9, .slice Ap0 a0.length cp0), (10, .int .i64 (a0.length : Int)), (11, .int .i64 x11_0)]) (w' := W) (by kernel_rfl) ?_
          rcases two (decide (0 ≤ x11_0)) with c3 | c3
          · replace h := of_true h c3
            rcases two (decide (x11_0 < (a0.length : Int))) with c4 | c4
            · replace h := of_true h c4
              obtain ⟨uq2, huq2, hvq2⟩ := Each2.at hq0 ([] : List Int) (i := x11_0) (of_decide_eq_true c3) (by have h_ : x11_0 < (a0.length : Int) := (of_decide_eq_true c4); first | exact h_ | (simpa using h_))
              obtain ⟨Aq2, cq2, rfl, hq2⟩ := hvq2
              obtain ⟨q2, hAq2, hcq2⟩ := RdF.elem hr0 (hZp0 _ hM.kept) huq2
              refine RunF.y (idx_y (d := some 13) (A := Ap0) (m := a0.length) (i := x11_0) (k2 := (pin Go.Proofs.Try.f51 [1, 1, 0, 1, 0, 0, 1, 1, 0, 0, 0] 1)) (by kernel_rfl) (of_decide_eq_true c3) (of_decide_eq_true c4) hAq2) trivial ?_
              refine RunF.y (ld_y (d := some 14) (p := (q2.add (x11_0 : Int).toNat)) (k2 := (pin Go.Proofs.Try.f51 [1, 1, 0, 1, 0, 0, 1, 1, 0, 0, 0] 2)) (.slice Aq2 ((rdr ([] : List Int) a0 x11_0).length) cq2) (by kernel_rfl)) hcq2 ?_
              refine RunF.go 15 [0, 3, 9, 10, 11, 20] (k' := (pl Go.Proofs.Try.f51 [1, 1, 0, 1, 0, 0, 1, 1, 0, 0, 1, 1, 1])) (L' := [(0, .slice Ap0 a0.length cp0), (3, .int .i64 (I64 (x3_0 + ((rdr ([] : List Int) a0 x11_0).length : Int)))), (9, .slice Ap0 a0.length cp0), (10, .int .i64 (a0.length : Int)), (11, .int .i64 x11_0), (20, .bool (decide ((I64 (x3_0 + ((rdr ([] : List Int) a0 x11_0).length : Int))) < 0)))]) (w' := W) (by kernel_rfl) ?_
              obtain ⟨y5, hy, h⟩ := Option.bind_eq_some_iff.mp h
              rw [show (I64 (x3_0 + ((rdr ([] : List Int) a0 x11_0).length : Int))) = y5 from Option.some.inj hy]
              clear hy
              rcases two (decide (y5 < 0)) with c6 | c6
              · replace h := of_true h c6
                refine RunF.know 20 (b := true) (by kernel_rfl) c6 ?_
                refine RunF.go 2 [0, 3, 9, 10, 11] (k' := (pin Go.Proofs.Try.f51 [1, 1, 0, 1, 0, 0, 1, 1, 0, 0, 1, 1, 1, 0] 0)) (L' := [(0, .slice Ap0 a0.length cp0), (3, .int .i64 y5), (9, .slice Ap0 a0.length cp0), (10, .int .i64 (a0.length : Int)), (11, .int .i64 x11_0)]) (w' := W) (by kernel_rfl) ?_
                cases h
              · replace h := of_false h c6
                refine RunF.know 20 (b := false) (by kernel_rfl) c6 ?_
                refine RunF.go 8 [0, 3, 9, 10, 11] (k' := (pl Go.Proofs.Try.f51 [1, 1, 0, 1, 0, 0])) (L' := [(0, .slice Ap0 a0.length cp0), (3, .int .i64 y5), (9, .slice Ap0 a0.length cp0), (10, .int .i64 (a0.length : Int)), (11, .int .i64 (I64 (x11_0 + 1)))]) (w' := W) (by kernel_rfl) ?_
                exact ih0 k (by omega) y5 (I64 (x11_0 + 1)) _ (hM.pick [] rfl rfl) h
            · replace h := of_false h c4
              cases h
          · replace h := of_false h c3
            cases h
        · replace h := of_false h c1
          refine RunF.know 12 (b := false) (by kernel_rfl) c1 ?_
          refine RunF.go 5 [0, 23] (k' := (pin Go.Proofs.Try.f51 [1, 1, 1, 0] 1)) (L' := [(0, .slice Ap0 a0.length cp0), (23, .int .i64 x3_0)]) (w' := W) (by kernel_rfl) ?_
          obtain ⟨t8, ht8, h⟩ := Option.bind_eq_some_iff.mp h
          refine RunF.call (d := some 24) (g := 61) (args := #[.slice none 0 0, .int .i64 x3_0]) (k2 := (pin Go.Proofs.Try.f51 [1, 1, 1, 0] 2)) (by kernel_rfl) (slices_Grow_byte_byte.calls k x3_0 t8 _ ht8) ?_
          rintro _ W7 ⟨A9, n10, c11, rfl, hM_⟩
          obtain rfl : t8.length = n10 := by have h_ := (hM_.rd 0 rfl).1; simpa [nums_length, bools_length, strs_length] using h_
          replace hM := hM.call hM_
          clear hM_ ht8
          refine RunF.go 11 [6, 25, 26, 27] (k' := (pl Go.Proofs.Try.f51 [1, 1, 1, 1, 0, 1, 0, 0])) (L' := [(6, .slice A9 t8.length c11), (25, .slice Ap0 a0.length cp0), (26, .int .i64 (a0.length : Int)), (27, .int .i64 0)]) (w' := W7) (by kernel_rfl) ?_
          have l1 : ∀ (k_ : Nat), k_ ≤ k → ∀ (A6_1 : Option Addr) (c6_1 : Nat) (x6_1 : List Int) (x27_1 : Int) (W : World) (hM : Mem w W [⟨.slice A6_1 x6_1.length c6_1, 5, 1, nums .u8 x6_1⟩]) (h : slices_Concat_byte_byte.l1 k_ a0 x6_1 x27_1 = some r), RunF Go.Proofs.Try.prog (Ret fun v w' => ∃ A0' n0' c0', v = .slice A0' n0' c0' ∧ Mem w w' [⟨.slice A0' n0' c0', 5, 1, nums .u8 r⟩]) 51 (pl Go.Proofs.Try.f51 [1, 1, 1, 1, 0, 1, 0, 0]) 36 [(6, .slice A6_1 x6_1.length c6_1), (25, .slice Ap0 a0.length cp0), (26, .int .i64 (a0.length : Int)), (27, .int .i64 x27_1)] W := by
            intro k_
            induction k_ using Nat.strongRecOn with
            | _ k_ ih1 =>
              intro hk A6_1 c6_1 x6_1 x27_1 W hM h
              cases k_ with
              | zero => exact absurd h (by simp [slices_Concat_byte_byte.l1])
              | succ k =>
                simp only [slices_Concat_byte_byte.l1] at h
                replace ih1 : ∀ m, m ≤ k → _ := fun m hm => ih1 m (by omega) (by omega)
                replace ih0 : ∀ m, m ≤ k → _ := fun m hm => ih0 m (by omega)
                refine RunF.go 5 [6, 25, 26, 27, 28] (k' := (pl Go.Proofs.Try.f51 [1, 1, 1, 1, 0, 1, 0, 0, 1, 0])) (L' := [(6, .slice A6_1 x6_1.length c6_1), (25, .slice Ap0 a0.length cp0), (26, .int .i64 (a0.length : Int)), (27, .int .i64 x27_1), (28, .bool (decide (x27_1 < (a0.length : Int))))]) (w' := W) (by kernel_rfl) ?_
                rcases two (decide (x27_1 < (a0.length : Int))) with c14 | c14
                · replace h := of_true h c14
                  refine RunF.know 28 (b := true) (by kernel_rfl) c14 ?_
                  refine RunF.go 6 [6, 25, 26, 27] (k' := (pin Go.Proofs.Try.f51 [1, 1, 1, 1, 0, 1, 0, 0, 1, 1, 0, 0, 0] 0)) (L' := [(6, .slice A6_1 x6_1.length c6_1), (25, .slice Ap0 a0.length cp0), (26, .int .i64 (a0.length : Int)), (27, .int .i64 x27_1)]) (w' := W) (by kernel_rfl) ?_
                  rcases two (decide (0 ≤ x27_1)) with c16 | c16
                  · replace h := of_true h c16
                    rcases two (decide (x27_1 < (a0.length : Int))) with c17 | c17
                    · replace h := of_true h c17
                      obtain ⟨uq15, huq15, hvq15⟩ := Each2.at hq0 ([] : List Int) (i := x27_1) (of_decide_eq_true c16) (by have h_ : x27_1 < (a0.length : Int) := (of_decide_eq_true c17); first | exact h_ | (simpa using h_))
                      obtain ⟨Aq15, cq15, rfl, hq15⟩ := hvq15
                      obtain ⟨q15, hAq15, hcq15⟩ := RdF.elem hr0 (hZp0 _ hM.kept) huq15
                      refine RunF.y (idx_y (d := some 29) (A := Ap0) (m := a0.length) (i := x27_1) (k2 := (pin Go.Proofs.Try.f51 [1, 1, 1, 1, 0, 1, 0, 0, 1, 1, 0, 0, 0] 1)) (by kernel_rfl) (of_decide_eq_true c16) (of_decide_eq_true c17) hAq15) trivial ?_
                      refine RunF.y (ld_y (d := some 30) (p := (q15.add (x27_1 : Int).toNat)) (k2 := (pin Go.Proofs.Try.f51 [1, 1, 1, 1, 0, 1, 0, 0, 1, 1, 0, 0, 0] 2)) (.slice Aq15 ((rdr ([] : List Int) a0 x27_1).length) cq15) (by kernel_rfl)) hcq15 ?_
                      refine RunF.go 5 [25, 26, 27, 31, 32] (k' := (pin Go.Proofs.Try.f51 [1, 1, 1, 1, 0, 1, 0, 0, 1, 1, 0, 0, 1] 2)) (L' := [(25, .slice Ap0 a0.length cp0), (26, .int .i64 (a0.length : Int)), (27, .int .i64 x27_1), (31, .slice A6_1 x6_1.length c6_1), (32, .slice Aq15 ((rdr ([] : List Int) a0 x27_1).length) cq15)]) (w' := W) (by kernel_rfl) ?_
                      rcases two (decide (x6_1.length + (rdr ([] : List Int) a0 x27_1).length ≤ 1000000000)) with c22 | c22
                      · replace h := of_true h c22
                        have h_ := of_decide_eq_true c22
                        obtain ⟨A18, n19, c20, W21, hD, hM', hS_⟩ := app_does (P := Go.Proofs.Try.prog) (n := 36) (k := (pin Go.Proofs.Try.f51 [1, 1, 1, 1, 0, 1, 0, 0, 1, 1, 0, 0, 1] 2)) (L := [(25, .slice Ap0 a0.length cp0), (26, .int .i64 (a0.length : Int)), (27, .int .i64 x27_1), (31, .slice A6_1 x6_1.length c6_1), (32, .slice Aq15 ((rdr ([] : List Int) a0 x27_1).length) cq15)]) (d := some 33) (e := 5) (A := A6_1) (m := x6_1.length) (c := c6_1) (A2 := Aq15) (m2 := (rdr ([] : List Int) a0 x27_1).length) (c2 := cq15) (cs := nums .u8 x6_1) (ys := nums .u8 (rdr ([] : List Int) a0 x27_1)) (k2 := (pin Go.Proofs.Try.f51 [1, 1, 1, 1, 0, 1, 0, 0, 1, 1, 0, 0, 1] 3)) [] [] (by kernel_rfl) (hM.pick [0] rfl rfl) (hq15 _ (hZp0 _ hM.kept)) (one_nums _ _) (by omega)
                        rw [nums_append] at hM'
                        replace hM := hM'; clear h_ hM'
                        obtain rfl : (x6_1 ++ (rdr ([] : List Int) a0 x27_1)).length = n19 := by have h_ := (hM.rd 0 rfl).1; simpa only [nums_length, bools_length, strs_length] using h_
                        refine RunF.does hD ?_
                        clear hD hS_
                        refine RunF.go 8 [6, 25, 26, 27] (k' := (pl Go.Proofs.Try.f51 [1, 1, 1, 1, 0, 1, 0, 0])) (L' := [(6, .slice A18 ((x6_1 ++ (rdr ([] : List Int) a0 x27_1)).length) c20), (25, .slice Ap0 a0.length cp0), (26, .int .i64 (a0.length : Int)), (27, .int .i64 (I64 (x27_1 + 1)))]) (w' := W21) (by kernel_rfl) ?_
                        exact ih1 k (by omega) A18 c20 (x6_1 ++ (rdr ([] : List Int) a0 x27_1)) (I64 (x27_1 + 1)) _ (hM.pick [0] rfl rfl) h
                      · replace h := of_false h c22
                        cases h
                    · replace h := of_false h c17
                      cases h
                  · replace h := of_false h c16
                    cases h
                · replace h := of_false h c14
                  refine RunF.know 28 (b := false) (by kernel_rfl) c14 ?_
                  refine RunF.go 7 [2] (k' := (pl Go.Proofs.Try.f51 [1, 1, 1, 1, 1, 1])) (L' := [(2, .slice A6_1 x6_1.length c6_1)]) (w' := W) (by kernel_rfl) ?_
                  obtain rfl := Option.some.inj h
                  exact RunF.ret1 2 (.slice A6_1 x6_1.length c6_1) (fn := Go.Proofs.Try.f51) Go.Proofs.Try.func51 (by kernel_rfl) (by kernel_rfl) (by kernel_rfl) ⟨_, rfl, A6_1, x6_1.length, c6_1, rfl, (hM.pick [0] rfl rfl)⟩
          exact l1 k (Nat.le_refl _) A9 c11 t8 0 _ (hM.pick [0] rfl rfl) h
  exact l0 k (Nat.le_refl _) 0 0 _ (hM.pick [] rfl rfl) h

/-! ### scrim/words.store: function 62 -/
def words_store.l0 : Nat → Int → Int → (List Int) → Int → Option (List Int)
  | 0, _, _, _, _ => none
  | k + 1, a1, x0_0, x5_0, x6_0 => if (decide (x6_0 > 0)) = true then (if (decide (0 ≤ (I64 (x6_0 - 1)))) = true then (if (decide ((I64 (x6_0 - 1)) < ((a1 : Int).toNat : Int))) = true then (words_store.l0 k a1 (shr x0_0 8) (x5_0.set (I64 (x6_0 - 1) : Int).toNat (U8 (x0_0))) (I64 (x6_0 - 1))) else (none)) else (none)) else (some x5_0)
def words_store.f (k : Nat) (a0 : Int) (a1 : Int) : Option (List Int) := if (decide (0 ≤ a1)) = true then (if (decide (a1 ≤ 1000000000)) = true then (words_store.l0 k a1 a0 (List.replicate ((a1 : Int).toNat) (0 : Int)) a1) else (none)) else (none)
set_option maxRecDepth 100000 in
theorem words_store.calls (k : Nat) (a0 : Int) (a1 : Int) (r : List Int) (w : World) (h : words_store.f k a0 a1 = some r) :
    Calls Go.Proofs.Try.prog 62 #[.int .u64 a0, .int .i64 a1] w (Ret fun v w' => ∃ A0' n0' c0', v = .slice A0' n0' c0' ∧ Mem w w' [⟨.slice A0' n0' c0', 5, 1, nums .u8 r⟩]) := by
  unfold words_store.f at h
  refine calls_of [.int .u64 a0, .int .i64 a1] (fn := Go.Proofs.Try.f62) Go.Proofs.Try.func62 (by kernel_rfl) (by kernel_rfl) ?_
  have hM := Mem.refl w
  refine RunF.go 8 [0, 1, 7] (k' := (pin Go.Proofs.Try.f62 [1, 0, 0] 1)) (L' := [(0, .int .u64 a0), (1, .int .i64 a1), (7, .int .i64 a1)]) (w' := w) (by kernel_rfl) ?_
  rcases two (decide (0 ≤ a1)) with c3 | c3
  · replace h := of_true h c3
    rcases two (decide (a1 ≤ 1000000000)) with c4 | c4
    · replace h := of_true h c4
      have := of_decide_eq_true c3
      have := of_decide_eq_true c4
      obtain ⟨W1, hD, hM', hB_⟩ := mk_does (P := Go.Proofs.Try.prog) (n := 22) (k := (pin Go.Proofs.Try.f62 [1, 0, 0] 1)) (L := [(0, .int .u64 a0), (1, .int .i64 a1), (7, .int .i64 a1)]) (d := some 8) (e := 5) (z := .int .u8 0) (l := a1) (c := a1) (k2 := (pin Go.Proofs.Try.f62 [1, 0, 0] 2)) (by kernel_rfl) (by omega) (by omega) (by omega) hM
      rw [rep_nums] at hM'
      refine RunF.does hD ?_
      replace hM := hM'; clear hD hM'
      generalize w.heap.size = g2 at hM ⊢
      refine RunF.go 9 [0, 5, 6] (k' := (pl Go.Proofs.Try.f62 [1, 0, 1, 1, 1])) (L' := [(0, .int .u64 a0), (5, .slice (some ⟨g2, 0, none⟩) ((a1 : Int).toNat) ((a1 : Int).toNat)), (6, .int .i64 a1)]) (w' := W1) (by kernel_rfl) ?_
      have l0 : ∀ (k_ : Nat), k_ ≤ k → ∀ (x0_0 : Int) (x5_0 : List Int) (x6_0 : Int) (W : World) (hM : Mem w W [⟨.slice (some ⟨g2, 0, none⟩) ((a1 : Int).toNat) ((a1 : Int).toNat), 5, 1, nums .u8 x5_0⟩]) (h : words_store.l0 k_ a1 x0_0 x5_0 x6_0 = some r), RunF Go.Proofs.Try.prog (Ret fun v w' => ∃ A0' n0' c0', v = .slice A0' n0' c0' ∧ Mem w w' [⟨.slice A0' n0' c0', 5, 1, nums .u8 r⟩]) 62 (pl Go.Proofs.Try.f62 [1, 0, 1, 1, 1]) 22 [(0, .int .u64 x0_0), (5, .slice (some ⟨g2, 0, none⟩) ((a1 : Int).toNat) ((a1 : Int).toNat)), (6, .int .i64 x6_0)] W := by
        intro k_
        induction k_ using Nat.strongRecOn with
        | _ k_ ih0 =>
          intro hk x0_0 x5_0 x6_0 W hM h
          cases k_ with
          | zero => exact absurd h (by simp [words_store.l0])
          | succ k =>
            simp only [words_store.l0] at h
            replace ih0 : ∀ m, m ≤ k → _ := fun m hm => ih0 m (by omega) (by omega)
            refine RunF.go 6 [0, 5, 6, 11] (k' := (pl Go.Proofs.Try.f62 [1, 0, 1, 1, 1, 0, 1])) (L' := [(0, .int .u64 x0_0), (5, .slice (some ⟨g2, 0, none⟩) ((a1 : Int).toNat) ((a1 : Int).toNat)), (6, .int .i64 x6_0), (11, .bool (decide (x6_0 > 0)))]) (w' := W) (by kernel_rfl) ?_
            rcases two (decide (x6_0 > 0)) with c6 | c6
            · replace h := of_true h c6
              refine RunF.know 11 (b := true) (by kernel_rfl) c6 ?_
              refine RunF.go 13 [0, 5, 6, 14, 15, 17] (k' := (pin Go.Proofs.Try.f62 [1, 0, 1, 1, 1, 0, 1, 0, 1, 0] 4)) (L' := [(0, .int .u64 x0_0), (5, .slice (some ⟨g2, 0, none⟩) ((a1 : Int).toNat) ((a1 : Int).toNat)), (6, .int .i64 (I64 (x6_0 - 1))), (14, .slice (some ⟨g2, 0, none⟩) ((a1 : Int).toNat) ((a1 : Int).toNat)), (15, .int .i64 (I64 (x6_0 - 1))), (17, .int .u8 (U8 (x0_0)))]) (w' := W) (by kernel_rfl) ?_
              rcases two (decide (0 ≤ (I64 (x6_0 - 1)))) with c8 | c8
              · replace h := of_true h c8
                rcases two (decide ((I64 (x6_0 - 1)) < ((a1 : Int).toNat : Int))) with c9 | c9
                · replace h := of_true h c9
                  obtain ⟨q7, hAq7, hcq7, hfq7, hlq7⟩ := hM.num_at 0 rfl (i := I64 (x6_0 - 1)) (of_decide_eq_true c8) (by have h_ := of_decide_eq_true c9; omega)
                  refine RunF.y (idx_own (d := some 18) (A := (some ⟨g2, 0, none⟩)) (m := (a1 : Int).toNat) (i := I64 (x6_0 - 1)) (k2 := (pin Go.Proofs.Try.f62 [1, 0, 1, 1, 1, 0, 1, 0, 1, 0] 5)) (by kernel_rfl) (of_decide_eq_true c8) (by have h_ := of_decide_eq_true c9; omega) hAq7) trivial ?_
                  obtain ⟨g_, hA_, hc_, hf_, hl_⟩ := hM.num_at 0 rfl (i := I64 (x6_0 - 1)) (of_decide_eq_true c8) (by have h_ := of_decide_eq_true c9; omega)
                  obtain rfl : q7 = g_ := by rw [hAq7] at hA_; injection hA_ with hA_; injection hA_
                  refine RunF.doesU (st_u (p := (⟨q7, (I64 (x6_0 - 1) : Int).toNat, none⟩ : Addr)) (v := .int .u8 (U8 (x0_0))) (k2 := (pin Go.Proofs.Try.f62 [1, 0, 1, 1, 1, 0, 1, 0, 1, 0] 6)) (by kernel_rfl) hc_ hf_) ?_
                  replace hM : Mem w (W.setCell (⟨q7, (I64 (x6_0 - 1) : Int).toNat, none⟩ : Addr) (.int .u8 (U8 (x0_0)))) [⟨.slice (some ⟨g2, 0, none⟩) ((a1 : Int).toNat) ((a1 : Int).toNat), 5, 1, nums .u8 (x5_0.set (I64 (x6_0 - 1) : Int).toNat (U8 (x0_0)))⟩] := Mem.put_num [] [] (hM.pick [0] rfl rfl) hAq7 _ hl_ _
                  generalize W.setCell (⟨q7, (I64 (x6_0 - 1) : Int).toNat, none⟩ : Addr) (.int .u8 (U8 (x0_0))) = W10 at hM ⊢
                  clear hc_ hf_ hl_ hA_ hcq7
                  refine RunF.go 10 [0, 5, 6] (k' := (pl Go.Proofs.Try.f62 [1, 0, 1, 1, 1])) (L' := [(0, .int .u64 (shr x0_0 8)), (5, .slice (some ⟨g2, 0, none⟩) ((a1 : Int).toNat) ((a1 : Int).toNat)), (6, .int .i64 (I64 (x6_0 - 1)))]) (w' := W10) (by kernel_rfl) ?_
                  exact ih0 k (by omega) (shr x0_0 8) (x5_0.set (I64 (x6_0 - 1) : Int).toNat (U8 (x0_0))) (I64 (x6_0 - 1)) _ (hM.pick [0] rfl rfl) h
                · replace h := of_false h c9
                  cases h
              · replace h := of_false h c8
                cases h
            · replace h := of_false h c6
              refine RunF.know 11 (b := false) (by kernel_rfl) c6 ?_
              refine RunF.go 7 [4] (k' := (pl Go.Proofs.Try.f62 [1, 0, 1, 1, 1, 1, 1])) (L' := [(4, .slice (some ⟨g2, 0, none⟩) ((a1 : Int).toNat) ((a1 : Int).toNat))]) (w' := W) (by kernel_rfl) ?_
              obtain rfl := Option.some.inj h
              exact RunF.ret1 4 (.slice (some ⟨g2, 0, none⟩) ((a1 : Int).toNat) ((a1 : Int).toNat)) (fn := Go.Proofs.Try.f62) Go.Proofs.Try.func62 (by kernel_rfl) (by kernel_rfl) (by kernel_rfl) ⟨_, rfl, (some ⟨g2, 0, none⟩), (a1 : Int).toNat, (a1 : Int).toNat, rfl, (hM.pick [0] rfl rfl)⟩
      exact l0 k (Nat.le_refl _) a0 (List.replicate ((a1 : Int).toNat) (0 : Int)) a1 _ (hM.pick [0] rfl rfl) h
    · replace h := of_false h c4
      cases h
  · replace h := of_false h c3
    cases h

/-! ### scrim/words.PutBe32: function 53 -/
def words_PutBe32.f (k : Nat) (a0 : Int) : Option (List Int) := (words_store.f k (U64 (a0)) 4).bind fun t2 => (some t2)
set_option maxRecDepth 100000 in
theorem words_PutBe32.calls (k : Nat) (a0 : Int) (r : List Int) (w : World) (h : words_PutBe32.f k a0 = some r) :
    Calls Go.Proofs.Try.prog 53 #[.int .u32 a0] w (Ret fun v w' => ∃ A0' n0' c0', v = .slice A0' n0' c0' ∧ Mem w w' [⟨.slice A0' n0' c0', 5, 1, nums .u8 r⟩]) := by
  unfold words_PutBe32.f at h
  refine calls_of [.int .u32 a0] (fn := Go.Proofs.Try.f53) Go.Proofs.Try.func53 (by kernel_rfl) (by kernel_rfl) ?_
  have hM := Mem.refl w
  refine RunF.go 8 [4] (k' := (pin Go.Proofs.Try.f53 [1, 0] 2)) (L' := [(4, .int .u64 (U64 (a0)))]) (w' := w) (by kernel_rfl) ?_
  obtain ⟨t2, ht2, h⟩ := Option.bind_eq_some_iff.mp h
  refine RunF.call (d := some 5) (g := 62) (args := #[.int .u64 (U64 (a0)), .int .i64 4]) (k2 := (pin Go.Proofs.Try.f53 [1, 0] 3)) (by kernel_rfl) (words_store.calls k (U64 (a0)) 4 t2 _ ht2) ?_
  rintro _ W1 ⟨A3, n4, c5, rfl, hM_⟩
  obtain rfl : t2.length = n4 := by have h_ := (hM_.rd 0 rfl).1; simpa [nums_length, bools_length, strs_length] using h_
  replace hM := hM.call hM_
  clear hM_ ht2
  refine RunF.go 2 [2] (k' := (pl Go.Proofs.Try.f53 [1, 1])) (L' := [(2, .slice A3 t2.length c5)]) (w' := W1) (by kernel_rfl) ?_
  obtain rfl := Option.some.inj h
  exact RunF.ret1 2 (.slice A3 t2.length c5) (fn := Go.Proofs.Try.f53) Go.Proofs.Try.func53 (by kernel_rfl) (by kernel_rfl) (by kernel_rfl) ⟨_, rfl, A3, t2.length, c5, rfl, (hM.pick [0] rfl rfl)⟩

/-! ### scrim/words.PutLe32: function 52 -/
def words_PutLe32.f (k : Nat) (a0 : Int) : Option (List Int) := (words_PutBe32.f k a0).bind fun t2 => ((words_turned.f k t2).bind fun t8 => (some t8))
set_option maxRecDepth 100000 in
theorem words_PutLe32.calls (k : Nat) (a0 : Int) (r : List Int) (w : World) (h : words_PutLe32.f k a0 = some r) :
    Calls Go.Proofs.Try.prog 52 #[.int .u32 a0] w (Ret fun v w' => ∃ A0' n0' c0', v = .slice A0' n0' c0' ∧ Mem w w' [⟨.slice A0' n0' c0', 5, 1, nums .u8 r⟩]) := by
  unfold words_PutLe32.f at h
  refine calls_of [.int .u32 a0] (fn := Go.Proofs.Try.f52) Go.Proofs.Try.func52 (by kernel_rfl) (by kernel_rfl) ?_
  have hM := Mem.refl w
  refine RunF.go 7 [3] (k' := (pin Go.Proofs.Try.f52 [1, 0] 1)) (L' := [(3, .int .u32 a0)]) (w' := w) (by kernel_rfl) ?_
  obtain ⟨t2, ht2, h⟩ := Option.bind_eq_some_iff.mp h
  refine RunF.call (d := some 4) (g := 53) (args := #[.int .u32 a0]) (k2 := (pin Go.Proofs.Try.f52 [1, 0] 2)) (by kernel_rfl) (words_PutBe32.calls k a0 t2 _ ht2) ?_
  rintro _ W1 ⟨A3, n4, c5, rfl, hM_⟩
  obtain rfl : t2.length = n4 := by have h_ := (hM_.rd 0 rfl).1; simpa [nums_length, bools_length, strs_length] using h_
  replace hM := hM.call hM_
  clear hM_ ht2
  obtain ⟨t8, ht8, h⟩ := Option.bind_eq_some_iff.mp h
  refine RunF.call (d := some 5) (g := 59) (args := #[.slice A3 t2.length c5]) (k2 := (pin Go.Proofs.Try.f52 [1, 0] 3)) (by kernel_rfl) (words_turned.calls k A3 t2.length c5 t2 t8 _ (hM.rd 0 rfl) ht8) ?_
  rintro _ W7 ⟨A9, n10, c11, rfl, hM_⟩
  obtain rfl : t8.length = n10 := by have h_ := (hM_.rd 0 rfl).1; simpa [nums_length, bools_length, strs_length] using h_
  replace hM := hM.call hM_
  clear hM_ ht8
  refine RunF.go 2 [2] (k' := (pl Go.Proofs.Try.f52 [1, 1])) (L' := [(2, .slice A9 t8.length c11)]) (w' := W7) (by kernel_rfl) ?_
  obtain rfl := Option.some.inj h
  exact RunF.ret1 2 (.slice A9 t8.length c11) (fn := Go.Proofs.Try.f52) Go.Proofs.Try.func52 (by kernel_rfl) (by kernel_rfl) (by kernel_rfl) ⟨_, rfl, A9, t8.length, c11, rfl, (hM.pick [0] rfl rfl)⟩

/-! ### scrim/small.stored: function 33 -/
def small_stored.f (k : Nat) (a0 : Int) (a1 : Int) (a2 : Bool) : Option (List Int) := if a2 = true then ((words_PutLe32.f k a0).bind fun t3 => ((words_PutLe32.f k a1).bind fun t9 => ((slices_Concat_byte_byte.f k ([t3, t9] : List (List Int))).bind fun t22 => (some t22)))) else ((words_PutBe32.f k a0).bind fun t28 => ((words_PutBe32.f k a1).bind fun t34 => ((slices_Concat_byte_byte.f k ([t28, t34] : List (List Int))).bind fun t47 => (some t47))))
set_option maxRecDepth 100000 in
theorem small_stored.calls (k : Nat) (a0 : Int) (a1 : Int) (a2 : Bool) (r : List Int) (w : World) (h : small_stored.f k a0 a1 a2 = some r) :
    Calls Go.Proofs.Try.prog 33 #[.int .u32 a0, .int .u32 a1, .bool a2] w (Ret fun v w' => ∃ A0' n0' c0', v = .slice A0' n0' c0' ∧ Mem w w' [⟨.slice A0' n0' c0', 5, 1, nums .u8 r⟩]) := by
  unfold small_stored.f at h
  refine calls_of [.int .u32 a0, .int .u32 a1, .bool a2] (fn := Go.Proofs.Try.f33) Go.Proofs.Try.func33 (by kernel_rfl) (by kernel_rfl) ?_
  have hM := Mem.refl w
  refine RunF.go 9 [0, 1, 7] (k' := (pl Go.Proofs.Try.f33 [1, 0, 1])) (L' := [(0, .int .u32 a0), (1, .int .u32 a1), (7, .bool a2)]) (w' := w) (by kernel_rfl) ?_
  rcases two (a2) with c1 | c1
  · replace h := of_true h c1
    refine RunF.know 7 (b := true) (by kernel_rfl) c1 ?_
    refine RunF.go 4 [1, 8] (k' := (pin Go.Proofs.Try.f33 [1, 0, 1, 0, 0] 1)) (L' := [(1, .int .u32 a1), (8, .int .u32 a0)]) (w' := w) (by kernel_rfl) ?_
    obtain ⟨t3, ht3, h⟩ := Option.bind_eq_some_iff.mp h
    refine RunF.call (d := some 9) (g := 52) (args := #[.int .u32 a0]) (k2 := (pin Go.Proofs.Try.f33 [1, 0, 1, 0, 0] 2)) (by kernel_rfl) (words_PutLe32.calls k a0 t3 _ ht3) ?_
    rintro _ W2 ⟨A4, n5, c6, rfl, hM_⟩
    obtain rfl : t3.length = n5 := by have h_ := (hM_.rd 0 rfl).1; simpa [nums_length, bools_length, strs_length] using h_
    replace hM := hM.call hM_
    clear hM_ ht3
    refine RunF.go 1 [9, 10] (k' := (pin Go.Proofs.Try.f33 [1, 0, 1, 0, 0] 3)) (L' := [(9, .slice A4 t3.length c6), (10, .int .u32 a1)]) (w' := W2) (by kernel_rfl) ?_
    obtain ⟨t9, ht9, h⟩ := Option.bind_eq_some_iff.mp h
    refine RunF.call (d := some 11) (g := 52) (args := #[.int .u32 a1]) (k2 := (pin Go.Proofs.Try.f33 [1, 0, 1, 0, 0] 4)) (by kernel_rfl) (words_PutLe32.calls k a1 t9 _ ht9) ?_
    rintro _ W8 ⟨A10, n11, c12, rfl, hM_⟩
    obtain rfl : t9.length = n11 := by have h_ := (hM_.rd 0 rfl).1; simpa [nums_length, bools_length, strs_length] using h_
    replace hM := hM.call hM_
    clear hM_ ht9
    obtain ⟨Fq14, hfq14, hM⟩ := Mem.freezeS (H1 := [⟨.slice A10 t9.length c12, 5, 1, nums .u8 t9⟩]) (H2 := []) (Fs := []) (A := A4) (n := t3.length) (c := c6) (ty := 5) (cs := nums .u8 t3) (hM.as rfl)
    obtain ⟨Fq15, hfq15, hM⟩ := Mem.freezeS (H1 := []) (H2 := []) (Fs := [Fq14]) (A := A10) (n := t9.length) (c := c12) (ty := 5) (cs := nums .u8 t9) (hM.as rfl)
    have hqq16 : Each2 ((rNums .u8) (andZ (Oks Fq14) (Oks Fq15))) [.slice A4 t3.length c6, .slice A10 t9.length c12] ([t3, t9] : List (List Int)) := (.cons (rnums_of (RdF.up hfq14 (fun _ hz_ => hz_.1)) (And.intro (Mem.oks (hM.as (H' := Gs [] [Fq15, Fq14]) rfl) 1 rfl) (Mem.oks (hM.as (H' := Gs [] [Fq15, Fq14]) rfl) 0 rfl))) (.cons (rnums_of (RdF.up hfq15 (fun _ hz_ => hz_.2)) (And.intro (Mem.oks (hM.as (H' := Gs [] [Fq15, Fq14]) rfl) 1 rfl) (Mem.oks (hM.as (H' := Gs [] [Fq15, Fq14]) rfl) 0 rfl))) (Each2.nil _)))
    refine RunF.new 22 1 2 ([.slice A4 t3.length c6, .slice A10 t9.length c12]) (d := some 12) (k2 := (pin Go.Proofs.Try.f33 [1, 0, 1, 0, 0] 5)) hM (by rfl) (by kernel_rfl) (by kernel_rfl) ?_
    intro g17 W18 hM
    obtain ⟨Fq20, hfq20, hM⟩ := Mem.freezeS (H1 := []) (H2 := []) (Fs := [Fq15, Fq14]) (A := (some ⟨g17, 0, none⟩)) (n := 2) (c := 2) (ty := 22) (cs := [.slice A4 t3.length c6, .slice A10 t9.length c12]) (hM.as rfl)
    obtain ⟨t22, ht22, h⟩ := Option.bind_eq_some_iff.mp h
    refine RunF.call (d := some 13) (g := 51) (args := #[.slice (some ⟨g17, 0, none⟩) 2 2]) (k2 := (pin Go.Proofs.Try.f33 [1, 0, 1, 0, 0] 6)) (by kernel_rfl) (slices_Concat_byte_byte.calls k (.slice (some ⟨g17, 0, none⟩) 2 2) (andZ (Oks Fq20) (andZ (Oks Fq14) (Oks Fq15))) ([t3, t9] : List (List Int)) t22 _ ⟨_, _, _, rfl, (hfq20.up (fun _ hz_ => hz_.1)), (Each2.up (up_nums .u8) hqq16 (fun _ hz_ => (And.intro hz_.2.1 hz_.2.2)))⟩ (fun _ hb_ => (And.intro ((Mem.oks (hM.as (H' := Gs [] [Fq20, Fq15, Fq14]) rfl) 0 rfl).kept hb_) (And.intro ((Mem.oks (hM.as (H' := Gs [] [Fq20, Fq15, Fq14]) rfl) 2 rfl).kept hb_) ((Mem.oks (hM.as (H' := Gs [] [Fq20, Fq15, Fq14]) rfl) 1 rfl).kept hb_)))) ht22) ?_
    rintro _ W21 ⟨A23, n24, c25, rfl, hM_⟩
    obtain rfl : t22.length = n24 := by have h_ := (hM_.rd 0 rfl).1; simpa [nums_length, bools_length, strs_length] using h_
    replace hM : Mem w W21 (Gs [⟨.slice A23 t22.length c25, 5, 1, nums .u8 t22⟩] [Fq20, Fq15, Fq14]) := (Mem.callG (hM.as (H' := Gs [] [Fq20, Fq15, Fq14]) rfl) hM_.grp).as rfl
    clear hM_ ht22
    refine RunF.go 2 [6] (k' := (pl Go.Proofs.Try.f33 [1, 0, 1, 0, 1])) (L' := [(6, .slice A23 t22.length c25)]) (w' := W21) (by kernel_rfl) ?_
    obtain rfl := Option.some.inj h
    exact RunF.ret1 6 (.slice A23 t22.length c25) (fn := Go.Proofs.Try.f33) Go.Proofs.Try.func33 (by kernel_rfl) (by kernel_rfl) (by kernel_rfl) ⟨_, rfl, A23, t22.length, c25, rfl, (Mem.pickF (hM.as (H' := Gs [⟨.slice A23 t22.length c25, 5, 1, nums .u8 t22⟩] [Fq20, Fq15, Fq14]) rfl) [0] rfl rfl rfl).ungrp⟩
  · replace h := of_false h c1
    refine RunF.know 7 (b := false) (by kernel_rfl) c1 ?_
    refine RunF.go 5 [1, 14] (k' := (pin Go.Proofs.Try.f33 [1, 1, 0] 1)) (L' := [(1, .int .u32 a1), (14, .int .u32 a0)]) (w' := w) (by kernel_rfl) ?_
    obtain ⟨t28, ht28, h⟩ := Option.bind_eq_some_iff.mp h
    refine RunF.call (d := some 15) (g := 53) (args := #[.int .u32 a0]) (k2 := (pin Go.Proofs.Try.f33 [1, 1, 0] 2)) (by kernel_rfl) (words_PutBe32.calls k a0 t28 _ ht28) ?_
    rintro _ W27 ⟨A29, n30, c31, rfl, hM_⟩
    obtain rfl : t28.length = n30 := by have h_ := (hM_.rd 0 rfl).1; simpa [nums_length, bools_length, strs_length] using h_
    replace hM := hM.call hM_
    clear hM_ ht28
    refine RunF.go 1 [15, 16] (k' := (pin Go.Proofs.Try.f33 [1, 1, 0] 3)) (L' := [(15, .slice A29 t28.length c31), (16, .int .u32 a1)]) (w' := W27) (by kernel_rfl) ?_
    obtain ⟨t34, ht34, h⟩ := Option.bind_eq_some_iff.mp h
    refine RunF.call (d := some 17) (g := 53) (args := #[.int .u32 a1]) (k2 := (pin Go.Proofs.Try.f33 [1, 1, 0] 4)) (by kernel_rfl) (words_PutBe32.calls k a1 t34 _ ht34) ?_
    rintro _ W33 ⟨A35, n36, c37, rfl, hM_⟩
    obtain rfl : t34.length = n36 := by have h_ := (hM_.rd 0 rfl).1; simpa [nums_length, bools_length, strs_length] using h_
    replace hM := hM.call hM_
    clear hM_ ht34
    obtain ⟨Fq39, hfq39, hM⟩ := Mem.freezeS (H1 := [⟨.slice A35 t34.length c37, 5, 1, nums .u8 t34⟩]) (H2 := []) (Fs := []) (A := A29) (n := t28.length) (c := c31) (ty := 5) (cs := nums .u8 t28) (hM.as rfl)
    obtain ⟨Fq40, hfq40, hM⟩ := Mem.freezeS (H1 := []) (H2 := []) (Fs := [Fq39]) (A := A35) (n := t34.length) (c := c37) (ty := 5) (cs := nums .u8 t34) (hM.as rfl)
    have hqq41 : Each2 ((rNums .u8) (andZ (Oks Fq39) (Oks Fq40))) [.slice A29 t28.length c31, .slice A35 t34.length c37] ([t28, t34] : List (List Int)) := (.cons (rnums_of (RdF.up hfq39 (fun _ hz_ => hz_.1)) (And.intro (Mem.oks (hM.as (H' := Gs [] [Fq40, Fq39]) rfl) 1 rfl) (Mem.oks (hM.as (H' := Gs [] [Fq40, Fq39]) rfl) 0 rfl))) (.cons (rnums_of (RdF.up hfq40 (fun _ hz_ => hz_.2)) (And.intro (Mem.oks (hM.as (H' := Gs [] [Fq40, Fq39]) rfl) 1 rfl) (Mem.oks (hM.as (H' := Gs [] [Fq40, Fq39]) rfl) 0 rfl))) (Each2.nil _)))
    refine RunF.new 22 1 2 ([.slice A29 t28.length c31, .slice A35 t34.length c37]) (d := some 18) (k2 := (pin Go.Proofs.Try.f33 [1, 1, 0] 5)) hM (by rfl) (by kernel_rfl) (by kernel_rfl) ?_
    intro g42 W43 hM
    obtain ⟨Fq45, hfq45, hM⟩ := Mem.freezeS (H1 := []) (H2 := []) (Fs := [Fq40, Fq39]) (A := (some ⟨g42, 0, none⟩)) (n := 2) (c := 2) (ty := 22) (cs := [.slice A29 t28.length c31, .slice A35 t34.length c37]) (hM.as rfl)
    obtain ⟨t47, ht47, h⟩ := Option.bind_eq_some_iff.mp h
    refine RunF.call (d := some 19) (g := 51) (args := #[.slice (some ⟨g42, 0, none⟩) 2 2]) (k2 := (pin Go.Proofs.Try.f33 [1, 1, 0] 6)) (by kernel_rfl) (slices_Concat_byte_byte.calls k (.slice (some ⟨g42, 0, none⟩) 2 2) (andZ (Oks Fq45) (andZ (Oks Fq39) (Oks Fq40))) ([t28, t34] : List (List Int)) t47 _ ⟨_, _, _, rfl, (hfq45.up (fun _ hz_ => hz_.1)), (Each2.up (up_nums .u8) hqq41 (fun _ hz_ => (And.intro hz_.2.1 hz_.2.2)))⟩ (fun _ hb_ => (And.intro ((Mem.oks (hM.as (H' := Gs [] [Fq45, Fq40, Fq39]) rfl) 0 rfl).kept hb_) (And.intro ((Mem.oks (hM.as (H' := Gs [] [Fq45, Fq40, Fq39]) rfl) 2 rfl).kept hb_) ((Mem.oks (hM.as (H' := Gs [] [Fq45, Fq40, Fq39]) rfl) 1 rfl).kept hb_)))) ht47) ?_
    rintro _ W46 ⟨A48, n49, c50, rfl, hM_⟩
    obtain rfl : t47.length = n49 := by have h_ := (hM_.rd 0 rfl).1; simpa [nums_length, bools_length, strs_length] using h_
    replace hM : Mem w W46 (Gs [⟨.slice A48 t47.length c50, 5, 1, nums .u8 t47⟩] [Fq45, Fq40, Fq39]) := (Mem.callG (hM.as (H' := Gs [] [Fq45, Fq40, Fq39]) rfl) hM_.grp).as rfl
    clear hM_ ht47
    refine RunF.go 2 [6] (k' := (pl Go.Proofs.Try.f33 [1, 1, 1])) (L' := [(6, .slice A48 t47.length c50)]) (w' := W46) (by kernel_rfl) ?_
    obtain rfl := Option.some.inj h
    exact RunF.ret1 6 (.slice A48 t47.length c50) (fn := Go.Proofs.Try.f33) Go.Proofs.Try.func33 (by kernel_rfl) (by kernel_rfl) (by kernel_rfl) ⟨_, rfl, A48, t47.length, c50, rfl, (Mem.pickF (hM.as (H' := Gs [⟨.slice A48 t47.length c50, 5, 1, nums .u8 t47⟩] [Fq45, Fq40, Fq39]) rfl) [0] rfl rfl rfl).ungrp⟩

/-! ### (*scrim/small.Small).Block: function 18 -/
def small_Small_Block.f (k : Nat) (a0 : ((List Int) × Int)) (a1 : List Int) (a2 : Bool) : Option (List Int × Int) := if ((a1.length : Int) != 8) = true then (some (([] : List Int), 1)) else ((small_loaded.f k a1 (a0.2 == 8)).bind fun t5 => (if (decide (0 < (t5.length : Int))) = true then (if (decide (1 < (t5.length : Int))) = true then (if (a0.2 == 4) = true then ((small_Small_xtea.f k a0 (rd t5 0) (rd t5 1) a2).bind fun t18 => ((small_stored.f k t18.1 t18.2 (a0.2 == 8)).bind fun t20 => (some (t20, 0)))) else (if (a0.2 == 5) = true then ((small_Small_magma.f k a0 (rd t5 0) (rd t5 1) a2).bind fun t27 => ((small_stored.f k t27.1 t27.2 (a0.2 == 8)).bind fun t29 => (some (t29, 0)))) else (if (a0.2 == 8) = true then ((small_Small_rc5.f k a0 (rd t5 0) (rd t5 1) a2).bind fun t36 => ((small_stored.f k t36.1 t36.2 (a0.2 == 8)).bind fun t38 => (some (t38, 0)))) else ((small_stored.f k (rd t5 0) (rd t5 1) (a0.2 == 8)).bind fun t44 => (some (t44, 0)))))) else (none)) else (none)))
set_option maxRecDepth 100000 in
theorem small_Small_Block.calls (k : Nat) (vp0 : Value) (Zp0 : Zp) (a0 : ((List Int) × Int)) (Ap1 : Option Addr) (np1 cp1 : Nat) (a1 : List Int) (a2 : Bool) (r : List Int × Int) (w : World) (hr1 : Rd w (.slice Ap1 np1 cp1) (nums .u8 a1)) (hp0 : (rPtr Rs_small_Small) Zp0 vp0 a0) (hZp0 : ∀ W, Kept w W → Zp0 W) (h : small_Small_Block.f k a0 a1 a2 = some r) :
    Calls Go.Proofs.Try.prog 18 #[vp0, (.slice Ap1 np1 cp1), .bool a2] w (Ret fun v w' => ∃ A0' n0' c0', v = .tuple #[.slice A0' n0' c0', .int .i64 r.2] ∧ Mem w w' [⟨.slice A0' n0' c0', 5, 1, nums .u8 r.1⟩]) := by
  obtain rfl : a1.length = np1 := by have h_ := hr1.1; simpa [nums_length, bools_length, strs_length] using h_
  obtain ⟨gp0, _, rfl, hco1, _, _, rfl, ⟨Ao1_0, co1_0, rfl, ho1_0⟩, rfl⟩ := id hp0
  unfold small_Small_Block.f at h
  refine calls_of [.pointer (some ⟨gp0, 0, none⟩), .slice Ap1 a1.length cp1, .bool a2] (fn := Go.Proofs.Try.f18) Go.Proofs.Try.func18 (by kernel_rfl) (by kernel_rfl) ?_
  have hM := Mem.refl w
  refine RunF.go 12 [0, 1, 2, 14] (k' := (pl Go.Proofs.Try.f18 [1, 0, 1])) (L' := [(0, .pointer (some ⟨gp0, 0, none⟩)), (1, .slice Ap1 a1.length cp1), (2, .bool a2), (14, .bool ((a1.length : Int) != 8))]) (w' := w) (by kernel_rfl) ?_
  rcases two (((a1.length : Int) != 8)) with c2 | c2
  · replace h := of_true h c2
    refine RunF.know 14 (b := true) (by kernel_rfl) c2 ?_
    refine RunF.go 6 [6, 7] (k' := (pl Go.Proofs.Try.f18 [1, 0, 1, 0, 1])) (L' := [(6, .slice none 0 0), (7, .int .i64 1)]) (w' := w) (by kernel_rfl) ?_
    replace hM := hM.nil 5
    obtain rfl := Option.some.inj h
    exact RunF.ret2 6 7 (.slice none 0 0) (.int .i64 1) (fn := Go.Proofs.Try.f18) Go.Proofs.Try.func18 (by kernel_rfl) (by kernel_rfl) (by kernel_rfl) (by kernel_rfl) ⟨_, rfl, none, 0, 0, rfl, (hM.pick [0] rfl rfl)⟩
  · replace h := of_false h c2
    refine RunF.know 14 (b := false) (by kernel_rfl) c2 ?_
    refine RunF.go 7 [0, 1, 2, 17] (k' := (pin Go.Proofs.Try.f18 [1, 1, 0] 3)) (L' := [(0, .pointer (some ⟨gp0, 0, none⟩)), (1, .slice Ap1 a1.length cp1), (2, .bool a2), (17, .pointer (some ⟨gp0, 1, none⟩))]) (w' := w) (by kernel_rfl) ?_
    refine RunF.y (ld_y (d := some 18) (p := ⟨gp0, 1, none⟩) (k2 := (pin Go.Proofs.Try.f18 [1, 1, 0] 4)) (.int .i64 a0.2) (by kernel_rfl)) (hco1 _ (hZp0 _ hM.kept) 1 _ rfl) ?_
    refine RunF.go 7 [0, 2, 8, 20, 21] (k' := (pin Go.Proofs.Try.f18 [1, 1, 1, 0] 2)) (L' := [(0, .pointer (some ⟨gp0, 0, none⟩)), (2, .bool a2), (8, .bool (a0.2 == 8)), (20, .slice Ap1 a1.length cp1), (21, .bool (a0.2 == 8))]) (w' := w) (by kernel_rfl) ?_
    obtain ⟨t5, ht5, h⟩ := Option.bind_eq_some_iff.mp h
    refine RunF.call (d := some 22) (g := 26) (args := #[.slice Ap1 a1.length cp1, .bool (a0.2 == 8)]) (k2 := (pin Go.Proofs.Try.f18 [1, 1, 1, 0] 3)) (by kernel_rfl) (small_loaded.calls k Ap1 a1.length cp1 a1 (a0.2 == 8) t5 _ (hr1.mono hM.below) ht5) ?_
    rintro _ W4 ⟨A6, n7, c8, rfl, hM_⟩
    obtain rfl : t5.length = n7 := by have h_ := (hM_.rd 0 rfl).1; simpa [nums_length, bools_length, strs_length] using h_
    replace hM := hM.call hM_
    clear hM_ ht5
    refine RunF.go 3 [0, 2, 8, 9] (k' := (pl Go.Proofs.Try.f18 [1, 1, 1, 1, 0])) (L' := [(0, .pointer (some ⟨gp0, 0, none⟩)), (2, .bool a2), (8, .bool (a0.2 == 8)), (9, .slice A6 t5.length c8)]) (w' := W4) (by kernel_rfl) ?_
    refine RunF.draw (Still ({ W4 with drawn := W4.drawn + 1 } : World) []) (by kernel_rfl) (by kernel_rfl) ?_
    have hMd11 := hM.drew
    have hS := Still.refl ({ W4 with drawn := W4.drawn + 1 } : World) []
    generalize ({ W4 with drawn := W4.drawn + 1 } : World) = W10 at hMd11 hS ⊢
    replace hM := hMd11
    refine RunAny.y 0 (by kernel_rfl) (yl_pure (d := some 23) (v := .slice A6 t5.length c8) (k2 := [.inRegion (opsOf (pl Go.Proofs.Try.f18 [1, 1, 1, 1, 0])) []]) fun w => by kernel_rfl) (fun _ _ => trivial) hS ?_
    rcases two (decide (0 < (t5.length : Int))) with c13 | c13
    · replace h := of_true h c13
      obtain ⟨q12, hAq12, hcq12, hfq12, hlq12⟩ := hM.num_at 0 rfl (i := 0) (by omega) (by have h_ := of_decide_eq_true c13; omega)
      refine RunAny.y 1 (by kernel_rfl) (idx_own (d := some 24) (A := A6) (m := t5.length) (i := 0) (k2 := [.inRegion (opsOf (pl Go.Proofs.Try.f18 [1, 1, 1, 1, 0])) []]) (by kernel_rfl) (by omega) (by have h_ := of_decide_eq_true c13; omega) hAq12) (fun _ _ => trivial) hS ?_
      refine RunAny.y 2 (by kernel_rfl) (ld_y (d := some 25) (p := ⟨q12, (0 : Int).toNat, none⟩) (k2 := [.inRegion (opsOf (pl Go.Proofs.Try.f18 [1, 1, 1, 1, 0])) []]) (.int .u32 (rd t5 0)) (by kernel_rfl)) (fun _ hs => hs.cell hcq12 (by simp)) hS ?_
      refine RunAny.y 3 (by kernel_rfl) (yl_pure (d := some 26) (v := .slice A6 t5.length c8) (k2 := [.inRegion (opsOf (pl Go.Proofs.Try.f18 [1, 1, 1, 1, 0])) []]) fun w => by kernel_rfl) (fun _ _ => trivial) hS ?_
      rcases two (decide (1 < (t5.length : Int))) with c15 | c15
      · replace h := of_true h c15
        obtain ⟨q14, hAq14, hcq14, hfq14, hlq14⟩ := hM.num_at 0 rfl (i := 1) (by omega) (by have h_ := of_decide_eq_true c15; omega)
        refine RunAny.y 4 (by kernel_rfl) (idx_own (d := some 27) (A := A6) (m := t5.length) (i := 1) (k2 := [.inRegion (opsOf (pl Go.Proofs.Try.f18 [1, 1, 1, 1, 0])) []]) (by kernel_rfl) (by omega) (by have h_ := of_decide_eq_true c15; omega) hAq14) (fun _ _ => trivial) hS ?_
        refine RunAny.y 5 (by kernel_rfl) (ld_y (d := some 28) (p := ⟨q14, (1 : Int).toNat, none⟩) (k2 := [.inRegion (opsOf (pl Go.Proofs.Try.f18 [1, 1, 1, 1, 0])) []]) (.int .u32 (rd t5 1)) (by kernel_rfl)) (fun _ hs => hs.cell hcq14 (by simp)) hS ?_
        refine RunAny.y 6 (by kernel_rfl) (yl_pure (d := some 10) (v := .int .u32 (rd t5 0)) (k2 := [.inRegion (opsOf (pl Go.Proofs.Try.f18 [1, 1, 1, 1, 0])) []]) fun w => by kernel_rfl) (fun _ _ => trivial) hS ?_
        refine RunAny.y 7 (by kernel_rfl) (yl_pure (d := some 11) (v := .int .u32 (rd t5 1)) (k2 := [.inRegion (opsOf (pl Go.Proofs.Try.f18 [1, 1, 1, 1, 0])) []]) fun w => by kernel_rfl) (fun _ _ => trivial) hS ?_
        refine RunAny.done (by kernel_rfl) ?_
        clear hS
        refine RunF.go 6 [0, 2, 8, 10, 11, 31] (k' := (pin Go.Proofs.Try.f18 [1, 1, 1, 1, 1, 0, 0] 3)) (L' := [(0, .pointer (some ⟨gp0, 0, none⟩)), (2, .bool a2), (8, .bool (a0.2 == 8)), (10, .int .u32 (rd t5 0)), (11, .int .u32 (rd t5 1)), (31, .pointer (some ⟨gp0, 1, none⟩))]) (w' := W10) (by kernel_rfl) ?_
        refine RunF.y (ld_y (d := some 32) (p := ⟨gp0, 1, none⟩) (k2 := (pin Go.Proofs.Try.f18 [1, 1, 1, 1, 1, 0, 0] 4)) (.int .i64 a0.2) (by kernel_rfl)) (hco1 _ (hZp0 _ hM.kept) 1 _ rfl) ?_
        refine RunF.go 7 [0, 2, 8, 10, 11, 32, 33] (k' := (pl Go.Proofs.Try.f18 [1, 1, 1, 1, 1, 0, 1, 0, 1])) (L' := [(0, .pointer (some ⟨gp0, 0, none⟩)), (2, .bool a2), (8, .bool (a0.2 == 8)), (10, .int .u32 (rd t5 0)), (11, .int .u32 (rd t5 1)), (32, .int .i64 a0.2), (33, .bool (a0.2 == 4))]) (w' := W10) (by kernel_rfl) ?_
        rcases two ((a0.2 == 4)) with c16 | c16
        · replace h := of_true h c16
          refine RunF.know 33 (b := true) (by kernel_rfl) c16 ?_
          refine RunF.go 6 [8, 36, 37, 38, 39] (k' := (pin Go.Proofs.Try.f18 [1, 1, 1, 1, 1, 0, 1, 0, 1, 0] 4)) (L' := [(8, .bool (a0.2 == 8)), (36, .pointer (some ⟨gp0, 0, none⟩)), (37, .int .u32 (rd t5 0)), (38, .int .u32 (rd t5 1)), (39, .bool a2)]) (w' := W10) (by kernel_rfl) ?_
          obtain ⟨t18, ht18, h⟩ := Option.bind_eq_some_iff.mp h
          refine RunF.call (d := some 40) (g := 30) (args := #[.pointer (some ⟨gp0, 0, none⟩), .int .u32 (rd t5 0), .int .u32 (rd t5 1), .bool a2]) (k2 := (pin Go.Proofs.Try.f18 [1, 1, 1, 1, 1, 0, 1, 0, 1, 0] 5)) (by kernel_rfl) (small_Small_xtea.calls k (.pointer (some ⟨gp0, 0, none⟩)) Zp0 a0 (rd t5 0) (rd t5 1) a2 t18 _ hp0 (fun _ hb_ => (hZp0 _ (hM.kept.trans hb_))) ht18) ?_
          rintro _ W17 ⟨rfl, hM_⟩
          replace hM := hM.call hM_
          clear hM_ ht18
          refine RunF.go 12 [63, 64, 65] (k' := (pin Go.Proofs.Try.f18 [1, 1, 1, 1, 1, 1, 0] 3)) (L' := [(63, .int .u32 t18.1), (64, .int .u32 t18.2), (65, .bool (a0.2 == 8))]) (w' := W17) (by kernel_rfl) ?_
          obtain ⟨t20, ht20, h⟩ := Option.bind_eq_some_iff.mp h
          refine RunF.call (d := some 66) (g := 33) (args := #[.int .u32 t18.1, .int .u32 t18.2, .bool (a0.2 == 8)]) (k2 := (pin Go.Proofs.Try.f18 [1, 1, 1, 1, 1, 1, 0] 4)) (by kernel_rfl) (small_stored.calls k t18.1 t18.2 (a0.2 == 8) t20 _ ht20) ?_
          rintro _ W19 ⟨A21, n22, c23, rfl, hM_⟩
          obtain rfl : t20.length = n22 := by have h_ := (hM_.rd 0 rfl).1; simpa [nums_length, bools_length, strs_length] using h_
          replace hM := hM.call hM_
          clear hM_ ht20
          refine RunF.go 3 [6, 7] (k' := (pl Go.Proofs.Try.f18 [1, 1, 1, 1, 1, 1, 1])) (L' := [(6, .slice A21 t20.length c23), (7, .int .i64 0)]) (w' := W19) (by kernel_rfl) ?_
          obtain rfl := Option.some.inj h
          exact RunF.ret2 6 7 (.slice A21 t20.length c23) (.int .i64 0) (fn := Go.Proofs.Try.f18) Go.Proofs.Try.func18 (by kernel_rfl) (by kernel_rfl) (by kernel_rfl) (by kernel_rfl) ⟨_, rfl, A21, t20.length, c23, rfl, (hM.pick [0] rfl rfl)⟩
        · replace h := of_false h c16
          refine RunF.know 33 (b := false) (by kernel_rfl) c16 ?_
          refine RunF.go 6 [0, 2, 8, 10, 11, 32, 43] (k' := (pl Go.Proofs.Try.f18 [1, 1, 1, 1, 1, 0, 1, 0, 1, 1, 1])) (L' := [(0, .pointer (some ⟨gp0, 0, none⟩)), (2, .bool a2), (8, .bool (a0.2 == 8)), (10, .int .u32 (rd t5 0)), (11, .int .u32 (rd t5 1)), (32, .int .i64 a0.2), (43, .bool (a0.2 == 5))]) (w' := W10) (by kernel_rfl) ?_
          rcases two ((a0.2 == 5)) with c25 | c25
          · replace h := of_true h c25
            refine RunF.know 43 (b := true) (by kernel_rfl) c25 ?_
            refine RunF.go 6 [8, 46, 47, 48, 49] (k' := (pin Go.Proofs.Try.f18 [1, 1, 1, 1, 1, 0, 1, 0, 1, 1, 1, 0] 4)) (L' := [(8, .bool (a0.2 == 8)), (46, .pointer (some ⟨gp0, 0, none⟩)), (47, .int .u32 (rd t5 0)), (48, .int .u32 (rd t5 1)), (49, .bool a2)]) (w' := W10) (by kernel_rfl) ?_
            obtain ⟨t27, ht27, h⟩ := Option.bind_eq_some_iff.mp h
            refine RunF.call (d := some 50) (g := 31) (args := #[.pointer (some ⟨gp0, 0, none⟩), .int .u32 (rd t5 0), .int .u32 (rd t5 1), .bool a2]) (k2 := (pin Go.Proofs.Try.f18 [1, 1, 1, 1, 1, 0, 1, 0, 1, 1, 1, 0] 5)) (by kernel_rfl) (small_Small_magma.calls k (.pointer (some ⟨gp0, 0, none⟩)) Zp0 a0 (rd t5 0) (rd t5 1) a2 t27 _ hp0 (fun _ hb_ => (hZp0 _ (hM.kept.trans hb_))) ht27) ?_
            rintro _ W26 ⟨rfl, hM_⟩
            replace hM := hM.call hM_
            clear hM_ ht27
            refine RunF.go 12 [63, 64, 65] (k' := (pin Go.Proofs.Try.f18 [1, 1, 1, 1, 1, 1, 0] 3)) (L' := [(63, .int .u32 t27.1), (64, .int .u32 t27.2), (65, .bool (a0.2 == 8))]) (w' := W26) (by kernel_rfl) ?_
            obtain ⟨t29, ht29, h⟩ := Option.bind_eq_some_iff.mp h
            refine RunF.call (d := some 66) (g := 33) (args := #[.int .u32 t27.1, .int .u32 t27.2, .bool (a0.2 == 8)]) (k2 := (pin Go.Proofs.Try.f18 [1, 1, 1, 1, 1, 1, 0] 4)) (by kernel_rfl) (small_stored.calls k t27.1 t27.2 (a0.2 == 8) t29 _ ht29) ?_
            rintro _ W28 ⟨A30, n31, c32, rfl, hM_⟩
            obtain rfl : t29.length = n31 := by have h_ := (hM_.rd 0 rfl).1; simpa [nums_length, bools_length, strs_length] using h_
            replace hM := hM.call hM_
            clear hM_ ht29
            refine RunF.go 3 [6, 7] (k' := (pl Go.Proofs.Try.f18 [1, 1, 1, 1, 1, 1, 1])) (L' := [(6, .slice A30 t29.length c32), (7, .int .i64 0)]) (w' := W28) (by kernel_rfl) ?_
            obtain rfl := Option.some.inj h
            exact RunF.ret2 6 7 (.slice A30 t29.length c32) (.int .i64 0) (fn := Go.Proofs.Try.f18) Go.Proofs.Try.func18 (by kernel_rfl) (by kernel_rfl) (by kernel_rfl) (by kernel_rfl) ⟨_, rfl, A30, t29.length, c32, rfl, (hM.pick [0] rfl rfl)⟩
          · replace h := of_false h c25
            refine RunF.know 43 (b := false) (by kernel_rfl) c25 ?_
            refine RunF.go 6 [0, 2, 8, 10, 11, 53] (k' := (pl Go.Proofs.Try.f18 [1, 1, 1, 1, 1, 0, 1, 0, 1, 1, 1, 1, 1])) (L' := [(0, .pointer (some ⟨gp0, 0, none⟩)), (2, .bool a2), (8, .bool (a0.2 == 8)), (10, .int .u32 (rd t5 0)), (11, .int .u32 (rd t5 1)), (53, .bool (a0.2 == 8))]) (w' := W10) (by kernel_rfl) ?_
            rcases two ((a0.2 == 8)) with c34 | c34
            · replace h := of_true h c34
              refine RunF.know 53 (b := true) (by kernel_rfl) c34 ?_
              refine RunF.go 6 [8, 56, 57, 58, 59] (k' := (pin Go.Proofs.Try.f18 [1, 1, 1, 1, 1, 0, 1, 0, 1, 1, 1, 1, 1, 0] 4)) (L' := [(8, .bool (a0.2 == 8)), (56, .pointer (some ⟨gp0, 0, none⟩)), (57, .int .u32 (rd t5 0)), (58, .int .u32 (rd t5 1)), (59, .bool a2)]) (w' := W10) (by kernel_rfl) ?_
              obtain ⟨t36, ht36, h⟩ := Option.bind_eq_some_iff.mp h
              refine RunF.call (d := some 60) (g := 32) (args := #[.pointer (some ⟨gp0, 0, none⟩), .int .u32 (rd t5 0), .int .u32 (rd t5 1), .bool a2]) (k2 := (pin Go.Proofs.Try.f18 [1, 1, 1, 1, 1, 0, 1, 0, 1, 1, 1, 1, 1, 0] 5)) (by kernel_rfl) (small_Small_rc5.calls k (.pointer (some ⟨gp0, 0, none⟩)) Zp0 a0 (rd t5 0) (rd t5 1) a2 t36 _ hp0 (fun _ hb_ => (hZp0 _ (hM.kept.trans hb_))) ht36) ?_
              rintro _ W35 ⟨rfl, hM_⟩
              replace hM := hM.call hM_
              clear hM_ ht36
              refine RunF.go 12 [63, 64, 65] (k' := (pin Go.Proofs.Try.f18 [1, 1, 1, 1, 1, 1, 0] 3)) (L' := [(63, .int .u32 t36.1), (64, .int .u32 t36.2), (65, .bool (a0.2 == 8))]) (w' := W35) (by kernel_rfl) ?_
              obtain ⟨t38, ht38, h⟩ := Option.bind_eq_some_iff.mp h
              refine RunF.call (d := some 66) (g := 33) (args := #[.int .u32 t36.1, .int .u32 t36.2, .bool (a0.2 == 8)]) (k2 := (pin Go.Proofs.Try.f18 [1, 1, 1, 1, 1, 1, 0] 4)) (by kernel_rfl) (small_stored.calls k t36.1 t36.2 (a0.2 == 8) t38 _ ht38) ?_
              rintro _ W37 ⟨A39, n40, c41, rfl, hM_⟩
              obtain rfl : t38.length = n40 := by have h_ := (hM_.rd 0 rfl).1; simpa [nums_length, bools_length, strs_length] using h_
              replace hM := hM.call hM_
              clear hM_ ht38
              refine RunF.go 3 [6, 7] (k' := (pl Go.Proofs.Try.f18 [1, 1, 1, 1, 1, 1, 1])) (L' := [(6, .slice A39 t38.length c41), (7, .int .i64 0)]) (w' := W37) (by kernel_rfl) ?_
              obtain rfl := Option.some.inj h
              exact RunF.ret2 6 7 (.slice A39 t38.length c41) (.int .i64 0) (fn := Go.Proofs.Try.f18) Go.Proofs.Try.func18 (by kernel_rfl) (by kernel_rfl) (by kernel_rfl) (by kernel_rfl) ⟨_, rfl, A39, t38.length, c41, rfl, (hM.pick [0] rfl rfl)⟩
            · replace h := of_false h c34
              refine RunF.know 53 (b := false) (by kernel_rfl) c34 ?_
              refine RunF.go 8 [63, 64, 65] (k' := (pin Go.Proofs.Try.f18 [1, 1, 1, 1, 1, 1, 0] 3)) (L' := [(63, .int .u32 (rd t5 0)), (64, .int .u32 (rd t5 1)), (65, .bool (a0.2 == 8))]) (w' := W10) (by kernel_rfl) ?_
              obtain ⟨t44, ht44, h⟩ := Option.bind_eq_some_iff.mp h
              refine RunF.call (d := some 66) (g := 33) (args := #[.int .u32 (rd t5 0), .int .u32 (rd t5 1), .bool (a0.2 == 8)]) (k2 := (pin Go.Proofs.Try.f18 [1, 1, 1, 1, 1, 1, 0] 4)) (by kernel_rfl) (small_stored.calls k (rd t5 0) (rd t5 1) (a0.2 == 8) t44 _ ht44) ?_
              rintro _ W43 ⟨A45, n46, c47, rfl, hM_⟩
              obtain rfl : t44.length = n46 := by have h_ := (hM_.rd 0 rfl).1; simpa [nums_length, bools_length, strs_length] using h_
              replace hM := hM.call hM_
              clear hM_ ht44
              refine RunF.go 3 [6, 7] (k' := (pl Go.Proofs.Try.f18 [1, 1, 1, 1, 1, 1, 1])) (L' := [(6, .slice A45 t44.length c47), (7, .int .i64 0)]) (w' := W43) (by kernel_rfl) ?_
              obtain rfl := Option.some.inj h
              exact RunF.ret2 6 7 (.slice A45 t44.length c47) (.int .i64 0) (fn := Go.Proofs.Try.f18) Go.Proofs.Try.func18 (by kernel_rfl) (by kernel_rfl) (by kernel_rfl) (by kernel_rfl) ⟨_, rfl, A45, t44.length, c47, rfl, (hM.pick [0] rfl rfl)⟩
      · replace h := of_false h c15
        cases h
    · replace h := of_false h c13
      cases h

/-! ### scrim/scrimlaw8.known: function 12 -/
def scrimlaw8_known.l0 : Nat → (Option ((List Int) × Int) × Int) → Int → Option (Bool)
  | 0, _, _ => none
  | k + 1, t2, x3_0 => if (decide (x3_0 < 3)) = true then ((scrimlaw8_tags.f k).bind fun t7 => (if (decide (0 ≤ x3_0)) = true then (if (decide (x3_0 < (t7.length : Int))) = true then ((scrimlaw8_size.f k x3_0).bind fun t16 => (if (decide (0 ≤ t16)) = true then (if (decide (t16 ≤ 1000000000)) = true then ((small_New.f k (rd t7 x3_0) (List.replicate ((t16 : Int).toNat) (0 : Int))).bind fun t23 => (if (t23.2 != 0) = true then (some false) else (if t23.1.isSome = true then ((t23.1).bind fun s26 => ((small_Small_Block.f k s26 (List.replicate 8 (0 : Int)) false).bind fun t33 => ((small_Small_Block.f k s26 t33.1 true).bind fun t39 => (if ((t33.1.length : Int) != 8) = true then (some false) else (if ((strOf t33.1).toList == (strOf t39.1).toList) = true then (some false) else ((some (((strOf t33.1).toList == (strOf t39.1).toList) : Bool)).bind fun y51 => ((some (!((strOf t39.1).toList == (strOf (List.replicate 8 (0 : Int))).toList) : Bool)).bind fun y52 => (if y52 = true then (some false) else (scrimlaw8_known.l0 k t2 (I64 (x3_0 + 1))))))))))) else (some false)))) else (none)) else (none))) else (none)) else (none))) else (some (t2.2 == 2))
def scrimlaw8_known.f (k : Nat)  : Option (Bool) := (small_New.f k 0 ([] : List Int)).bind fun t2 => (scrimlaw8_known.l0 k t2 0)
set_option maxRecDepth 100000 in
set_option maxHeartbeats 8000000 in
theorem scrimlaw8_known.calls (k : Nat)  (r : Bool) (w : World) (h : scrimlaw8_known.f k = some r) :
    Calls Go.Proofs.Try.prog 12 #[] w (Ret fun v w' => v = .bool r ∧ Mem w w' []) := by
  unfold scrimlaw8_known.f at h
  refine calls_of [] (fn := Go.Proofs.Try.f12) Go.Proofs.Try.func12 (by kernel_rfl) (by kernel_rfl) ?_
  have hM := Mem.refl w
  refine RunF.go 6 [] (k' := (pin Go.Proofs.Try.f12 [1, 0] 0)) (L' := []) (w' := w) (by kernel_rfl) ?_
  obtain ⟨t2, ht2, h⟩ := Option.bind_eq_some_iff.mp h
  refine RunF.call (d := some 11) (g := 14) (args := #[.int .i64 0, .slice none 0 0]) (k2 := (pin Go.Proofs.Try.f12 [1, 0] 1)) (by kernel_rfl) (small_New.calls k 0 none 0 0 ([] : List Int) t2 _ (Rd.nil _ .u8) ht2) ?_
  rintro _ W1 ⟨vt2_0, Ft2_0, rfl, hRt2_0, hM_⟩
  replace hM : Mem w W1 (Gs [] [Ft2_0]) := (Mem.callG (hM.as (H' := Gs [] []) rfl) hM_).as rfl
  clear hM_ ht2
  refine RunF.go 13 [2, 3] (k' := (pl Go.Proofs.Try.f12 [1, 1, 0, 1, 0, 0])) (L' := [(2, .int .i64 t2.2), (3, .int .i64 0)]) (w' := W1) (by kernel_rfl) ?_
  have l0 : ∀ (k_ : Nat), k_ ≤ k → ∀ (x3_0 : Int) (W : World) (hM : Mem w W (Gs [] [Ft2_0])) (h : scrimlaw8_known.l0 k_ t2 x3_0 = some r), RunF Go.Proofs.Try.prog (Ret fun v w' => v = .bool r ∧ Mem w w' []) 12 (pl Go.Proofs.Try.f12 [1, 1, 0, 1, 0, 0]) 66 [(2, .int .i64 t2.2), (3, .int .i64 x3_0)] W := by
    intro k_
    induction k_ using Nat.strongRecOn with
    | _ k_ ih0 =>
      intro hk x3_0 W hM h
      cases k_ with
      | zero => exact absurd h (by simp [scrimlaw8_known.l0])
      | succ k =>
        simp only [scrimlaw8_known.l0] at h
        replace ih0 : ∀ m, m ≤ k → _ := fun m hm => ih0 m (by omega) (by omega)
        refine RunF.go 6 [2, 3, 15] (k' := (pl Go.Proofs.Try.f12 [1, 1, 0, 1, 0, 0, 0, 1])) (L' := [(2, .int .i64 t2.2), (3, .int .i64 x3_0), (15, .bool (decide (x3_0 < 3)))]) (w' := W) (by kernel_rfl) ?_
        rcases two (decide (x3_0 < 3)) with c3 | c3
        · replace h := of_true h c3
          refine RunF.know 15 (b := true) (by kernel_rfl) c3 ?_
          refine RunF.go 5 [2, 3] (k' := (pl Go.Proofs.Try.f12 [1, 1, 0, 1, 0, 0, 1, 0, 0, 0])) (L' := [(2, .int .i64 t2.2), (3, .int .i64 x3_0)]) (w' := W) (by kernel_rfl) ?_
          refine RunF.draw (Still ({ W with drawn := W.drawn + 1 } : World) []) (by kernel_rfl) (by kernel_rfl) ?_
          have hMd5 := hM.drew
          have hS := Still.refl ({ W with drawn := W.drawn + 1 } : World) []
          generalize ({ W with drawn := W.drawn + 1 } : World) = W4 at hMd5 hS ⊢
          replace hM := hMd5
          refine RunAny.y 1 (by kernel_rfl) (yl_pure (d := some 20) (v := .int .i64 x3_0) (k2 := [.inRegion (opsOf (pl Go.Proofs.Try.f12 [1, 1, 0, 1, 0, 0, 1, 0, 0, 0])) []]) fun w => by kernel_rfl) (fun _ _ => trivial) hS ?_
          refine RunAny.y 4 (by kernel_rfl) (yl_pure (d := some 23) (v := .int .i64 x3_0) (k2 := [.inRegion (opsOf (pl Go.Proofs.Try.f12 [1, 1, 0, 1, 0, 0, 1, 0, 0, 0])) []]) fun w => by kernel_rfl) (fun _ _ => trivial) hS ?_
          obtain ⟨t7, ht7, h⟩ := Option.bind_eq_some_iff.mp h
          refine RunAny.call 0 (d := some 19) (g := 15) (args := #[]) (by kernel_rfl) (by kernel_rfl) (scrimlaw8_tags.calls k t7 _ ht7) (by rintro _ _ ⟨_, _, _, rfl, hM_⟩; exact hS.below hM_.below) ?_
          rintro _ W6 ⟨A8, n9, c10, rfl, hM_⟩
          obtain rfl : t7.length = n9 := by have h_ := (hM_.rd 0 rfl).1; simpa [nums_length, bools_length, strs_length] using h_
          replace hS := hS.below hM_.below
          replace hM : Mem w W6 (Gs [⟨.slice A8 t7.length c10, 3, 1, nums .i64 t7⟩] [Ft2_0]) := (Mem.callG (hM.as (H' := Gs [] [Ft2_0]) rfl) hM_.grp).as rfl
          clear hM_ ht7
          refine RunAny.rebase hS ?_
          replace hS := Still.refl W6 []
          rcases two (decide (0 ≤ x3_0)) with c13 | c13
          · replace h := of_true h c13
            rcases two (decide (x3_0 < (t7.length : Int))) with c14 | c14
            · replace h := of_true h c14
              obtain ⟨q12, hAq12, hcq12, hfq12, hlq12⟩ := hM.num_at 0 rfl (i := x3_0) (of_decide_eq_true c13) (by have h_ := of_decide_eq_true c14; omega)
              refine RunAny.y 2 (by kernel_rfl) (idx_own (d := some 21) (A := A8) (m := t7.length) (i := x3_0) (k2 := [.inRegion (opsOf (pl Go.Proofs.Try.f12 [1, 1, 0, 1, 0, 0, 1, 0, 0, 0])) []]) (by kernel_rfl) (of_decide_eq_true c13) (by have h_ := of_decide_eq_true c14; omega) hAq12) (fun _ _ => trivial) hS ?_
              refine RunAny.y 3 (by kernel_rfl) (ld_y (d := some 22) (p := ⟨q12, (x3_0 : Int).toNat, none⟩) (k2 := [.inRegion (opsOf (pl Go.Proofs.Try.f12 [1, 1, 0, 1, 0, 0, 1, 0, 0, 0])) []]) (.int .i64 (rd t7 x3_0)) (by kernel_rfl)) (fun _ hs => hs.cell hcq12 (by simp)) hS ?_
              obtain ⟨t16, ht16, h⟩ := Option.bind_eq_some_iff.mp h
              refine RunAny.call 5 (d := some 24) (g := 16) (args := #[.int .i64 x3_0]) (by kernel_rfl) (by kernel_rfl) (scrimlaw8_size.calls k x3_0 t16 _ ht16) (by rintro _ _ ⟨rfl, hM_⟩; exact hS.below hM_.below) ?_
              rintro _ W15 ⟨rfl, hM_⟩
              replace hS := hS.below hM_.below
              replace hM : Mem w W15 (Gs [⟨.slice A8 t7.length c10, 3, 1, nums .i64 t7⟩] [Ft2_0]) := (Mem.callG (hM.as (H' := Gs [⟨.slice A8 t7.length c10, 3, 1, nums .i64 t7⟩] [Ft2_0]) rfl) hM_.grp).as rfl
              clear hM_ ht16
              refine RunAny.rebase hS ?_
              replace hS := Still.refl W15 []
              rcases two (decide (0 ≤ t16)) with c19 | c19
              · replace h := of_true h c19
                rcases two (decide (t16 ≤ 1000000000)) with c20 | c20
                · replace h := of_true h c20
                  have := of_decide_eq_true c19
                  have := of_decide_eq_true c20
                  obtain ⟨W17, hD, hM', hB_⟩ := mk_does (P := Go.Proofs.Try.prog) (n := 66) (k := (one (opsOf (pl Go.Proofs.Try.f12 [1, 1, 0, 1, 0, 0, 1, 0, 0, 0])) 6)) (L := (upd (upd (upd (upd (upd (upd [(2, .int .i64 t2.2), (3, .int .i64 x3_0)] (some 20) (.int .i64 x3_0)) (some 23) (.int .i64 x3_0)) (some 19) (.slice A8 t7.length c10)) (some 21) (.pointer (some ⟨q12, (x3_0 : Int).toNat, none⟩))) (some 22) (.int .i64 (rd t7 x3_0))) (some 24) (.int .i64 t16))) (d := some 25) (e := 5) (z := .int .u8 0) (l := t16) (c := t16) (k2 := [.inRegion (opsOf (pl Go.Proofs.Try.f12 [1, 1, 0, 1, 0, 0, 1, 0, 0, 0])) []]) (by kernel_rfl) (by omega) (by omega) (by omega) hM
                  rw [rep_nums] at hM'
                  refine RunAny.does 6 (by kernel_rfl) hD (hS.below hB_) ?_
                  replace hS := hS.below hB_; clear hB_
                  replace hM := hM'; clear hD hM'
                  generalize W15.heap.size = g18 at hM ⊢
                  refine RunAny.rebase hS ?_
                  replace hS := Still.refl W17 []
                  obtain ⟨t23, ht23, h⟩ := Option.bind_eq_some_iff.mp h
                  refine RunAny.call 7 (d := some 26) (g := 14) (args := #[.int .i64 (rd t7 x3_0), .slice (some ⟨g18, 0, none⟩) ((t16 : Int).toNat) ((t16 : Int).toNat)]) (by kernel_rfl) (by kernel_rfl) (small_New.calls k (rd t7 x3_0) (some ⟨g18, 0, none⟩) ((t16 : Int).toNat) ((t16 : Int).toNat) (List.replicate ((t16 : Int).toNat) (0 : Int)) t23 _ (hM.rd 0 rfl) ht23) (by rintro _ _ ⟨_, _, rfl, _, hM_⟩; exact hS.below hM_.below) ?_
                  rintro _ W22 ⟨vt23_0, Ft23_0, rfl, hRt23_0, hM_⟩
                  replace hS := hS.below hM_.below
                  replace hM : Mem w W22 (Gs [⟨.slice (some ⟨g18, 0, none⟩) ((t16 : Int).toNat) ((t16 : Int).toNat), 5, 1, nums .u8 (List.replicate ((t16 : Int).toNat) (0 : Int))⟩, ⟨.slice A8 t7.length c10, 3, 1, nums .i64 t7⟩] [Ft23_0, Ft2_0]) := (Mem.callG (hM.as (H' := Gs [⟨.slice (some ⟨g18, 0, none⟩) ((t16 : Int).toNat) ((t16 : Int).toNat), 5, 1, nums .u8 (List.replicate ((t16 : Int).toNat) (0 : Int))⟩, ⟨.slice A8 t7.length c10, 3, 1, nums .i64 t7⟩] [Ft2_0]) rfl) hM_).as rfl
                  clear hM_ ht23
                  refine RunAny.rebase hS ?_
                  replace hS := Still.refl W22 []
                  refine RunAny.y 8 (by kernel_rfl) (yl_pure (d := some 18) (v := .tuple #[vt23_0, .int .i64 t23.2]) (k2 := [.inRegion (opsOf (pl Go.Proofs.Try.f12 [1, 1, 0, 1, 0, 0, 1, 0, 0, 0])) []]) fun w => by kernel_rfl) (fun _ _ => trivial) hS ?_
                  refine RunAny.y 9 (by kernel_rfl) (yl_pure (d := some 27) (v := vt23_0) (k2 := [.inRegion (opsOf (pl Go.Proofs.Try.f12 [1, 1, 0, 1, 0, 0, 1, 0, 0, 0])) []]) fun w => by kernel_rfl) (fun _ _ => trivial) hS ?_
                  refine RunAny.y 10 (by kernel_rfl) (yl_pure (d := some 28) (v := .int .i64 t23.2) (k2 := [.inRegion (opsOf (pl Go.Proofs.Try.f12 [1, 1, 0, 1, 0, 0, 1, 0, 0, 0])) []]) fun w => by kernel_rfl) (fun _ _ => trivial) hS ?_
                  refine RunAny.y 11 (by kernel_rfl) (yl_pure (d := some 4) (v := vt23_0) (k2 := [.inRegion (opsOf (pl Go.Proofs.Try.f12 [1, 1, 0, 1, 0, 0, 1, 0, 0, 0])) []]) fun w => by kernel_rfl) (fun _ _ => trivial) hS ?_
                  refine RunAny.y 12 (by kernel_rfl) (yl_pure (d := some 5) (v := .int .i64 t23.2) (k2 := [.inRegion (opsOf (pl Go.Proofs.Try.f12 [1, 1, 0, 1, 0, 0, 1, 0, 0, 0])) []]) fun w => by kernel_rfl) (fun _ _ => trivial) hS ?_
                  refine RunAny.done (by kernel_rfl) ?_
                  clear hS
                  refine RunF.go 6 [2, 3, 4, 31] (k' := (pin Go.Proofs.Try.f12 [1, 1, 0, 1, 0, 0, 1, 0, 0, 1, 0, 0] 3)) (L' := [(2, .int .i64 t2.2), (3, .int .i64 x3_0), (4, vt23_0), (31, .bool (t23.2 != 0))]) (w' := W22) (by kernel_rfl) ?_
                  rcases two ((t23.2 != 0)) with c24 | c24
                  · replace h := of_true h c24
                    refine RunF.know 31 (b := true) (by kernel_rfl) c24 ?_
                    refine RunF.go 9 [0] (k' := (pl Go.Proofs.Try.f12 [1, 1, 0, 1, 0, 0, 1, 0, 0, 1, 0, 1, 0, 1])) (L' := [(0, .bool false)]) (w' := W22) (by kernel_rfl) ?_
                    obtain rfl := Option.some.inj h
                    exact RunF.ret1 0 (.bool false) (fn := Go.Proofs.Try.f12) Go.Proofs.Try.func12 (by kernel_rfl) (by kernel_rfl) (by kernel_rfl) ⟨_, rfl, rfl, (Mem.pickF (hM.as (H' := Gs [⟨.slice (some ⟨g18, 0, none⟩) ((t16 : Int).toNat) ((t16 : Int).toNat), 5, 1, nums .u8 (List.replicate ((t16 : Int).toNat) (0 : Int))⟩, ⟨.slice A8 t7.length c10, 3, 1, nums .i64 t7⟩] [Ft23_0, Ft2_0]) rfl) [] rfl rfl rfl).ungrp⟩
                  · replace h := of_false h c24
                    refine RunF.know 31 (b := false) (by kernel_rfl) c24 ?_
                    refine RunF.go 1 [2, 3, 4, 31, 32] (k' := (pin Go.Proofs.Try.f12 [1, 1, 0, 1, 0, 0, 1, 0, 0, 1, 0, 0] 4)) (L' := [(2, .int .i64 t2.2), (3, .int .i64 x3_0), (4, vt23_0), (31, .bool false), (32, vt23_0)]) (w' := W22) (by kernel_rfl) ?_
                    rcases two (t23.1.isSome) with c25 | c25
                    · replace h := of_true h c25
                      obtain ⟨s26, hx_, h⟩ := Option.bind_eq_some_iff.mp h
                      have hps26 := rOpt.some hRt23_0 hx_
                      obtain ⟨g27, _, rfl, hco28, _, _, rfl, ⟨Ao28_0, co28_0, rfl, ho28_0⟩, rfl⟩ := id hps26
                      refine RunF.go 8 [2, 3, 4, 36] (k' := (pin Go.Proofs.Try.f12 [1, 1, 0, 1, 0, 0, 1, 0, 0, 1, 1, 0] 1)) (L' := [(2, .int .i64 t2.2), (3, .int .i64 x3_0), (4, .pointer (some ⟨g27, 0, none⟩)), (36, .pointer (some ⟨g27, 0, none⟩))]) (w' := W22) (by kernel_rfl) ?_
                      obtain ⟨W29, hD, hM', hB_⟩ := mk_does (P := Go.Proofs.Try.prog) (n := 66) (k := (pin Go.Proofs.Try.f12 [1, 1, 0, 1, 0, 0, 1, 0, 0, 1, 1, 0] 1)) (L := [(2, .int .i64 t2.2), (3, .int .i64 x3_0), (4, .pointer (some ⟨g27, 0, none⟩)), (36, .pointer (some ⟨g27, 0, none⟩))]) (d := some 37) (e := 5) (z := .int .u8 0) (l := 8) (c := 8) (k2 := (pin Go.Proofs.Try.f12 [1, 1, 0, 1, 0, 0, 1, 0, 0, 1, 1, 0] 2)) (by kernel_rfl) (by omega) (by omega) (by omega) hM
                      rw [rep_nums] at hM'
                      refine RunF.does hD ?_
                      replace hM := hM'; clear hD hM'
                      generalize W22.heap.size = g30 at hM ⊢
                      obtain ⟨t33, ht33, h⟩ := Option.bind_eq_some_iff.mp h
                      refine RunF.call (d := some 38) (g := 18) (args := #[.pointer (some ⟨g27, 0, none⟩), .slice (some ⟨g30, 0, none⟩) 8 8, .bool false]) (k2 := (pin Go.Proofs.Try.f12 [1, 1, 0, 1, 0, 0, 1, 0, 0, 1, 1, 0] 3)) (by kernel_rfl) (small_Small_Block.calls k (.pointer (some ⟨g27, 0, none⟩)) (Oks Ft23_0) s26 (some ⟨g30, 0, none⟩) 8 8 (List.replicate 8 (0 : Int)) false t33 _ (hM.rd 0 rfl) hps26 (fun _ hb_ => ((Mem.oks (hM.as (H' := Gs [⟨.slice (some ⟨g30, 0, none⟩) 8 8, 5, 1, nums .u8 (List.replicate 8 (0 : Int))⟩, ⟨.slice (some ⟨g18, 0, none⟩) ((t16 : Int).toNat) ((t16 : Int).toNat), 5, 1, nums .u8 (List.replicate ((t16 : Int).toNat) (0 : Int))⟩, ⟨.slice A8 t7.length c10, 3, 1, nums .i64 t7⟩] [Ft23_0, Ft2_0]) rfl) 0 rfl).kept hb_)) ht33) ?_
                      rintro _ W32 ⟨A34, n35, c36, rfl, hM_⟩
                      obtain rfl : t33.1.length = n35 := by have h_ := (hM_.rd 0 rfl).1; simpa [nums_length, bools_length, strs_length] using h_
                      replace hM : Mem w W32 (Gs [⟨.slice A34 t33.1.length c36, 5, 1, nums .u8 t33.1⟩, ⟨.slice (some ⟨g30, 0, none⟩) 8 8, 5, 1, nums .u8 (List.replicate 8 (0 : Int))⟩, ⟨.slice (some ⟨g18, 0, none⟩) ((t16 : Int).toNat) ((t16 : Int).toNat), 5, 1, nums .u8 (List.replicate ((t16 : Int).toNat) (0 : Int))⟩, ⟨.slice A8 t7.length c10, 3, 1, nums .i64 t7⟩] [Ft23_0, Ft2_0]) := (Mem.callG (hM.as (H' := Gs [⟨.slice (some ⟨g30, 0, none⟩) 8 8, 5, 1, nums .u8 (List.replicate 8 (0 : Int))⟩, ⟨.slice (some ⟨g18, 0, none⟩) ((t16 : Int).toNat) ((t16 : Int).toNat), 5, 1, nums .u8 (List.replicate ((t16 : Int).toNat) (0 : Int))⟩, ⟨.slice A8 t7.length c10, 3, 1, nums .i64 t7⟩] [Ft23_0, Ft2_0]) rfl) hM_.grp).as rfl
                      clear hM_ ht33
                      refine RunF.go 10 [2, 3, 6, 42, 43] (k' := (pin Go.Proofs.Try.f12 [1, 1, 0, 1, 0, 0, 1, 0, 0, 1, 1, 1, 0] 2)) (L' := [(2, .int .i64 t2.2), (3, .int .i64 x3_0), (6, .slice A34 t33.1.length c36), (42, .pointer (some ⟨g27, 0, none⟩)), (43, .slice A34 t33.1.length c36)]) (w' := W32) (by kernel_rfl) ?_
                      obtain ⟨t39, ht39, h⟩ := Option.bind_eq_some_iff.mp h
                      refine RunF.call (d := some 44) (g := 18) (args := #[.pointer (some ⟨g27, 0, none⟩), .slice A34 t33.1.length c36, .bool true]) (k2 := (pin Go.Proofs.Try.f12 [1, 1, 0, 1, 0, 0, 1, 0, 0, 1, 1, 1, 0] 3)) (by kernel_rfl) (small_Small_Block.calls k (.pointer (some ⟨g27, 0, none⟩)) (Oks Ft23_0) s26 A34 t33.1.length c36 t33.1 true t39 _ (hM.rd 0 rfl) hps26 (fun _ hb_ => ((Mem.oks (hM.as (H' := Gs [⟨.slice A34 t33.1.length c36, 5, 1, nums .u8 t33.1⟩, ⟨.slice (some ⟨g30, 0, none⟩) 8 8, 5, 1, nums .u8 (List.replicate 8 (0 : Int))⟩, ⟨.slice (some ⟨g18, 0, none⟩) ((t16 : Int).toNat) ((t16 : Int).toNat), 5, 1, nums .u8 (List.replicate ((t16 : Int).toNat) (0 : Int))⟩, ⟨.slice A8 t7.length c10, 3, 1, nums .i64 t7⟩] [Ft23_0, Ft2_0]) rfl) 0 rfl).kept hb_)) ht39) ?_
                      rintro _ W38 ⟨A40, n41, c42, rfl, hM_⟩
                      obtain rfl : t39.1.length = n41 := by have h_ := (hM_.rd 0 rfl).1; simpa [nums_length, bools_length, strs_length] using h_
                      replace hM : Mem w W38 (Gs [⟨.slice A40 t39.1.length c42, 5, 1, nums .u8 t39.1⟩, ⟨.slice A34 t33.1.length c36, 5, 1, nums .u8 t33.1⟩, ⟨.slice (some ⟨g30, 0, none⟩) 8 8, 5, 1, nums .u8 (List.replicate 8 (0 : Int))⟩, ⟨.slice (some ⟨g18, 0, none⟩) ((t16 : Int).toNat) ((t16 : Int).toNat), 5, 1, nums .u8 (List.replicate ((t16 : Int).toNat) (0 : Int))⟩, ⟨.slice A8 t7.length c10, 3, 1, nums .i64 t7⟩] [Ft23_0, Ft2_0]) := (Mem.callG (hM.as (H' := Gs [⟨.slice A34 t33.1.length c36, 5, 1, nums .u8 t33.1⟩, ⟨.slice (some ⟨g30, 0, none⟩) 8 8, 5, 1, nums .u8 (List.replicate 8 (0 : Int))⟩, ⟨.slice (some ⟨g18, 0, none⟩) ((t16 : Int).toNat) ((t16 : Int).toNat), 5, 1, nums .u8 (List.replicate ((t16 : Int).toNat) (0 : Int))⟩, ⟨.slice A8 t7.length c10, 3, 1, nums .i64 t7⟩] [Ft23_0, Ft2_0]) rfl) hM_.grp).as rfl
                      clear hM_ ht39
                      refine RunF.go 7 [2, 3, 6, 8] (k' := (pl Go.Proofs.Try.f12 [1, 1, 0, 1, 0, 0, 1, 0, 0, 1, 1, 1, 1, 0])) (L' := [(2, .int .i64 t2.2), (3, .int .i64 x3_0), (6, .slice A34 t33.1.length c36), (8, .slice A40 t39.1.length c42)]) (w' := W38) (by kernel_rfl) ?_
                      refine RunF.draw (Still ({ W38 with drawn := W38.drawn + 1 } : World) []) (by kernel_rfl) (by kernel_rfl) ?_
                      have hMd45 := hM.drew
                      have hS := Still.refl ({ W38 with drawn := W38.drawn + 1 } : World) []
                      generalize ({ W38 with drawn := W38.drawn + 1 } : World) = W44 at hMd45 hS ⊢
                      replace hM := hMd45
                      refine RunAny.y 0 (by kernel_rfl) (yl_pure (d := some 47) (v := .slice A34 t33.1.length c36) (k2 := [.inRegion (opsOf (pl Go.Proofs.Try.f12 [1, 1, 0, 1, 0, 0, 1, 0, 0, 1, 1, 1, 1, 0])) []]) fun w => by kernel_rfl) (fun _ _ => trivial) hS ?_
                      refine RunAny.y 1 (by kernel_rfl) (yl_pure (d := some 48) (v := .int .i64 (t33.1.length : Int)) (k2 := [.inRegion (opsOf (pl Go.Proofs.Try.f12 [1, 1, 0, 1, 0, 0, 1, 0, 0, 1, 1, 1, 1, 0])) []]) fun w => by kernel_rfl) (fun _ _ => trivial) hS ?_
                      refine RunAny.y 2 (by kernel_rfl) (yl_pure (d := some 49) (v := .bool ((t33.1.length : Int) != 8)) (k2 := [.inRegion (opsOf (pl Go.Proofs.Try.f12 [1, 1, 0, 1, 0, 0, 1, 0, 0, 1, 1, 1, 1, 0])) []]) fun w => by kernel_rfl) (fun _ _ => trivial) hS ?_
                      refine RunAny.y 3 (by kernel_rfl) (yl_pure (d := some 50) (v := .bool ((t33.1.length : Int) != 8)) (k2 := [.inRegion (opsOf (pl Go.Proofs.Try.f12 [1, 1, 0, 1, 0, 0, 1, 0, 0, 1, 1, 1, 1, 0])) []]) fun w => by kernel_rfl) (fun _ _ => trivial) hS ?_
                      rcases two (((t33.1.length : Int) != 8)) with c46 | c46
                      · replace h := of_true h c46
                        refine RunAny.know 50 (b := true) (by kernel_rfl) c46 ?_
                        refine RunAny.off 4 (d := some 51) (by kernel_rfl) (by kernel_rfl) hS ?_
                        refine RunAny.off 5 (d := some 52) (by kernel_rfl) (by kernel_rfl) hS ?_
                        refine RunAny.off 6 (d := some 53) (by kernel_rfl) (by kernel_rfl) hS ?_
                        refine RunAny.off 7 (d := some 54) (by kernel_rfl) (by kernel_rfl) hS ?_
                        refine RunAny.off 8 (d := some 55) (by kernel_rfl) (by kernel_rfl) hS ?_
                        refine RunAny.y 9 (by kernel_rfl) (yl_pure (d := some 56) (v := .bool true) (k2 := [.inRegion (opsOf (pl Go.Proofs.Try.f12 [1, 1, 0, 1, 0, 0, 1, 0, 0, 1, 1, 1, 1, 0])) []]) fun w => by kernel_rfl) (fun _ _ => trivial) hS ?_
                        refine RunAny.y 10 (by kernel_rfl) (yl_pure (d := some 57) (v := .bool true) (k2 := [.inRegion (opsOf (pl Go.Proofs.Try.f12 [1, 1, 0, 1, 0, 0, 1, 0, 0, 1, 1, 1, 1, 0])) []]) fun w => by kernel_rfl) (fun _ _ => trivial) hS ?_
                        refine RunAny.off 11 (d := some 58) (by kernel_rfl) (by kernel_rfl) hS ?_
                        refine RunAny.off 12 (d := some 59) (by kernel_rfl) (by kernel_rfl) hS ?_
                        refine RunAny.off 13 (d := some 60) (by kernel_rfl) (by kernel_rfl) hS ?_
                        refine RunAny.off 14 (d := some 61) (by kernel_rfl) (by kernel_rfl) hS ?_
                        refine RunAny.off 15 (d := some 62) (by kernel_rfl) (by kernel_rfl) hS ?_
                        refine RunAny.y 16 (by kernel_rfl) (yl_pure (d := some 63) (v := .bool true) (k2 := [.inRegion (opsOf (pl Go.Proofs.Try.f12 [1, 1, 0, 1, 0, 0, 1, 0, 0, 1, 1, 1, 1, 0])) []]) fun w => by kernel_rfl) (fun _ _ => trivial) hS ?_
                        refine RunAny.done (by kernel_rfl) ?_
                        clear hS
                        refine RunF.go 5 [0] (k' := (pl Go.Proofs.Try.f12 [1, 1, 0, 1, 0, 0, 1, 0, 0, 1, 1, 1, 1, 1, 0, 1])) (L' := [(0, .bool false)]) (w' := W44) (by kernel_rfl) ?_
                        obtain rfl := Option.some.inj h
                        exact RunF.ret1 0 (.bool false) (fn := Go.Proofs.Try.f12) Go.Proofs.Try.func12 (by kernel_rfl) (by kernel_rfl) (by kernel_rfl) ⟨_, rfl, rfl, (Mem.pickF (hM.as (H' := Gs [⟨.slice A40 t39.1.length c42, 5, 1, nums .u8 t39.1⟩, ⟨.slice A34 t33.1.length c36, 5, 1, nums .u8 t33.1⟩, ⟨.slice (some ⟨g30, 0, none⟩) 8 8, 5, 1, nums .u8 (List.replicate 8 (0 : Int))⟩, ⟨.slice (some ⟨g18, 0, none⟩) ((t16 : Int).toNat) ((t16 : Int).toNat), 5, 1, nums .u8 (List.replicate ((t16 : Int).toNat) (0 : Int))⟩, ⟨.slice A8 t7.length c10, 3, 1, nums .i64 t7⟩] [Ft23_0, Ft2_0]) rfl) [] rfl rfl rfl).ungrp⟩
                      · replace h := of_false h c46
                        refine RunAny.know 50 (b := false) (by kernel_rfl) c46 ?_
                        refine RunAny.y 4 (by kernel_rfl) (yl_pure (d := some 51) (v := .slice A34 t33.1.length c36) (k2 := [.inRegion (opsOf (pl Go.Proofs.Try.f12 [1, 1, 0, 1, 0, 0, 1, 0, 0, 1, 1, 1, 1, 0])) []]) fun w => by kernel_rfl) (fun _ _ => trivial) hS ?_
                        refine RunAny.y 5 (by kernel_rfl) (str_y (d := some 52) (A := A34) (m := t33.1.length) (c := c36) (k2 := [.inRegion (opsOf (pl Go.Proofs.Try.f12 [1, 1, 0, 1, 0, 0, 1, 0, 0, 1, 1, 1, 1, 0])) []]) t33.1 (by kernel_rfl)) (fun _ hs => ((hM.rd 1 rfl).still hs (by simp))) hS ?_
                        refine RunAny.y 6 (by kernel_rfl) (yl_pure (d := some 53) (v := .slice A40 t39.1.length c42) (k2 := [.inRegion (opsOf (pl Go.Proofs.Try.f12 [1, 1, 0, 1, 0, 0, 1, 0, 0, 1, 1, 1, 1, 0])) []]) fun w => by kernel_rfl) (fun _ _ => trivial) hS ?_
                        refine RunAny.y 7 (by kernel_rfl) (str_y (d := some 54) (A := A40) (m := t39.1.length) (c := c42) (k2 := [.inRegion (opsOf (pl Go.Proofs.Try.f12 [1, 1, 0, 1, 0, 0, 1, 0, 0, 1, 1, 1, 1, 0])) []]) t39.1 (by kernel_rfl)) (fun _ hs => ((hM.rd 0 rfl).still hs (by simp))) hS ?_
                        refine RunAny.y 8 (by kernel_rfl) (yl_pure (d := some 55) (v := .bool ((strOf t33.1).toList == (strOf t39.1).toList)) (k2 := [.inRegion (opsOf (pl Go.Proofs.Try.f12 [1, 1, 0, 1, 0, 0, 1, 0, 0, 1, 1, 1, 1, 0])) []]) fun w => by kernel_rfl) (fun _ _ => trivial) hS ?_
                        refine RunAny.y 9 (by kernel_rfl) (yl_pure (d := some 56) (v := .bool ((strOf t33.1).toList == (strOf t39.1).toList)) (k2 := [.inRegion (opsOf (pl Go.Proofs.Try.f12 [1, 1, 0, 1, 0, 0, 1, 0, 0, 1, 1, 1, 1, 0])) []]) fun w => by kernel_rfl) (fun _ _ => trivial) hS ?_
                        refine RunAny.y 10 (by kernel_rfl) (yl_pure (d := some 57) (v := .bool ((strOf t33.1).toList == (strOf t39.1).toList)) (k2 := [.inRegion (opsOf (pl Go.Proofs.Try.f12 [1, 1, 0, 1, 0, 0, 1, 0, 0, 1, 1, 1, 1, 0])) []]) fun w => by kernel_rfl) (fun _ _ => trivial) hS ?_
                        rcases two (((strOf t33.1).toList == (strOf t39.1).toList)) with c47 | c47
                        · replace h := of_true h c47
                          refine RunAny.know 57 (b := true) (by kernel_rfl) c47 ?_
                          refine RunAny.off 11 (d := some 58) (by kernel_rfl) (by kernel_rfl) hS ?_
                          refine RunAny.off 12 (d := some 59) (by kernel_rfl) (by kernel_rfl) hS ?_
                          refine RunAny.off 13 (d := some 60) (by kernel_rfl) (by kernel_rfl) hS ?_
                          refine RunAny.off 14 (d := some 61) (by kernel_rfl) (by kernel_rfl) hS ?_
                          refine RunAny.off 15 (d := some 62) (by kernel_rfl) (by kernel_rfl) hS ?_
                          refine RunAny.y 16 (by kernel_rfl) (yl_pure (d := some 63) (v := .bool true) (k2 := [.inRegion (opsOf (pl Go.Proofs.Try.f12 [1, 1, 0, 1, 0, 0, 1, 0, 0, 1, 1, 1, 1, 0])) []]) fun w => by kernel_rfl) (fun _ _ => trivial) hS ?_
                          refine RunAny.done (by kernel_rfl) ?_
                          clear hS
                          refine RunF.go 5 [0] (k' := (pl Go.Proofs.Try.f12 [1, 1, 0, 1, 0, 0, 1, 0, 0, 1, 1, 1, 1, 1, 0, 1])) (L' := [(0, .bool false)]) (w' := W44) (by kernel_rfl) ?_
                          obtain rfl := Option.some.inj h
                          exact RunF.ret1 0 (.bool false) (fn := Go.Proofs.Try.f12) Go.Proofs.Try.func12 (by kernel_rfl) (by kernel_rfl) (by kernel_rfl) ⟨_, rfl, rfl, (Mem.pickF (hM.as (H' := Gs [⟨.slice A40 t39.1.length c42, 5, 1, nums .u8 t39.1⟩, ⟨.slice A34 t33.1.length c36, 5, 1, nums .u8 t33.1⟩, ⟨.slice (some ⟨g30, 0, none⟩) 8 8, 5, 1, nums .u8 (List.replicate 8 (0 : Int))⟩, ⟨.slice (some ⟨g18, 0, none⟩) ((t16 : Int).toNat) ((t16 : Int).toNat), 5, 1, nums .u8 (List.replicate ((t16 : Int).toNat) (0 : Int))⟩, ⟨.slice A8 t7.length c10, 3, 1, nums .i64 t7⟩] [Ft23_0, Ft2_0]) rfl) [] rfl rfl rfl).ungrp⟩
                        · replace h := of_false h c47
                          refine RunAny.know 57 (b := false) (by kernel_rfl) c47 ?_
                          refine RunAny.y 11 (by kernel_rfl) (yl_pure (d := some 58) (v := .slice A40 t39.1.length c42) (k2 := [.inRegion (opsOf (pl Go.Proofs.Try.f12 [1, 1, 0, 1, 0, 0, 1, 0, 0, 1, 1, 1, 1, 0])) []]) fun w => by kernel_rfl) (fun _ _ => trivial) hS ?_
                          refine RunAny.y 12 (by kernel_rfl) (str_y (d := some 59) (A := A40) (m := t39.1.length) (c := c42) (k2 := [.inRegion (opsOf (pl Go.Proofs.Try.f12 [1, 1, 0, 1, 0, 0, 1, 0, 0, 1, 1, 1, 1, 0])) []]) t39.1 (by kernel_rfl)) (fun _ hs => ((hM.rd 0 rfl).still hs (by simp))) hS ?_
                          obtain ⟨W48, hD, hM', hB_⟩ := mk_does (P := Go.Proofs.Try.prog) (n := 66) (k := (one (opsOf (pl Go.Proofs.Try.f12 [1, 1, 0, 1, 0, 0, 1, 0, 0, 1, 1, 1, 1, 0])) 13)) (L := (upd (upd (known (upd (upd (upd (upd (upd (upd (upd (known (upd (upd (upd (upd [(2, .int .i64 t2.2), (3, .int .i64 x3_0), (6, .slice A34 t33.1.length c36), (8, .slice A40 t39.1.length c42)] (some 47) (.slice A34 t33.1.length c36)) (some 48) (.int .i64 (t33.1.length : Int))) (some 49) (.bool ((t33.1.length : Int) != 8))) (some 50) (.bool ((t33.1.length : Int) != 8))) 50 false) (some 51) (.slice A34 t33.1.length c36)) (some 52) (.string (strOf t33.1))) (some 53) (.slice A40 t39.1.length c42)) (some 54) (.string (strOf t39.1))) (some 55) (.bool ((strOf t33.1).toList == (strOf t39.1).toList))) (some 56) (.bool ((strOf t33.1).toList == (strOf t39.1).toList))) (some 57) (.bool ((strOf t33.1).toList == (strOf t39.1).toList))) 57 false) (some 58) (.slice A40 t39.1.length c42)) (some 59) (.string (strOf t39.1)))) (d := some 60) (e := 5) (z := .int .u8 0) (l := 8) (c := 8) (k2 := [.inRegion (opsOf (pl Go.Proofs.Try.f12 [1, 1, 0, 1, 0, 0, 1, 0, 0, 1, 1, 1, 1, 0])) []]) (by kernel_rfl) (by omega) (by omega) (by omega) hM
                          rw [rep_nums] at hM'
                          refine RunAny.does 13 (by kernel_rfl) hD (hS.below hB_) ?_
                          replace hS := hS.below hB_; clear hB_
                          replace hM := hM'; clear hD hM'
                          generalize W44.heap.size = g49 at hM ⊢
                          refine RunAny.rebase hS ?_
                          replace hS := Still.refl W48 []
                          refine RunAny.y 14 (by kernel_rfl) (str_y (d := some 61) (A := (some ⟨g49, 0, none⟩)) (m := 8) (c := 8) (k2 := [.inRegion (opsOf (pl Go.Proofs.Try.f12 [1, 1, 0, 1, 0, 0, 1, 0, 0, 1, 1, 1, 1, 0])) []]) (List.replicate 8 (0 : Int)) (by kernel_rfl)) (fun _ hs => ((hM.rd 0 rfl).still hs (by simp))) hS ?_
                          refine RunAny.y 15 (by kernel_rfl) (yl_pure (d := some 62) (v := .bool (!((strOf t39.1).toList == (strOf (List.replicate 8 (0 : Int))).toList))) (k2 := [.inRegion (opsOf (pl Go.Proofs.Try.f12 [1, 1, 0, 1, 0, 0, 1, 0, 0, 1, 1, 1, 1, 0])) []]) fun w => by kernel_rfl) (fun _ _ => trivial) hS ?_
                          refine RunAny.y 16 (by kernel_rfl) (yl_pure (d := some 63) (v := .bool (!((strOf t39.1).toList == (strOf (List.replicate 8 (0 : Int))).toList))) (k2 := [.inRegion (opsOf (pl Go.Proofs.Try.f12 [1, 1, 0, 1, 0, 0, 1, 0, 0, 1, 1, 1, 1, 0])) []]) fun w => by kernel_rfl) (fun _ _ => trivial) hS ?_
                          refine RunAny.done (by kernel_rfl) ?_
                          clear hS
                          obtain ⟨y51, hy, h⟩ := Option.bind_eq_some_iff.mp h
                          rw [show (((strOf t33.1).toList == (strOf t39.1).toList)) = y51 from Option.some.inj hy]
                          clear hy
                          obtain ⟨y52, hy, h⟩ := Option.bind_eq_some_iff.mp h
                          rw [show (!((strOf t39.1).toList == (strOf (List.replicate 8 (0 : Int))).toList)) = y52 from Option.some.inj hy]
                          clear hy
                          rcases two (y52) with c53 | c53
                          · replace h := of_true h c53
                            refine RunF.know 63 (b := true) (by kernel_rfl) c53 ?_
                            refine RunF.go 5 [0] (k' := (pl Go.Proofs.Try.f12 [1, 1, 0, 1, 0, 0, 1, 0, 0, 1, 1, 1, 1, 1, 0, 1])) (L' := [(0, .bool false)]) (w' := W48) (by kernel_rfl) ?_
                            obtain rfl := Option.some.inj h
                            exact RunF.ret1 0 (.bool false) (fn := Go.Proofs.Try.f12) Go.Proofs.Try.func12 (by kernel_rfl) (by kernel_rfl) (by kernel_rfl) ⟨_, rfl, rfl, (Mem.pickF (hM.as (H' := Gs [⟨.slice (some ⟨g49, 0, none⟩) 8 8, 5, 1, nums .u8 (List.replicate 8 (0 : Int))⟩, ⟨.slice A40 t39.1.length c42, 5, 1, nums .u8 t39.1⟩, ⟨.slice A34 t33.1.length c36, 5, 1, nums .u8 t33.1⟩, ⟨.slice (some ⟨g30, 0, none⟩) 8 8, 5, 1, nums .u8 (List.replicate 8 (0 : Int))⟩, ⟨.slice (some ⟨g18, 0, none⟩) ((t16 : Int).toNat) ((t16 : Int).toNat), 5, 1, nums .u8 (List.replicate ((t16 : Int).toNat) (0 : Int))⟩, ⟨.slice A8 t7.length c10, 3, 1, nums .i64 t7⟩] [Ft23_0, Ft2_0]) rfl) [] rfl rfl rfl).ungrp⟩
                          · replace h := of_false h c53
                            refine RunF.know 63 (b := false) (by kernel_rfl) c53 ?_
                            refine RunF.go 9 [2, 3] (k' := (pl Go.Proofs.Try.f12 [1, 1, 0, 1, 0, 0])) (L' := [(2, .int .i64 t2.2), (3, .int .i64 (I64 (x3_0 + 1)))]) (w' := W48) (by kernel_rfl) ?_
                            exact ih0 k (by omega) (I64 (x3_0 + 1)) _ (Mem.pickF (hM.as (H' := Gs [⟨.slice (some ⟨g49, 0, none⟩) 8 8, 5, 1, nums .u8 (List.replicate 8 (0 : Int))⟩, ⟨.slice A40 t39.1.length c42, 5, 1, nums .u8 t39.1⟩, ⟨.slice A34 t33.1.length c36, 5, 1, nums .u8 t33.1⟩, ⟨.slice (some ⟨g30, 0, none⟩) 8 8, 5, 1, nums .u8 (List.replicate 8 (0 : Int))⟩, ⟨.slice (some ⟨g18, 0, none⟩) ((t16 : Int).toNat) ((t16 : Int).toNat), 5, 1, nums .u8 (List.replicate ((t16 : Int).toNat) (0 : Int))⟩, ⟨.slice A8 t7.length c10, 3, 1, nums .i64 t7⟩] [Ft23_0, Ft2_0]) rfl) [7] rfl rfl rfl) h
                    · replace h := of_false h c25
                      obtain rfl := rOpt.none hRt23_0 c25
                      refine RunF.go 8 [0] (k' := (pl Go.Proofs.Try.f12 [1, 1, 0, 1, 0, 0, 1, 0, 0, 1, 0, 1, 0, 1])) (L' := [(0, .bool false)]) (w' := W22) (by kernel_rfl) ?_
                      obtain rfl := Option.some.inj h
                      exact RunF.ret1 0 (.bool false) (fn := Go.Proofs.Try.f12) Go.Proofs.Try.func12 (by kernel_rfl) (by kernel_rfl) (by kernel_rfl) ⟨_, rfl, rfl, (Mem.pickF (hM.as (H' := Gs [⟨.slice (some ⟨g18, 0, none⟩) ((t16 : Int).toNat) ((t16 : Int).toNat), 5, 1, nums .u8 (List.replicate ((t16 : Int).toNat) (0 : Int))⟩, ⟨.slice A8 t7.length c10, 3, 1, nums .i64 t7⟩] [Ft23_0, Ft2_0]) rfl) [] rfl rfl rfl).ungrp⟩
                · replace h := of_false h c20
                  cases h
              · replace h := of_false h c19
                cases h
            · replace h := of_false h c14
              cases h
          · replace h := of_false h c13
            cases h
        · replace h := of_false h c3
          refine RunF.know 15 (b := false) (by kernel_rfl) c3 ?_
          refine RunF.go 8 [0] (k' := (pl Go.Proofs.Try.f12 [1, 1, 1, 1])) (L' := [(0, .bool (t2.2 == 2))]) (w' := W) (by kernel_rfl) ?_
          obtain rfl := Option.some.inj h
          exact RunF.ret1 0 (.bool (t2.2 == 2)) (fn := Go.Proofs.Try.f12) Go.Proofs.Try.func12 (by kernel_rfl) (by kernel_rfl) (by kernel_rfl) ⟨_, rfl, rfl, (Mem.pickF (hM.as (H' := Gs [] [Ft2_0]) rfl) [] rfl rfl rfl).ungrp⟩
  exact l0 k (Nat.le_refl _) 0 _ (Mem.pickF (hM.as (H' := Gs [] [Ft2_0]) rfl) [0] rfl rfl rfl) h

/-! ### scrim/scrimlaw8.Bytes: function 13 -/
def scrimlaw8_Bytes.l0 : Nat → Int → (List Int) → Int → Option (List Int)
  | 0, _, _, _ => none
  | k + 1, a0, x5_0, x6_0 => if (decide (x6_0 < a0)) = true then (if (decide (0 ≤ x6_0)) = true then (if (decide (x6_0 < ((a0 : Int).toNat : Int))) = true then (scrimlaw8_Bytes.l0 k a0 (x5_0.set (x6_0 : Int).toNat (U8 (I64 (x6_0 * 37)))) (I64 (x6_0 + 1))) else (none)) else (none)) else (some x5_0)
def scrimlaw8_Bytes.f (k : Nat) (a0 : Int) (a1 : List Int) : Option (List Int) := if (decide (0 ≤ a0)) = true then (if (decide (a0 ≤ 1000000000)) = true then (scrimlaw8_Bytes.l0 k a0 (a1.take (List.replicate ((a0 : Int).toNat) (0 : Int)).length ++ (List.replicate ((a0 : Int).toNat) (0 : Int)).drop a1.length) (a1.length : Int)) else (none)) else (none)
set_option maxRecDepth 100000 in
theorem scrimlaw8_Bytes.calls (k : Nat) (a0 : Int) (Ap1 : Option Addr) (np1 cp1 : Nat) (a1 : List Int) (r : List Int) (w : World) (hr1 : Rd w (.slice Ap1 np1 cp1) (nums .u8 a1)) (h : scrimlaw8_Bytes.f k a0 a1 = some r) :
    Calls Go.Proofs.Try.prog 13 #[.int .i64 a0, (.slice Ap1 np1 cp1)] w (Ret fun v w' => ∃ A0' n0' c0', v = .slice A0' n0' c0' ∧ Mem w w' [⟨.slice A0' n0' c0', 5, 1, nums .u8 r⟩]) := by
  obtain rfl : a1.length = np1 := by have h_ := hr1.1; simpa [nums_length, bools_length, strs_length] using h_
  unfold scrimlaw8_Bytes.f at h
  refine calls_of [.int .i64 a0, .slice Ap1 a1.length cp1] (fn := Go.Proofs.Try.f13) Go.Proofs.Try.func13 (by kernel_rfl) (by kernel_rfl) ?_
  have hM := Mem.refl w
  refine RunF.go 7 [0, 1, 7] (k' := (pin Go.Proofs.Try.f13 [1, 0] 1)) (L' := [(0, .int .i64 a0), (1, .slice Ap1 a1.length cp1), (7, .int .i64 a0)]) (w' := w) (by kernel_rfl) ?_
  rcases two (decide (0 ≤ a0)) with c3 | c3
  · replace h := of_true h c3
    rcases two (decide (a0 ≤ 1000000000)) with c4 | c4
    · replace h := of_true h c4
      have := of_decide_eq_true c3
      have := of_decide_eq_true c4
      obtain ⟨W1, hD, hM', hB_⟩ := mk_does (P := Go.Proofs.Try.prog) (n := 26) (k := (pin Go.Proofs.Try.f13 [1, 0] 1)) (L := [(0, .int .i64 a0), (1, .slice Ap1 a1.length cp1), (7, .int .i64 a0)]) (d := some 8) (e := 5) (z := .int .u8 0) (l := a0) (c := a0) (k2 := (pin Go.Proofs.Try.f13 [1, 0] 2)) (by kernel_rfl) (by omega) (by omega) (by omega) hM
      rw [rep_nums] at hM'
      refine RunF.does hD ?_
      replace hM := hM'; clear hD hM'
      generalize w.heap.size = g2 at hM ⊢
      refine RunF.go 6 [0, 1, 5, 9, 10] (k' := (pin Go.Proofs.Try.f13 [1, 1, 0] 2)) (L' := [(0, .int .i64 a0), (1, .slice Ap1 a1.length cp1), (5, .slice (some ⟨g2, 0, none⟩) ((a0 : Int).toNat) ((a0 : Int).toNat)), (9, .slice (some ⟨g2, 0, none⟩) ((a0 : Int).toNat) ((a0 : Int).toNat)), (10, .slice Ap1 a1.length cp1)]) (w' := W1) (by kernel_rfl) ?_
      obtain ⟨W6, hD, hM', hS_⟩ := cp_does (P := Go.Proofs.Try.prog) (n := 26) (k := (pin Go.Proofs.Try.f13 [1, 1, 0] 2)) (L := [(0, .int .i64 a0), (1, .slice Ap1 a1.length cp1), (5, .slice (some ⟨g2, 0, none⟩) ((a0 : Int).toNat) ((a0 : Int).toNat)), (9, .slice (some ⟨g2, 0, none⟩) ((a0 : Int).toNat) ((a0 : Int).toNat)), (10, .slice Ap1 a1.length cp1)]) (d := some 11) (ty := 5) (A := (some ⟨g2, 0, none⟩)) (m := (a0 : Int).toNat) (c := (a0 : Int).toNat) (A2 := Ap1) (m2 := a1.length) (c2 := cp1) (cs := nums .u8 (List.replicate ((a0 : Int).toNat) (0 : Int))) (ys := nums .u8 a1) (k2 := (pin Go.Proofs.Try.f13 [1, 1, 0] 3)) [] [] (by kernel_rfl) (hM.pick [0] rfl rfl) (hr1.mono hM.below) (one_nums _ _)
      simp only [nums_length, nums_take, nums_drop, nums_append] at hM'
      refine RunF.does hD ?_
      replace hM := hM'; clear hM' hD hS_
      refine RunF.go 10 [0, 5, 6] (k' := (pl Go.Proofs.Try.f13 [1, 1, 1, 0, 1, 0, 0])) (L' := [(0, .int .i64 a0), (5, .slice (some ⟨g2, 0, none⟩) ((a0 : Int).toNat) ((a0 : Int).toNat)), (6, .int .i64 (a1.length : Int))]) (w' := W6) (by kernel_rfl) ?_
      have l0 : ∀ (k_ : Nat), k_ ≤ k → ∀ (x5_0 : List Int) (x6_0 : Int) (W : World) (hM : Mem w W [⟨.slice (some ⟨g2, 0, none⟩) ((a0 : Int).toNat) ((a0 : Int).toNat), 5, 1, nums .u8 x5_0⟩]) (h : scrimlaw8_Bytes.l0 k_ a0 x5_0 x6_0 = some r), RunF Go.Proofs.Try.prog (Ret fun v w' => ∃ A0' n0' c0', v = .slice A0' n0' c0' ∧ Mem w w' [⟨.slice A0' n0' c0', 5, 1, nums .u8 r⟩]) 13 (pl Go.Proofs.Try.f13 [1, 1, 1, 0, 1, 0, 0]) 26 [(0, .int .i64 a0), (5, .slice (some ⟨g2, 0, none⟩) ((a0 : Int).toNat) ((a0 : Int).toNat)), (6, .int .i64 x6_0)] W := by
        intro k_
        induction k_ using Nat.strongRecOn with
        | _ k_ ih0 =>
          intro hk x5_0 x6_0 W hM h
          cases k_ with
          | zero => exact absurd h (by simp [scrimlaw8_Bytes.l0])
          | succ k =>
            simp only [scrimlaw8_Bytes.l0] at h
            replace ih0 : ∀ m, m ≤ k → _ := fun m hm => ih0 m (by omega) (by omega)
            refine RunF.go 7 [0, 5, 6, 16] (k' := (pl Go.Proofs.Try.f13 [1, 1, 1, 0, 1, 0, 0, 0, 1])) (L' := [(0, .int .i64 a0), (5, .slice (some ⟨g2, 0, none⟩) ((a0 : Int).toNat) ((a0 : Int).toNat)), (6, .int .i64 x6_0), (16, .bool (decide (x6_0 < a0)))]) (w' := W) (by kernel_rfl) ?_
            rcases two (decide (x6_0 < a0)) with c7 | c7
            · replace h := of_true h c7
              refine RunF.know 16 (b := true) (by kernel_rfl) c7 ?_
              refine RunF.go 10 [0, 5, 6, 19, 20, 23] (k' := (pin Go.Proofs.Try.f13 [1, 1, 1, 0, 1, 0, 0, 1, 0, 0] 5)) (L' := [(0, .int .i64 a0), (5, .slice (some ⟨g2, 0, none⟩) ((a0 : Int).toNat) ((a0 : Int).toNat)), (6, .int .i64 x6_0), (19, .slice (some ⟨g2, 0, none⟩) ((a0 : Int).toNat) ((a0 : Int).toNat)), (20, .int .i64 x6_0), (23, .int .u8 (U8 (I64 (x6_0 * 37))))]) (w' := W) (by kernel_rfl) ?_
              rcases two (decide (0 ≤ x6_0)) with c9 | c9
              · replace h := of_true h c9
                rcases two (decide (x6_0 < ((a0 : Int).toNat : Int))) with c10 | c10
                · replace h := of_true h c10
                  obtain ⟨q8, hAq8, hcq8, hfq8, hlq8⟩ := hM.num_at 0 rfl (i := x6_0) (of_decide_eq_true c9) (by have h_ := of_decide_eq_true c10; omega)
                  refine RunF.y (idx_own (d := some 24) (A := (some ⟨g2, 0, none⟩)) (m := (a0 : Int).toNat) (i := x6_0) (k2 := (pin Go.Proofs.Try.f13 [1, 1, 1, 0, 1, 0, 0, 1, 0, 0] 6)) (by kernel_rfl) (of_decide_eq_true c9) (by have h_ := of_decide_eq_true c10; omega) hAq8) trivial ?_
                  obtain ⟨g_, hA_, hc_, hf_, hl_⟩ := hM.num_at 0 rfl (i := x6_0) (of_decide_eq_true c9) (by have h_ := of_decide_eq_true c10; omega)
                  obtain rfl : q8 = g_ := by rw [hAq8] at hA_; injection hA_ with hA_; injection hA_
                  refine RunF.doesU (st_u (p := (⟨q8, (x6_0 : Int).toNat, none⟩ : Addr)) (v := .int .u8 (U8 (I64 (x6_0 * 37)))) (k2 := (pin Go.Proofs.Try.f13 [1, 1, 1, 0, 1, 0, 0, 1, 0, 0] 7)) (by kernel_rfl) hc_ hf_) ?_
                  replace hM : Mem w (W.setCell (⟨q8, (x6_0 : Int).toNat, none⟩ : Addr) (.int .u8 (U8 (I64 (x6_0 * 37))))) [⟨.slice (some ⟨g2, 0, none⟩) ((a0 : Int).toNat) ((a0 : Int).toNat), 5, 1, nums .u8 (x5_0.set (x6_0 : Int).toNat (U8 (I64 (x6_0 * 37))))⟩] := Mem.put_num [] [] (hM.pick [0] rfl rfl) hAq8 _ hl_ _
                  generalize W.setCell (⟨q8, (x6_0 : Int).toNat, none⟩ : Addr) (.int .u8 (U8 (I64 (x6_0 * 37)))) = W11 at hM ⊢
                  clear hc_ hf_ hl_ hA_ hcq8
                  refine RunF.go 8 [0, 5, 6] (k' := (pl Go.Proofs.Try.f13 [1, 1, 1, 0, 1, 0, 0])) (L' := [(0, .int .i64 a0), (5, .slice (some ⟨g2, 0, none⟩) ((a0 : Int).toNat) ((a0 : Int).toNat)), (6, .int .i64 (I64 (x6_0 + 1)))]) (w' := W11) (by kernel_rfl) ?_
                  exact ih0 k (by omega) (x5_0.set (x6_0 : Int).toNat (U8 (I64 (x6_0 * 37)))) (I64 (x6_0 + 1)) _ (hM.pick [0] rfl rfl) h
                · replace h := of_false h c10
                  cases h
              · replace h := of_false h c9
                cases h
            · replace h := of_false h c7
              refine RunF.know 16 (b := false) (by kernel_rfl) c7 ?_
              refine RunF.go 7 [4] (k' := (pl Go.Proofs.Try.f13 [1, 1, 1, 1, 1])) (L' := [(4, .slice (some ⟨g2, 0, none⟩) ((a0 : Int).toNat) ((a0 : Int).toNat))]) (w' := W) (by kernel_rfl) ?_
              obtain rfl := Option.some.inj h
              exact RunF.ret1 4 (.slice (some ⟨g2, 0, none⟩) ((a0 : Int).toNat) ((a0 : Int).toNat)) (fn := Go.Proofs.Try.f13) Go.Proofs.Try.func13 (by kernel_rfl) (by kernel_rfl) (by kernel_rfl) ⟨_, rfl, (some ⟨g2, 0, none⟩), (a0 : Int).toNat, (a0 : Int).toNat, rfl, (hM.pick [0] rfl rfl)⟩
      exact l0 k (Nat.le_refl _) (a1.take (List.replicate ((a0 : Int).toNat) (0 : Int)).length ++ (List.replicate ((a0 : Int).toNat) (0 : Int)).drop a1.length) (a1.length : Int) _ (hM.pick [0] rfl rfl) h
    · replace h := of_false h c4
      cases h
  · replace h := of_false h c3
    cases h

/-! ### scrim/scrimlaw8.within: function 20 -/
def scrimlaw8_within.f (k : Nat) (a0 : Int) (a1 : Int) : Option (Int) := if (decide (a1 = 0)) = true then (none) else (if (decide ((Int.tmod a0 a1) < 0)) = true then (some (I64 ((Int.tmod a0 a1) + a1))) else (some (Int.tmod a0 a1)))
set_option maxRecDepth 100000 in
theorem scrimlaw8_within.calls (k : Nat) (a0 : Int) (a1 : Int) (r : Int) (w : World) (h : scrimlaw8_within.f k a0 a1 = some r) :
    Calls Go.Proofs.Try.prog 20 #[.int .i64 a0, .int .i64 a1] w (Ret fun v w' => v = .int .i64 r ∧ Mem w w' []) := by
  unfold scrimlaw8_within.f at h
  refine calls_of [.int .i64 a0, .int .i64 a1] (fn := Go.Proofs.Try.f20) Go.Proofs.Try.func20 (by kernel_rfl) (by kernel_rfl) ?_
  have hM := Mem.refl w
  refine RunF.go 8 [1, 6, 7] (k' := (pin Go.Proofs.Try.f20 [1, 0] 2)) (L' := [(1, .int .i64 a1), (6, .int .i64 a0), (7, .int .i64 a1)]) (w' := w) (by kernel_rfl) ?_
  rcases two (decide (a1 = 0)) with c1 | c1
  · replace h := of_true h c1
    cases h
  · replace h := of_false h c1
    refine RunF.y (div_y (d := some 8) (b := false) (kd := .i64) (x := a0) (y := a1) (k2 := (pin Go.Proofs.Try.f20 [1, 0] 3)) (by kernel_rfl) c1) trivial ?_
    refine RunF.go 8 [1, 5, 10] (k' := (pl Go.Proofs.Try.f20 [1, 1, 0, 1])) (L' := [(1, .int .i64 a1), (5, .int .i64 (Int.tmod a0 a1)), (10, .bool (decide ((Int.tmod a0 a1) < 0)))]) (w' := w) (by kernel_rfl) ?_
    rcases two (decide ((Int.tmod a0 a1) < 0)) with c2 | c2
    · replace h := of_true h c2
      refine RunF.know 10 (b := true) (by kernel_rfl) c2 ?_
      refine RunF.go 12 [4] (k' := (pl Go.Proofs.Try.f20 [1, 1, 1, 1])) (L' := [(4, .int .i64 (I64 ((Int.tmod a0 a1) + a1)))]) (w' := w) (by kernel_rfl) ?_
      obtain rfl := Option.some.inj h
      exact RunF.ret1 4 (.int .i64 (I64 ((Int.tmod a0 a1) + a1))) (fn := Go.Proofs.Try.f20) Go.Proofs.Try.func20 (by kernel_rfl) (by kernel_rfl) (by kernel_rfl) ⟨_, rfl, rfl, (hM.pick [] rfl rfl)⟩
    · replace h := of_false h c2
      refine RunF.know 10 (b := false) (by kernel_rfl) c2 ?_
      refine RunF.go 7 [4] (k' := (pl Go.Proofs.Try.f20 [1, 1, 1, 1])) (L' := [(4, .int .i64 (Int.tmod a0 a1))]) (w' := w) (by kernel_rfl) ?_
      obtain rfl := Option.some.inj h
      exact RunF.ret1 4 (.int .i64 (Int.tmod a0 a1)) (fn := Go.Proofs.Try.f20) Go.Proofs.Try.func20 (by kernel_rfl) (by kernel_rfl) (by kernel_rfl) ⟨_, rfl, rfl, (hM.pick [] rfl rfl)⟩

/-! ### scrim/scrimlaw8.SmallOwn: function 7 -/
mutual
def scrimlaw8_SmallOwn.l0 : Nat → (List Int) → Int → ((List Int) × Int) → (List Int) → (List Int × Int) → Int → (List Int) → (List Int) → Int → Option (Bool)
  | 0, _, _, _, _, _, _, _, _, _ => none
  | k + 1, a2, a3, s26, t30, t36, t5, t9, x10_0, x17_0 => if (decide (x17_0 < (t9.length : Int))) = true then (if (decide (0 ≤ x17_0)) = true then (if (decide (x17_0 < (t9.length : Int))) = true then (if (decide (0 ≤ x17_0)) = true then (if (decide (x17_0 < (t9.length : Int))) = true then (scrimlaw8_SmallOwn.l0 k a2 a3 s26 t30 t36 t5 t9 (x10_0.set (x17_0 : Int).toNat (U8 ((rd x10_0 x17_0) + a3))) (I64 (x17_0 + 1))) else (none)) else (none)) else (none)) else (none)) else ((scrimlaw8_tags.f k).bind fun t50 => (if (decide (0 ≤ t5)) = true then (if (decide (t5 < (t50.length : Int))) = true then ((small_New.f k (rd t50 t5) x10_0).bind fun t59 => (if t59.1.isSome = true then ((t59.1).bind fun s61 => ((small_Small_Block.f k s61 t30 true).bind fun t65 => (scrimlaw8_SmallOwn.l1 k a2 a3 s26 t30 t36 t36.1 0))) else (scrimlaw8_SmallOwn.l2 k a2 a3 s26 t30 t36 t36.1 0))) else (none)) else (none)))
def scrimlaw8_SmallOwn.l1 : Nat → (List Int) → Int → ((List Int) × Int) → (List Int) → (List Int × Int) → (List Int) → Int → Option (Bool)
  | 0, _, _, _, _, _, _, _ => none
  | k + 1, a2, a3, s26, t30, t36, x14_1, x20_1 => if (decide (x20_1 < (t36.1.length : Int))) = true then (if (decide (0 ≤ x20_1)) = true then (if (decide (x20_1 < (t36.1.length : Int))) = true then (if (decide (0 ≤ x20_1)) = true then (if (decide (x20_1 < (t36.1.length : Int))) = true then (scrimlaw8_SmallOwn.l1 k a2 a3 s26 t30 t36 (x14_1.set (x20_1 : Int).toNat (U8 ((rd x14_1 x20_1) + a3))) (I64 (x20_1 + 1))) else (none)) else (none)) else (none)) else (none)) else ((small_Small_Block.f k s26 t30 false).bind fun t79 => (if (((strOf t36.1).size : Int) == 8) = true then (if ((strOf t79.1).toList == (strOf t36.1).toList) = true then ((scrimlaw8_Bytes.f k 8 a2).bind fun t89 => (some ((strOf t30).toList == (strOf t89).toList))) else (some false)) else (some false)))
def scrimlaw8_SmallOwn.l2 : Nat → (List Int) → Int → ((List Int) × Int) → (List Int) → (List Int × Int) → (List Int) → Int → Option (Bool)
  | 0, _, _, _, _, _, _, _ => none
  | k + 1, a2, a3, s26, t30, t36, x14_2, x20_2 => if (decide (x20_2 < (t36.1.length : Int))) = true then (if (decide (0 ≤ x20_2)) = true then (if (decide (x20_2 < (t36.1.length : Int))) = true then (if (decide (0 ≤ x20_2)) = true then (if (decide (x20_2 < (t36.1.length : Int))) = true then (scrimlaw8_SmallOwn.l2 k a2 a3 s26 t30 t36 (x14_2.set (x20_2 : Int).toNat (U8 ((rd x14_2 x20_2) + a3))) (I64 (x20_2 + 1))) else (none)) else (none)) else (none)) else (none)) else ((small_Small_Block.f k s26 t30 false).bind fun t103 => (if (((strOf t36.1).size : Int) == 8) = true then (if ((strOf t103.1).toList == (strOf t36.1).toList) = true then ((scrimlaw8_Bytes.f k 8 a2).bind fun t113 => (some ((strOf t30).toList == (strOf t113).toList))) else (some false)) else (some false)))
end
def scrimlaw8_SmallOwn.f (k : Nat) (a0 : Int) (a1 : List Int) (a2 : List Int) (a3 : Int) : Option (Bool) := (scrimlaw8_known.f k).bind fun t2 => (if (!t2) = true then (some false) else ((scrimlaw8_within.f k a0 3).bind fun t5 => ((scrimlaw8_size.f k t5).bind fun t7 => ((scrimlaw8_Bytes.f k t7 a1).bind fun t9 => ((scrimlaw8_tags.f k).bind fun t15 => (if (decide (0 ≤ t5)) = true then (if (decide (t5 < (t15.length : Int))) = true then ((small_New.f k (rd t15 t5) t9).bind fun t24 => (if t24.1.isSome = true then ((t24.1).bind fun s26 => ((scrimlaw8_Bytes.f k 8 a2).bind fun t30 => ((small_Small_Block.f k s26 t30 false).bind fun t36 => (scrimlaw8_SmallOwn.l0 k a2 a3 s26 t30 t36 t5 t9 t9 0)))) else (some false))) else (none)) else (none)))))))
set_option maxRecDepth 100000 in
set_option maxHeartbeats 8000000 in
theorem scrimlaw8_SmallOwn.calls (k : Nat) (a0 : Int) (Ap1 : Option Addr) (np1 cp1 : Nat) (a1 : List Int) (Ap2 : Option Addr) (np2 cp2 : Nat) (a2 : List Int) (a3 : Int) (r : Bool) (w : World) (hr1 : Rd w (.slice Ap1 np1 cp1) (nums .u8 a1)) (hr2 : Rd w (.slice Ap2 np2 cp2) (nums .u8 a2)) (h : scrimlaw8_SmallOwn.f k a0 a1 a2 a3 = some r) :
    Calls Go.Proofs.Try.prog 7 #[.int .i64 a0, (.slice Ap1 np1 cp1), (.slice Ap2 np2 cp2), .int .u8 a3] w (Ret fun v w' => v = .bool r ∧ Mem w w' []) := by
  obtain rfl : a1.length = np1 := by have h_ := hr1.1; simpa [nums_length, bools_length, strs_length] using h_
  obtain rfl : a2.length = np2 := by have h_ := hr2.1; simpa [nums_length, bools_length, strs_length] using h_
  unfold scrimlaw8_SmallOwn.f at h
  refine calls_of [.int .i64 a0, .slice Ap1 a1.length cp1, .slice Ap2 a2.length cp2, .int .u8 a3] (fn := Go.Proofs.Try.f7) Go.Proofs.Try.func7 (by kernel_rfl) (by kernel_rfl) ?_
  have hM := Mem.refl w
  refine RunF.go 7 [0, 1, 2, 3] (k' := (pin Go.Proofs.Try.f7 [1, 0, 0] 0)) (L' := [(0, .int .i64 a0), (1, .slice Ap1 a1.length cp1), (2, .slice Ap2 a2.length cp2), (3, .int .u8 a3)]) (w' := w) (by kernel_rfl) ?_
  obtain ⟨t2, ht2, h⟩ := Option.bind_eq_some_iff.mp h
  refine RunF.call (d := some 23) (g := 12) (args := #[]) (k2 := (pin Go.Proofs.Try.f7 [1, 0, 0] 1)) (by kernel_rfl) (scrimlaw8_known.calls k t2 _ ht2) ?_
  rintro _ W1 ⟨rfl, hM_⟩
  replace hM := hM.call hM_
  clear hM_ ht2
  refine RunF.go 2 [0, 1, 2, 3, 24] (k' := (pl Go.Proofs.Try.f7 [1, 0, 1])) (L' := [(0, .int .i64 a0), (1, .slice Ap1 a1.length cp1), (2, .slice Ap2 a2.length cp2), (3, .int .u8 a3), (24, .bool (!t2))]) (w' := W1) (by kernel_rfl) ?_
  rcases two (!t2) with c3 | c3
  · replace h := of_true h c3
    refine RunF.know 24 (b := true) (by kernel_rfl) c3 ?_
    refine RunF.go 5 [8] (k' := (pl Go.Proofs.Try.f7 [1, 0, 1, 0, 1])) (L' := [(8, .bool false)]) (w' := W1) (by kernel_rfl) ?_
    obtain rfl := Option.some.inj h
    exact RunF.ret1 8 (.bool false) (fn := Go.Proofs.Try.f7) Go.Proofs.Try.func7 (by kernel_rfl) (by kernel_rfl) (by kernel_rfl) ⟨_, rfl, rfl, (hM.pick [] rfl rfl)⟩
  · replace h := of_false h c3
    refine RunF.know 24 (b := false) (by kernel_rfl) c3 ?_
    refine RunF.go 5 [1, 2, 3, 25] (k' := (pin Go.Proofs.Try.f7 [1, 1, 0] 1)) (L' := [(1, .slice Ap1 a1.length cp1), (2, .slice Ap2 a2.length cp2), (3, .int .u8 a3), (25, .int .i64 a0)]) (w' := W1) (by kernel_rfl) ?_
    obtain ⟨t5, ht5, h⟩ := Option.bind_eq_some_iff.mp h
    refine RunF.call (d := some 26) (g := 20) (args := #[.int .i64 a0, .int .i64 3]) (k2 := (pin Go.Proofs.Try.f7 [1, 1, 0] 2)) (by kernel_rfl) (scrimlaw8_within.calls k a0 3 t5 _ ht5) ?_
    rintro _ W4 ⟨rfl, hM_⟩
    replace hM := hM.call hM_
    clear hM_ ht5
    refine RunF.go 5 [1, 2, 3, 9, 27] (k' := (pin Go.Proofs.Try.f7 [1, 1, 1, 0] 1)) (L' := [(1, .slice Ap1 a1.length cp1), (2, .slice Ap2 a2.length cp2), (3, .int .u8 a3), (9, .int .i64 t5), (27, .int .i64 t5)]) (w' := W4) (by kernel_rfl) ?_
    obtain ⟨t7, ht7, h⟩ := Option.bind_eq_some_iff.mp h
    refine RunF.call (d := some 28) (g := 16) (args := #[.int .i64 t5]) (k2 := (pin Go.Proofs.Try.f7 [1, 1, 1, 0] 2)) (by kernel_rfl) (scrimlaw8_size.calls k t5 t7 _ ht7) ?_
    rintro _ W6 ⟨rfl, hM_⟩
    replace hM := hM.call hM_
    clear hM_ ht7
    refine RunF.go 1 [2, 3, 9, 28, 29] (k' := (pin Go.Proofs.Try.f7 [1, 1, 1, 0] 3)) (L' := [(2, .slice Ap2 a2.length cp2), (3, .int .u8 a3), (9, .int .i64 t5), (28, .int .i64 t7), (29, .slice Ap1 a1.length cp1)]) (w' := W6) (by kernel_rfl) ?_
    obtain ⟨t9, ht9, h⟩ := Option.bind_eq_some_iff.mp h
    refine RunF.call (d := some 30) (g := 13) (args := #[.int .i64 t7, .slice Ap1 a1.length cp1]) (k2 := (pin Go.Proofs.Try.f7 [1, 1, 1, 0] 4)) (by kernel_rfl) (scrimlaw8_Bytes.calls k t7 Ap1 a1.length cp1 a1 t9 _ (hr1.mono hM.below) ht9) ?_
    rintro _ W8 ⟨A10, n11, c12, rfl, hM_⟩
    obtain rfl : t9.length = n11 := by have h_ := (hM_.rd 0 rfl).1; simpa [nums_length, bools_length, strs_length] using h_
    replace hM := hM.call hM_
    clear hM_ ht9
    refine RunF.go 4 [2, 3, 9, 10] (k' := (pin Go.Proofs.Try.f7 [1, 1, 1, 1, 0] 0)) (L' := [(2, .slice Ap2 a2.length cp2), (3, .int .u8 a3), (9, .int .i64 t5), (10, .slice A10 t9.length c12)]) (w' := W8) (by kernel_rfl) ?_
    obtain ⟨t15, ht15, h⟩ := Option.bind_eq_some_iff.mp h
    refine RunF.call (d := some 32) (g := 15) (args := #[]) (k2 := (pin Go.Proofs.Try.f7 [1, 1, 1, 1, 0] 1)) (by kernel_rfl) (scrimlaw8_tags.calls k t15 _ ht15) ?_
    rintro _ W14 ⟨A16, n17, c18, rfl, hM_⟩
    obtain rfl : t15.length = n17 := by have h_ := (hM_.rd 0 rfl).1; simpa [nums_length, bools_length, strs_length] using h_
    replace hM := hM.call hM_
    clear hM_ ht15
    refine RunF.go 1 [2, 3, 9, 10, 32, 33] (k' := (pin Go.Proofs.Try.f7 [1, 1, 1, 1, 0] 2)) (L' := [(2, .slice Ap2 a2.length cp2), (3, .int .u8 a3), (9, .int .i64 t5), (10, .slice A10 t9.length c12), (32, .slice A16 t15.length c18), (33, .int .i64 t5)]) (w' := W14) (by kernel_rfl) ?_
    rcases two (decide (0 ≤ t5)) with c21 | c21
    · replace h := of_true h c21
      rcases two (decide (t5 < (t15.length : Int))) with c22 | c22
      · replace h := of_true h c22
        obtain ⟨q20, hAq20, hcq20, hfq20, hlq20⟩ := hM.num_at 0 rfl (i := t5) (of_decide_eq_true c21) (by have h_ := of_decide_eq_true c22; omega)
        refine RunF.y (idx_own (d := some 34) (A := A16) (m := t15.length) (i := t5) (k2 := (pin Go.Proofs.Try.f7 [1, 1, 1, 1, 0] 3)) (by kernel_rfl) (of_decide_eq_true c21) (by have h_ := of_decide_eq_true c22; omega) hAq20) trivial ?_
        refine RunF.y (ld_y (d := some 35) (p := ⟨q20, (t5 : Int).toNat, none⟩) (k2 := (pin Go.Proofs.Try.f7 [1, 1, 1, 1, 0] 4)) (.int .i64 (rd t15 t5)) (by kernel_rfl)) hcq20 ?_
        refine RunF.go 1 [2, 3, 9, 10, 35, 36] (k' := (pin Go.Proofs.Try.f7 [1, 1, 1, 1, 0] 5)) (L' := [(2, .slice Ap2 a2.length cp2), (3, .int .u8 a3), (9, .int .i64 t5), (10, .slice A10 t9.length c12), (35, .int .i64 (rd t15 t5)), (36, .slice A10 t9.length c12)]) (w' := W14) (by kernel_rfl) ?_
        obtain ⟨t24, ht24, h⟩ := Option.bind_eq_some_iff.mp h
        refine RunF.call (d := some 37) (g := 14) (args := #[.int .i64 (rd t15 t5), .slice A10 t9.length c12]) (k2 := (pin Go.Proofs.Try.f7 [1, 1, 1, 1, 0] 6)) (by kernel_rfl) (small_New.calls k (rd t15 t5) A10 t9.length c12 t9 t24 _ (hM.rd 1 rfl) ht24) ?_
        rintro _ W23 ⟨vt24_0, Ft24_0, rfl, hRt24_0, hM_⟩
        replace hM : Mem w W23 (Gs [⟨.slice A16 t15.length c18, 3, 1, nums .i64 t15⟩, ⟨.slice A10 t9.length c12, 5, 1, nums .u8 t9⟩] [Ft24_0]) := (Mem.callG (hM.as (H' := Gs [⟨.slice A16 t15.length c18, 3, 1, nums .i64 t15⟩, ⟨.slice A10 t9.length c12, 5, 1, nums .u8 t9⟩] []) rfl) hM_).as rfl
        clear hM_ ht24
        refine RunF.go 10 [2, 3, 9, 10, 11, 40] (k' := (pin Go.Proofs.Try.f7 [1, 1, 1, 1, 1, 0, 0] 1)) (L' := [(2, .slice Ap2 a2.length cp2), (3, .int .u8 a3), (9, .int .i64 t5), (10, .slice A10 t9.length c12), (11, vt24_0), (40, vt24_0)]) (w' := W23) (by kernel_rfl) ?_
        rcases two (t24.1.isSome) with c25 | c25
        · replace h := of_true h c25
          obtain ⟨s26, hx_, h⟩ := Option.bind_eq_some_iff.mp h
          have hps26 := rOpt.some hRt24_0 hx_
          obtain ⟨g27, _, rfl, hco28, _, _, rfl, ⟨Ao28_0, co28_0, rfl, ho28_0⟩, rfl⟩ := id hps26
          refine RunF.go 7 [2, 3, 9, 10, 11, 42] (k' := (pin Go.Proofs.Try.f7 [1, 1, 1, 1, 1, 1, 0] 1)) (L' := [(2, .slice Ap2 a2.length cp2), (3, .int .u8 a3), (9, .int .i64 t5), (10, .slice A10 t9.length c12), (11, .pointer (some ⟨g27, 0, none⟩)), (42, .slice Ap2 a2.length cp2)]) (w' := W23) (by kernel_rfl) ?_
          obtain ⟨t30, ht30, h⟩ := Option.bind_eq_some_iff.mp h
          refine RunF.call (d := some 43) (g := 13) (args := #[.int .i64 8, .slice Ap2 a2.length cp2]) (k2 := (pin Go.Proofs.Try.f7 [1, 1, 1, 1, 1, 1, 0] 2)) (by kernel_rfl) (scrimlaw8_Bytes.calls k 8 Ap2 a2.length cp2 a2 t30 _ (hr2.mono hM.below) ht30) ?_
          rintro _ W29 ⟨A31, n32, c33, rfl, hM_⟩
          obtain rfl : t30.length = n32 := by have h_ := (hM_.rd 0 rfl).1; simpa [nums_length, bools_length, strs_length] using h_
          replace hM : Mem w W29 (Gs [⟨.slice A31 t30.length c33, 5, 1, nums .u8 t30⟩, ⟨.slice A16 t15.length c18, 3, 1, nums .i64 t15⟩, ⟨.slice A10 t9.length c12, 5, 1, nums .u8 t9⟩] [Ft24_0]) := (Mem.callG (hM.as (H' := Gs [⟨.slice A16 t15.length c18, 3, 1, nums .i64 t15⟩, ⟨.slice A10 t9.length c12, 5, 1, nums .u8 t9⟩] [Ft24_0]) rfl) hM_.grp).as rfl
          clear hM_ ht30
          refine RunF.go 6 [2, 3, 9, 10, 11, 13, 45, 46] (k' := (pin Go.Proofs.Try.f7 [1, 1, 1, 1, 1, 1, 1, 0] 2)) (L' := [(2, .slice Ap2 a2.length cp2), (3, .int .u8 a3), (9, .int .i64 t5), (10, .slice A10 t9.length c12), (11, .pointer (some ⟨g27, 0, none⟩)), (13, .slice A31 t30.length c33), (45, .pointer (some ⟨g27, 0, none⟩)), (46, .slice A31 t30.length c33)]) (w' := W29) (by kernel_rfl) ?_
          obtain ⟨t36, ht36, h⟩ := Option.bind_eq_some_iff.mp h
          refine RunF.call (d := some 47) (g := 18) (args := #[.pointer (some ⟨g27, 0, none⟩), .slice A31 t30.length c33, .bool false]) (k2 := (pin Go.Proofs.Try.f7 [1, 1, 1, 1, 1, 1, 1, 0] 3)) (by kernel_rfl) (small_Small_Block.calls k (.pointer (some ⟨g27, 0, none⟩)) (Oks Ft24_0) s26 A31 t30.length c33 t30 false t36 _ (hM.rd 0 rfl) hps26 (fun _ hb_ => ((Mem.oks (hM.as (H' := Gs [⟨.slice A31 t30.length c33, 5, 1, nums .u8 t30⟩, ⟨.slice A16 t15.length c18, 3, 1, nums .i64 t15⟩, ⟨.slice A10 t9.length c12, 5, 1, nums .u8 t9⟩] [Ft24_0]) rfl) 0 rfl).kept hb_)) ht36) ?_
          rintro _ W35 ⟨A37, n38, c39, rfl, hM_⟩
          obtain rfl : t36.1.length = n38 := by have h_ := (hM_.rd 0 rfl).1; simpa [nums_length, bools_length, strs_length] using h_
          replace hM : Mem w W35 (Gs [⟨.slice A37 t36.1.length c39, 5, 1, nums .u8 t36.1⟩, ⟨.slice A31 t30.length c33, 5, 1, nums .u8 t30⟩, ⟨.slice A16 t15.length c18, 3, 1, nums .i64 t15⟩, ⟨.slice A10 t9.length c12, 5, 1, nums .u8 t9⟩] [Ft24_0]) := (Mem.callG (hM.as (H' := Gs [⟨.slice A31 t30.length c33, 5, 1, nums .u8 t30⟩, ⟨.slice A16 t15.length c18, 3, 1, nums .i64 t15⟩, ⟨.slice A10 t9.length c12, 5, 1, nums .u8 t9⟩] [Ft24_0]) rfl) hM_.grp).as rfl
          clear hM_ ht36
          refine RunF.go 9 [2, 3, 9, 10, 11, 13, 14, 50] (k' := (pin Go.Proofs.Try.f7 [1, 1, 1, 1, 1, 1, 1, 1, 0] 1)) (L' := [(2, .slice Ap2 a2.length cp2), (3, .int .u8 a3), (9, .int .i64 t5), (10, .slice A10 t9.length c12), (11, .pointer (some ⟨g27, 0, none⟩)), (13, .slice A31 t30.length c33), (14, .slice A37 t36.1.length c39), (50, .slice A37 t36.1.length c39)]) (w' := W35) (by kernel_rfl) ?_
          refine RunF.y (str_y (d := some 51) (A := A37) (m := t36.1.length) (c := c39) (k2 := (pin Go.Proofs.Try.f7 [1, 1, 1, 1, 1, 1, 1, 1, 0] 2)) t36.1 (by kernel_rfl)) (hM.rd 0 rfl) ?_
          refine RunF.go 9 [2, 3, 9, 10, 11, 13, 14, 16, 17] (k' := (pl Go.Proofs.Try.f7 [1, 1, 1, 1, 1, 1, 1, 1, 1, 0, 1, 0, 0])) (L' := [(2, .slice Ap2 a2.length cp2), (3, .int .u8 a3), (9, .int .i64 t5), (10, .slice A10 t9.length c12), (11, .pointer (some ⟨g27, 0, none⟩)), (13, .slice A31 t30.length c33), (14, .slice A37 t36.1.length c39), (16, .string (strOf t36.1)), (17, .int .i64 0)]) (w' := W35) (by kernel_rfl) ?_
          have l0 : ∀ (k_ : Nat), k_ ≤ k → ∀ (x10_0 : List Int) (x17_0 : Int) (W : World) (hM : Mem w W (Gs [⟨.slice A10 t9.length c12, 5, 1, nums .u8 x10_0⟩, ⟨.slice A31 t30.length c33, 5, 1, nums .u8 t30⟩, ⟨.slice A37 t36.1.length c39, 5, 1, nums .u8 t36.1⟩] [Ft24_0])) (h : scrimlaw8_SmallOwn.l0 k_ a2 a3 s26 t30 t36 t5 t9 x10_0 x17_0 = some r), RunF Go.Proofs.Try.prog (Ret fun v w' => v = .bool r ∧ Mem w w' []) 7 (pl Go.Proofs.Try.f7 [1, 1, 1, 1, 1, 1, 1, 1, 1, 0, 1, 0, 0]) 115 [(2, .slice Ap2 a2.length cp2), (3, .int .u8 a3), (9, .int .i64 t5), (10, .slice A10 t9.length c12), (11, .pointer (some ⟨g27, 0, none⟩)), (13, .slice A31 t30.length c33), (14, .slice A37 t36.1.length c39), (16, .string (strOf t36.1)), (17, .int .i64 x17_0)] W := by
            intro k_
            induction k_ using Nat.strongRecOn with
            | _ k_ ih0 =>
              intro hk x10_0 x17_0 W hM h
              cases k_ with
              | zero => exact absurd h (by simp [scrimlaw8_SmallOwn.l0])
              | succ k =>
                simp only [scrimlaw8_SmallOwn.l0] at h
                replace ih0 : ∀ m, m ≤ k → _ := fun m hm => ih0 m (by omega) (by omega)
                refine RunF.go 8 [2, 3, 9, 10, 11, 13, 14, 16, 17, 55] (k' := (pl Go.Proofs.Try.f7 [1, 1, 1, 1, 1, 1, 1, 1, 1, 0, 1, 0, 0, 0, 1])) (L' := [(2, .slice Ap2 a2.length cp2), (3, .int .u8 a3), (9, .int .i64 t5), (10, .slice A10 t9.length c12), (11, .pointer (some ⟨g27, 0, none⟩)), (13, .slice A31 t30.length c33), (14, .slice A37 t36.1.length c39), (16, .string (strOf t36.1)), (17, .int .i64 x17_0), (55, .bool (decide (x17_0 < (t9.length : Int))))]) (w' := W) (by kernel_rfl) ?_
                rcases two (decide (x17_0 < (t9.length : Int))) with c41 | c41
                · replace h := of_true h c41
                  refine RunF.know 55 (b := true) (by kernel_rfl) c41 ?_
                  refine RunF.go 7 [2, 3, 9, 10, 11, 13, 14, 16, 17, 58, 59] (k' := (pin Go.Proofs.Try.f7 [1, 1, 1, 1, 1, 1, 1, 1, 1, 0, 1, 0, 0, 1, 0, 0] 2)) (L' := [(2, .slice Ap2 a2.length cp2), (3, .int .u8 a3), (9, .int .i64 t5), (10, .slice A10 t9.length c12), (11, .pointer (some ⟨g27, 0, none⟩)), (13, .slice A31 t30.length c33), (14, .slice A37 t36.1.length c39), (16, .string (strOf t36.1)), (17, .int .i64 x17_0), (58, .slice A10 t9.length c12), (59, .int .i64 x17_0)]) (w' := W) (by kernel_rfl) ?_
                  rcases two (decide (0 ≤ x17_0)) with c43 | c43
                  · replace h := of_true h c43
                    rcases two (decide (x17_0 < (t9.length : Int))) with c44 | c44
                    · replace h := of_true h c44
                      obtain ⟨q42, hAq42, hcq42, hfq42, hlq42⟩ := hM.num_at 0 rfl (i := x17_0) (of_decide_eq_true c43) (by have h_ := of_decide_eq_true c44; omega)
                      refine RunF.y (idx_own (d := some 60) (A := A10) (m := t9.length) (i := x17_0) (k2 := (pin Go.Proofs.Try.f7 [1, 1, 1, 1, 1, 1, 1, 1, 1, 0, 1, 0, 0, 1, 0, 0] 3)) (by kernel_rfl) (of_decide_eq_true c43) (by have h_ := of_decide_eq_true c44; omega) hAq42) trivial ?_
                      refine RunF.y (ld_y (d := some 61) (p := ⟨q42, (x17_0 : Int).toNat, none⟩) (k2 := (pin Go.Proofs.Try.f7 [1, 1, 1, 1, 1, 1, 1, 1, 1, 0, 1, 0, 0, 1, 0, 0] 4)) (.int .u8 (rd x10_0 x17_0)) (by kernel_rfl)) hcq42 ?_
                      refine RunF.go 2 [2, 3, 9, 10, 11, 13, 14, 16, 17, 58, 59, 63] (k' := (pin Go.Proofs.Try.f7 [1, 1, 1, 1, 1, 1, 1, 1, 1, 0, 1, 0, 0, 1, 0, 0] 6)) (L' := [(2, .slice Ap2 a2.length cp2), (3, .int .u8 a3), (9, .int .i64 t5), (10, .slice A10 t9.length c12), (11, .pointer (some ⟨g27, 0, none⟩)), (13, .slice A31 t30.length c33), (14, .slice A37 t36.1.length c39), (16, .string (strOf t36.1)), (17, .int .i64 x17_0), (58, .slice A10 t9.length c12), (59, .int .i64 x17_0), (63, .int .u8 (U8 ((rd x10_0 x17_0) + a3)))]) (w' := W) (by kernel_rfl) ?_
                      rcases two (decide (0 ≤ x17_0)) with c46 | c46
                      · replace h := of_true h c46
                        rcases two (decide (x17_0 < (t9.length : Int))) with c47 | c47
                        · replace h := of_true h c47
                          obtain ⟨q45, hAq45, hcq45, hfq45, hlq45⟩ := hM.num_at 0 rfl (i := x17_0) (of_decide_eq_true c46) (by have h_ := of_decide_eq_true c47; omega)
                          refine RunF.y (idx_own (d := some 64) (A := A10) (m := t9.length) (i := x17_0) (k2 := (pin Go.Proofs.Try.f7 [1, 1, 1, 1, 1, 1, 1, 1, 1, 0, 1, 0, 0, 1, 0, 0] 7)) (by kernel_rfl) (of_decide_eq_true c46) (by have h_ := of_decide_eq_true c47; omega) hAq45) trivial ?_
                          obtain ⟨g_, hA_, hc_, hf_, hl_⟩ := hM.num_at 0 rfl (i := x17_0) (of_decide_eq_true c46) (by have h_ := of_decide_eq_true c47; omega)
                          obtain rfl : q45 = g_ := by rw [hAq45] at hA_; injection hA_ with hA_; injection hA_
                          refine RunF.doesU (st_u (p := (⟨q45, (x17_0 : Int).toNat, none⟩ : Addr)) (v := .int .u8 (U8 ((rd x10_0 x17_0) + a3))) (k2 := (pin Go.Proofs.Try.f7 [1, 1, 1, 1, 1, 1, 1, 1, 1, 0, 1, 0, 0, 1, 0, 0] 8)) (by kernel_rfl) hc_ hf_) ?_
                          replace hM : Mem w (W.setCell (⟨q45, (x17_0 : Int).toNat, none⟩ : Addr) (.int .u8 (U8 ((rd x10_0 x17_0) + a3)))) (Gs [⟨.slice A10 t9.length c12, 5, 1, nums .u8 (x10_0.set (x17_0 : Int).toNat (U8 ((rd x10_0 x17_0) + a3)))⟩, ⟨.slice A31 t30.length c33, 5, 1, nums .u8 t30⟩, ⟨.slice A37 t36.1.length c39, 5, 1, nums .u8 t36.1⟩] [Ft24_0]) := Mem.put_num [] (Gs [⟨.slice A31 t30.length c33, 5, 1, nums .u8 t30⟩, ⟨.slice A37 t36.1.length c39, 5, 1, nums .u8 t36.1⟩] [Ft24_0]) (hM.as rfl) hAq45 _ hl_ _
                          generalize W.setCell (⟨q45, (x17_0 : Int).toNat, none⟩ : Addr) (.int .u8 (U8 ((rd x10_0 x17_0) + a3))) = W48 at hM ⊢
                          clear hc_ hf_ hl_ hA_ hcq45
                          refine RunF.go 8 [2, 3, 9, 10, 11, 13, 14, 16, 17] (k' := (pl Go.Proofs.Try.f7 [1, 1, 1, 1, 1, 1, 1, 1, 1, 0, 1, 0, 0])) (L' := [(2, .slice Ap2 a2.length cp2), (3, .int .u8 a3), (9, .int .i64 t5), (10, .slice A10 t9.length c12), (11, .pointer (some ⟨g27, 0, none⟩)), (13, .slice A31 t30.length c33), (14, .slice A37 t36.1.length c39), (16, .string (strOf t36.1)), (17, .int .i64 (I64 (x17_0 + 1)))]) (w' := W48) (by kernel_rfl) ?_
                          exact ih0 k (by omega) (x10_0.set (x17_0 : Int).toNat (U8 ((rd x10_0 x17_0) + a3))) (I64 (x17_0 + 1)) _ (Mem.pickF (hM.as (H' := Gs [⟨.slice A10 t9.length c12, 5, 1, nums .u8 (x10_0.set (x17_0 : Int).toNat (U8 ((rd x10_0 x17_0) + a3)))⟩, ⟨.slice A31 t30.length c33, 5, 1, nums .u8 t30⟩, ⟨.slice A37 t36.1.length c39, 5, 1, nums .u8 t36.1⟩] [Ft24_0]) rfl) [0, 1, 2, 3] rfl rfl rfl) h
                        · replace h := of_false h c47
                          cases h
                      · replace h := of_false h c46
                        cases h
                    · replace h := of_false h c44
                      cases h
                  · replace h := of_false h c43
                    cases h
                · replace h := of_false h c41
                  refine RunF.know 55 (b := false) (by kernel_rfl) c41 ?_
                  refine RunF.go 4 [2, 3, 9, 10, 11, 13, 14, 16] (k' := (pin Go.Proofs.Try.f7 [1, 1, 1, 1, 1, 1, 1, 1, 1, 1, 0] 0)) (L' := [(2, .slice Ap2 a2.length cp2), (3, .int .u8 a3), (9, .int .i64 t5), (10, .slice A10 t9.length c12), (11, .pointer (some ⟨g27, 0, none⟩)), (13, .slice A31 t30.length c33), (14, .slice A37 t36.1.length c39), (16, .string (strOf t36.1))]) (w' := W) (by kernel_rfl) ?_
                  obtain ⟨t50, ht50, h⟩ := Option.bind_eq_some_iff.mp h
                  refine RunF.call (d := some 66) (g := 15) (args := #[]) (k2 := (pin Go.Proofs.Try.f7 [1, 1, 1, 1, 1, 1, 1, 1, 1, 1, 0] 1)) (by kernel_rfl) (scrimlaw8_tags.calls k t50 _ ht50) ?_
                  rintro _ W49 ⟨A51, n52, c53, rfl, hM_⟩
                  obtain rfl : t50.length = n52 := by have h_ := (hM_.rd 0 rfl).1; simpa [nums_length, bools_length, strs_length] using h_
                  replace hM : Mem w W49 (Gs [⟨.slice A51 t50.length c53, 3, 1, nums .i64 t50⟩, ⟨.slice A10 t9.length c12, 5, 1, nums .u8 x10_0⟩, ⟨.slice A31 t30.length c33, 5, 1, nums .u8 t30⟩, ⟨.slice A37 t36.1.length c39, 5, 1, nums .u8 t36.1⟩] [Ft24_0]) := (Mem.callG (hM.as (H' := Gs [⟨.slice A10 t9.length c12, 5, 1, nums .u8 x10_0⟩, ⟨.slice A31 t30.length c33, 5, 1, nums .u8 t30⟩, ⟨.slice A37 t36.1.length c39, 5, 1, nums .u8 t36.1⟩] [Ft24_0]) rfl) hM_.grp).as rfl
                  clear hM_ ht50
                  refine RunF.go 1 [2, 3, 10, 11, 13, 14, 16, 66, 67] (k' := (pin Go.Proofs.Try.f7 [1, 1, 1, 1, 1, 1, 1, 1, 1, 1, 0] 2)) (L' := [(2, .slice Ap2 a2.length cp2), (3, .int .u8 a3), (10, .slice A10 t9.length c12), (11, .pointer (some ⟨g27, 0, none⟩)), (13, .slice A31 t30.length c33), (14, .slice A37 t36.1.length c39), (16, .string (strOf t36.1)), (66, .slice A51 t50.length c53), (67, .int .i64 t5)]) (w' := W49) (by kernel_rfl) ?_
                  rcases two (decide (0 ≤ t5)) with c56 | c56
                  · replace h := of_true h c56
                    rcases two (decide (t5 < (t50.length : Int))) with c57 | c57
                    · replace h := of_true h c57
                      obtain ⟨q55, hAq55, hcq55, hfq55, hlq55⟩ := hM.num_at 0 rfl (i := t5) (of_decide_eq_true c56) (by have h_ := of_decide_eq_true c57; omega)
                      refine RunF.y (idx_own (d := some 68) (A := A51) (m := t50.length) (i := t5) (k2 := (pin Go.Proofs.Try.f7 [1, 1, 1, 1, 1, 1, 1, 1, 1, 1, 0] 3)) (by kernel_rfl) (of_decide_eq_true c56) (by have h_ := of_decide_eq_true c57; omega) hAq55) trivial ?_
                      refine RunF.y (ld_y (d := some 69) (p := ⟨q55, (t5 : Int).toNat, none⟩) (k2 := (pin Go.Proofs.Try.f7 [1, 1, 1, 1, 1, 1, 1, 1, 1, 1, 0] 4)) (.int .i64 (rd t50 t5)) (by kernel_rfl)) hcq55 ?_
                      refine RunF.go 1 [2, 3, 11, 13, 14, 16, 69, 70] (k' := (pin Go.Proofs.Try.f7 [1, 1, 1, 1, 1, 1, 1, 1, 1, 1, 0] 5)) (L' := [(2, .slice Ap2 a2.length cp2), (3, .int .u8 a3), (11, .pointer (some ⟨g27, 0, none⟩)), (13, .slice A31 t30.length c33), (14, .slice A37 t36.1.length c39), (16, .string (strOf t36.1)), (69, .int .i64 (rd t50 t5)), (70, .slice A10 t9.length c12)]) (w' := W49) (by kernel_rfl) ?_
                      obtain ⟨t59, ht59, h⟩ := Option.bind_eq_some_iff.mp h
                      refine RunF.call (d := some 71) (g := 14) (args := #[.int .i64 (rd t50 t5), .slice A10 t9.length c12]) (k2 := (pin Go.Proofs.Try.f7 [1, 1, 1, 1, 1, 1, 1, 1, 1, 1, 0] 6)) (by kernel_rfl) (small_New.calls k (rd t50 t5) A10 t9.length c12 x10_0 t59 _ (hM.rd 1 rfl) ht59) ?_
                      rintro _ W58 ⟨vt59_0, Ft59_0, rfl, hRt59_0, hM_⟩
                      replace hM : Mem w W58 (Gs [⟨.slice A51 t50.length c53, 3, 1, nums .i64 t50⟩, ⟨.slice A10 t9.length c12, 5, 1, nums .u8 x10_0⟩, ⟨.slice A31 t30.length c33, 5, 1, nums .u8 t30⟩, ⟨.slice A37 t36.1.length c39, 5, 1, nums .u8 t36.1⟩] [Ft59_0, Ft24_0]) := (Mem.callG (hM.as (H' := Gs [⟨.slice A51 t50.length c53, 3, 1, nums .i64 t50⟩, ⟨.slice A10 t9.length c12, 5, 1, nums .u8 x10_0⟩, ⟨.slice A31 t30.length c33, 5, 1, nums .u8 t30⟩, ⟨.slice A37 t36.1.length c39, 5, 1, nums .u8 t36.1⟩] [Ft24_0]) rfl) hM_).as rfl
                      clear hM_ ht59
                      refine RunF.go 10 [2, 3, 11, 13, 14, 16, 18, 74] (k' := (pin Go.Proofs.Try.f7 [1, 1, 1, 1, 1, 1, 1, 1, 1, 1, 1, 0, 0] 1)) (L' := [(2, .slice Ap2 a2.length cp2), (3, .int .u8 a3), (11, .pointer (some ⟨g27, 0, none⟩)), (13, .slice A31 t30.length c33), (14, .slice A37 t36.1.length c39), (16, .string (strOf t36.1)), (18, vt59_0), (74, vt59_0)]) (w' := W58) (by kernel_rfl) ?_
                      rcases two (t59.1.isSome) with c60 | c60
                      · replace h := of_true h c60
                        obtain ⟨s61, hx_, h⟩ := Option.bind_eq_some_iff.mp h
                        have hps61 := rOpt.some hRt59_0 hx_
                        obtain ⟨g62, _, rfl, hco63, _, _, rfl, ⟨Ao63_0, co63_0, rfl, ho63_0⟩, rfl⟩ := id hps61
                        refine RunF.go 6 [2, 3, 11, 13, 14, 16, 76, 77] (k' := (pin Go.Proofs.Try.f7 [1, 1, 1, 1, 1, 1, 1, 1, 1, 1, 1, 0, 1, 0] 2)) (L' := [(2, .slice Ap2 a2.length cp2), (3, .int .u8 a3), (11, .pointer (some ⟨g27, 0, none⟩)), (13, .slice A31 t30.length c33), (14, .slice A37 t36.1.length c39), (16, .string (strOf t36.1)), (76, .pointer (some ⟨g62, 0, none⟩)), (77, .slice A31 t30.length c33)]) (w' := W58) (by kernel_rfl) ?_
                        obtain ⟨t65, ht65, h⟩ := Option.bind_eq_some_iff.mp h
                        refine RunF.call (d := some 78) (g := 18) (args := #[.pointer (some ⟨g62, 0, none⟩), .slice A31 t30.length c33, .bool true]) (k2 := (pin Go.Proofs.Try.f7 [1, 1, 1, 1, 1, 1, 1, 1, 1, 1, 1, 0, 1, 0] 3)) (by kernel_rfl) (small_Small_Block.calls k (.pointer (some ⟨g62, 0, none⟩)) (Oks Ft59_0) s61 A31 t30.length c33 t30 true t65 _ (hM.rd 2 rfl) hps61 (fun _ hb_ => ((Mem.oks (hM.as (H' := Gs [⟨.slice A51 t50.length c53, 3, 1, nums .i64 t50⟩, ⟨.slice A10 t9.length c12, 5, 1, nums .u8 x10_0⟩, ⟨.slice A31 t30.length c33, 5, 1, nums .u8 t30⟩, ⟨.slice A37 t36.1.length c39, 5, 1, nums .u8 t36.1⟩] [Ft59_0, Ft24_0]) rfl) 0 rfl).kept hb_)) ht65) ?_
                        rintro _ W64 ⟨A66, n67, c68, rfl, hM_⟩
                        obtain rfl : t65.1.length = n67 := by have h_ := (hM_.rd 0 rfl).1; simpa [nums_length, bools_length, strs_length] using h_
                        replace hM : Mem w W64 (Gs [⟨.slice A66 t65.1.length c68, 5, 1, nums .u8 t65.1⟩, ⟨.slice A51 t50.length c53, 3, 1, nums .i64 t50⟩, ⟨.slice A10 t9.length c12, 5, 1, nums .u8 x10_0⟩, ⟨.slice A31 t30.length c33, 5, 1, nums .u8 t30⟩, ⟨.slice A37 t36.1.length c39, 5, 1, nums .u8 t36.1⟩] [Ft59_0, Ft24_0]) := (Mem.callG (hM.as (H' := Gs [⟨.slice A51 t50.length c53, 3, 1, nums .i64 t50⟩, ⟨.slice A10 t9.length c12, 5, 1, nums .u8 x10_0⟩, ⟨.slice A31 t30.length c33, 5, 1, nums .u8 t30⟩, ⟨.slice A37 t36.1.length c39, 5, 1, nums .u8 t36.1⟩] [Ft59_0, Ft24_0]) rfl) hM_.grp).as rfl
                        clear hM_ ht65
                        refine RunF.go 8 [2, 3, 11, 13, 14, 16, 20] (k' := (pl Go.Proofs.Try.f7 [1, 1, 1, 1, 1, 1, 1, 1, 1, 1, 1, 1, 0, 1, 0, 0])) (L' := [(2, .slice Ap2 a2.length cp2), (3, .int .u8 a3), (11, .pointer (some ⟨g27, 0, none⟩)), (13, .slice A31 t30.length c33), (14, .slice A37 t36.1.length c39), (16, .string (strOf t36.1)), (20, .int .i64 0)]) (w' := W64) (by kernel_rfl) ?_
                        have l1 : ∀ (k_ : Nat), k_ ≤ k → ∀ (x14_1 : List Int) (x20_1 : Int) (W : World) (hM : Mem w W (Gs [⟨.slice A31 t30.length c33, 5, 1, nums .u8 t30⟩, ⟨.slice A37 t36.1.length c39, 5, 1, nums .u8 x14_1⟩] [Ft59_0, Ft24_0])) (h : scrimlaw8_SmallOwn.l1 k_ a2 a3 s26 t30 t36 x14_1 x20_1 = some r), RunF Go.Proofs.Try.prog (Ret fun v w' => v = .bool r ∧ Mem w w' []) 7 (pl Go.Proofs.Try.f7 [1, 1, 1, 1, 1, 1, 1, 1, 1, 1, 1, 1, 0, 1, 0, 0]) 115 [(2, .slice Ap2 a2.length cp2), (3, .int .u8 a3), (11, .pointer (some ⟨g27, 0, none⟩)), (13, .slice A31 t30.length c33), (14, .slice A37 t36.1.length c39), (16, .string (strOf t36.1)), (20, .int .i64 x20_1)] W := by
                          intro k_
                          induction k_ using Nat.strongRecOn with
                          | _ k_ ih1 =>
                            intro hk x14_1 x20_1 W hM h
                            cases k_ with
                            | zero => exact absurd h (by simp [scrimlaw8_SmallOwn.l1])
                            | succ k =>
                              simp only [scrimlaw8_SmallOwn.l1] at h
                              replace ih1 : ∀ m, m ≤ k → _ := fun m hm => ih1 m (by omega) (by omega)
                              replace ih0 : ∀ m, m ≤ k → _ := fun m hm => ih0 m (by omega)
                              refine RunF.go 8 [2, 3, 11, 13, 14, 16, 20, 82] (k' := (pl Go.Proofs.Try.f7 [1, 1, 1, 1, 1, 1, 1, 1, 1, 1, 1, 1, 0, 1, 0, 0, 0, 1])) (L' := [(2, .slice Ap2 a2.length cp2), (3, .int .u8 a3), (11, .pointer (some ⟨g27, 0, none⟩)), (13, .slice A31 t30.length c33), (14, .slice A37 t36.1.length c39), (16, .string (strOf t36.1)), (20, .int .i64 x20_1), (82, .bool (decide (x20_1 < (t36.1.length : Int))))]) (w' := W) (by kernel_rfl) ?_
                              rcases two (decide (x20_1 < (t36.1.length : Int))) with c70 | c70
                              · replace h := of_true h c70
                                refine RunF.know 82 (b := true) (by kernel_rfl) c70 ?_
                                refine RunF.go 7 [2, 3, 11, 13, 14, 16, 20, 85, 86] (k' := (pin Go.Proofs.Try.f7 [1, 1, 1, 1, 1, 1, 1, 1, 1, 1, 1, 1, 0, 1, 0, 0, 1, 0, 0] 2)) (L' := [(2, .slice Ap2 a2.length cp2), (3, .int .u8 a3), (11, .pointer (some ⟨g27, 0, none⟩)), (13, .slice A31 t30.length c33), (14, .slice A37 t36.1.length c39), (16, .string (strOf t36.1)), (20, .int .i64 x20_1), (85, .slice A37 t36.1.length c39), (86, .int .i64 x20_1)]) (w' := W) (by kernel_rfl) ?_
                                rcases two (decide (0 ≤ x20_1)) with c72 | c72
                                · replace h := of_true h c72
                                  rcases two (decide (x20_1 < (t36.1.length : Int))) with c73 | c73
                                  · replace h := of_true h c73
                                    obtain ⟨q71, hAq71, hcq71, hfq71, hlq71⟩ := hM.num_at 1 rfl (i := x20_1) (of_decide_eq_true c72) (by have h_ := of_decide_eq_true c73; omega)
                                    refine RunF.y (idx_own (d := some 87) (A := A37) (m := t36.1.length) (i := x20_1) (k2 := (pin Go.Proofs.Try.f7 [1, 1, 1, 1, 1, 1, 1, 1, 1, 1, 1, 1, 0, 1, 0, 0, 1, 0, 0] 3)) (by kernel_rfl) (of_decide_eq_true c72) (by have h_ := of_decide_eq_true c73; omega) hAq71) trivial ?_
                                    refine RunF.y (ld_y (d := some 88) (p := ⟨q71, (x20_1 : Int).toNat, none⟩) (k2 := (pin Go.Proofs.Try.f7 [1, 1, 1, 1, 1, 1, 1, 1, 1, 1, 1, 1, 0, 1, 0, 0, 1, 0, 0] 4)) (.int .u8 (rd x14_1 x20_1)) (by kernel_rfl)) hcq71 ?_
                                    refine RunF.go 2 [2, 3, 11, 13, 14, 16, 20, 85, 86, 90] (k' := (pin Go.Proofs.Try.f7 [1, 1, 1, 1, 1, 1, 1, 1, 1, 1, 1, 1, 0, 1, 0, 0, 1, 0, 0] 6)) (L' := [(2, .slice Ap2 a2.length cp2), (3, .int .u8 a3), (11, .pointer (some ⟨g27, 0, none⟩)), (13, .slice A31 t30.length c33), (14, .slice A37 t36.1.length c39), (16, .string (strOf t36.1)), (20, .int .i64 x20_1), (85, .slice A37 t36.1.length c39), (86, .int .i64 x20_1), (90, .int .u8 (U8 ((rd x14_1 x20_1) + a3)))]) (w' := W) (by kernel_rfl) ?_
                                    rcases two (decide (0 ≤ x20_1)) with c75 | c75
                                    · replace h := of_true h c75
                                      rcases two (decide (x20_1 < (t36.1.length : Int))) with c76 | c76
                                      · replace h := of_true h c76
                                        obtain ⟨q74, hAq74, hcq74, hfq74, hlq74⟩ := hM.num_at 1 rfl (i := x20_1) (of_decide_eq_true c75) (by have h_ := of_decide_eq_true c76; omega)
                                        refine RunF.y (idx_own (d := some 91) (A := A37) (m := t36.1.length) (i := x20_1) (k2 := (pin Go.Proofs.Try.f7 [1, 1, 1, 1, 1, 1, 1, 1, 1, 1, 1, 1, 0, 1, 0, 0, 1, 0, 0] 7)) (by kernel_rfl) (of_decide_eq_true c75) (by have h_ := of_decide_eq_true c76; omega) hAq74) trivial ?_
                                        obtain ⟨g_, hA_, hc_, hf_, hl_⟩ := hM.num_at 1 rfl (i := x20_1) (of_decide_eq_true c75) (by have h_ := of_decide_eq_true c76; omega)
                                        obtain rfl : q74 = g_ := by rw [hAq74] at hA_; injection hA_ with hA_; injection hA_
                                        refine RunF.doesU (st_u (p := (⟨q74, (x20_1 : Int).toNat, none⟩ : Addr)) (v := .int .u8 (U8 ((rd x14_1 x20_1) + a3))) (k2 := (pin Go.Proofs.Try.f7 [1, 1, 1, 1, 1, 1, 1, 1, 1, 1, 1, 1, 0, 1, 0, 0, 1, 0, 0] 8)) (by kernel_rfl) hc_ hf_) ?_
                                        replace hM : Mem w (W.setCell (⟨q74, (x20_1 : Int).toNat, none⟩ : Addr) (.int .u8 (U8 ((rd x14_1 x20_1) + a3)))) (Gs [⟨.slice A31 t30.length c33, 5, 1, nums .u8 t30⟩, ⟨.slice A37 t36.1.length c39, 5, 1, nums .u8 (x14_1.set (x20_1 : Int).toNat (U8 ((rd x14_1 x20_1) + a3)))⟩] [Ft59_0, Ft24_0]) := Mem.put_num [⟨.slice A31 t30.length c33, 5, 1, nums .u8 t30⟩] (Gs [] [Ft59_0, Ft24_0]) (hM.as rfl) hAq74 _ hl_ _
                                        generalize W.setCell (⟨q74, (x20_1 : Int).toNat, none⟩ : Addr) (.int .u8 (U8 ((rd x14_1 x20_1) + a3))) = W77 at hM ⊢
                                        clear hc_ hf_ hl_ hA_ hcq74
                                        refine RunF.go 8 [2, 3, 11, 13, 14, 16, 20] (k' := (pl Go.Proofs.Try.f7 [1, 1, 1, 1, 1, 1, 1, 1, 1, 1, 1, 1, 0, 1, 0, 0])) (L' := [(2, .slice Ap2 a2.length cp2), (3, .int .u8 a3), (11, .pointer (some ⟨g27, 0, none⟩)), (13, .slice A31 t30.length c33), (14, .slice A37 t36.1.length c39), (16, .string (strOf t36.1)), (20, .int .i64 (I64 (x20_1 + 1)))]) (w' := W77) (by kernel_rfl) ?_
                                        exact ih1 k (by omega) (x14_1.set (x20_1 : Int).toNat (U8 ((rd x14_1 x20_1) + a3))) (I64 (x20_1 + 1)) _ (Mem.pickF (hM.as (H' := Gs [⟨.slice A31 t30.length c33, 5, 1, nums .u8 t30⟩, ⟨.slice A37 t36.1.length c39, 5, 1, nums .u8 (x14_1.set (x20_1 : Int).toNat (U8 ((rd x14_1 x20_1) + a3)))⟩] [Ft59_0, Ft24_0]) rfl) [0, 1, 2, 3] rfl rfl rfl) h
                                      · replace h := of_false h c76
                                        cases h
                                    · replace h := of_false h c75
                                      cases h
                                  · replace h := of_false h c73
                                    cases h
                                · replace h := of_false h c72
                                  cases h
                              · replace h := of_false h c70
                                refine RunF.know 82 (b := false) (by kernel_rfl) c70 ?_
                                refine RunF.go 6 [2, 13, 16, 93, 94] (k' := (pin Go.Proofs.Try.f7 [1, 1, 1, 1, 1, 1, 1, 1, 1, 1, 1, 1, 1, 0] 2)) (L' := [(2, .slice Ap2 a2.length cp2), (13, .slice A31 t30.length c33), (16, .string (strOf t36.1)), (93, .pointer (some ⟨g27, 0, none⟩)), (94, .slice A31 t30.length c33)]) (w' := W) (by kernel_rfl) ?_
                                obtain ⟨t79, ht79, h⟩ := Option.bind_eq_some_iff.mp h
                                refine RunF.call (d := some 95) (g := 18) (args := #[.pointer (some ⟨g27, 0, none⟩), .slice A31 t30.length c33, .bool false]) (k2 := (pin Go.Proofs.Try.f7 [1, 1, 1, 1, 1, 1, 1, 1, 1, 1, 1, 1, 1, 0] 3)) (by kernel_rfl) (small_Small_Block.calls k (.pointer (some ⟨g27, 0, none⟩)) (Oks Ft24_0) s26 A31 t30.length c33 t30 false t79 _ (hM.rd 0 rfl) hps26 (fun _ hb_ => ((Mem.oks (hM.as (H' := Gs [⟨.slice A31 t30.length c33, 5, 1, nums .u8 t30⟩, ⟨.slice A37 t36.1.length c39, 5, 1, nums .u8 x14_1⟩] [Ft59_0, Ft24_0]) rfl) 1 rfl).kept hb_)) ht79) ?_
                                rintro _ W78 ⟨A80, n81, c82, rfl, hM_⟩
                                obtain rfl : t79.1.length = n81 := by have h_ := (hM_.rd 0 rfl).1; simpa [nums_length, bools_length, strs_length] using h_
                                replace hM : Mem w W78 (Gs [⟨.slice A80 t79.1.length c82, 5, 1, nums .u8 t79.1⟩, ⟨.slice A31 t30.length c33, 5, 1, nums .u8 t30⟩, ⟨.slice A37 t36.1.length c39, 5, 1, nums .u8 x14_1⟩] [Ft59_0, Ft24_0]) := (Mem.callG (hM.as (H' := Gs [⟨.slice A31 t30.length c33, 5, 1, nums .u8 t30⟩, ⟨.slice A37 t36.1.length c39, 5, 1, nums .u8 x14_1⟩] [Ft59_0, Ft24_0]) rfl) hM_.grp).as rfl
                                clear hM_ ht79
                                refine RunF.go 7 [2, 13, 16, 21] (k' := (pl Go.Proofs.Try.f7 [1, 1, 1, 1, 1, 1, 1, 1, 1, 1, 1, 1, 1, 1, 0])) (L' := [(2, .slice Ap2 a2.length cp2), (13, .slice A31 t30.length c33), (16, .string (strOf t36.1)), (21, .slice A80 t79.1.length c82)]) (w' := W78) (by kernel_rfl) ?_
                                refine RunF.draw (Still ({ W78 with drawn := W78.drawn + 1 } : World) []) (by kernel_rfl) (by kernel_rfl) ?_
                                have hMd85 := hM.drew
                                have hS := Still.refl ({ W78 with drawn := W78.drawn + 1 } : World) []
                                generalize ({ W78 with drawn := W78.drawn + 1 } : World) = W84 at hMd85 hS ⊢
                                replace hM := hMd85
                                refine RunAny.y 0 (by kernel_rfl) (yl_pure (d := some 98) (v := .string (strOf t36.1)) (k2 := [.inRegion (opsOf (pl Go.Proofs.Try.f7 [1, 1, 1, 1, 1, 1, 1, 1, 1, 1, 1, 1, 1, 1, 0])) []]) fun w => by kernel_rfl) (fun _ _ => trivial) hS ?_
                                refine RunAny.y 1 (by kernel_rfl) (yl_pure (d := some 99) (v := .int .i64 ((strOf t36.1).size : Int)) (k2 := [.inRegion (opsOf (pl Go.Proofs.Try.f7 [1, 1, 1, 1, 1, 1, 1, 1, 1, 1, 1, 1, 1, 1, 0])) []]) fun w => by kernel_rfl) (fun _ _ => trivial) hS ?_
                                refine RunAny.y 2 (by kernel_rfl) (yl_pure (d := some 100) (v := .bool (((strOf t36.1).size : Int) == 8)) (k2 := [.inRegion (opsOf (pl Go.Proofs.Try.f7 [1, 1, 1, 1, 1, 1, 1, 1, 1, 1, 1, 1, 1, 1, 0])) []]) fun w => by kernel_rfl) (fun _ _ => trivial) hS ?_
                                refine RunAny.y 3 (by kernel_rfl) (yl_pure (d := some 101) (v := .bool (((strOf t36.1).size : Int) == 8)) (k2 := [.inRegion (opsOf (pl Go.Proofs.Try.f7 [1, 1, 1, 1, 1, 1, 1, 1, 1, 1, 1, 1, 1, 1, 0])) []]) fun w => by kernel_rfl) (fun _ _ => trivial) hS ?_
                                rcases two ((((strOf t36.1).size : Int) == 8)) with c86 | c86
                                · replace h := of_true h c86
                                  refine RunAny.know 101 (b := true) (by kernel_rfl) c86 ?_
                                  refine RunAny.y 4 (by kernel_rfl) (yl_pure (d := some 102) (v := .slice A80 t79.1.length c82) (k2 := [.inRegion (opsOf (pl Go.Proofs.Try.f7 [1, 1, 1, 1, 1, 1, 1, 1, 1, 1, 1, 1, 1, 1, 0])) []]) fun w => by kernel_rfl) (fun _ _ => trivial) hS ?_
                                  refine RunAny.y 5 (by kernel_rfl) (str_y (d := some 103) (A := A80) (m := t79.1.length) (c := c82) (k2 := [.inRegion (opsOf (pl Go.Proofs.Try.f7 [1, 1, 1, 1, 1, 1, 1, 1, 1, 1, 1, 1, 1, 1, 0])) []]) t79.1 (by kernel_rfl)) (fun _ hs => ((hM.rd 0 rfl).still hs (by simp))) hS ?_
                                  refine RunAny.y 6 (by kernel_rfl) (yl_pure (d := some 104) (v := .string (strOf t36.1)) (k2 := [.inRegion (opsOf (pl Go.Proofs.Try.f7 [1, 1, 1, 1, 1, 1, 1, 1, 1, 1, 1, 1, 1, 1, 0])) []]) fun w => by kernel_rfl) (fun _ _ => trivial) hS ?_
                                  refine RunAny.y 7 (by kernel_rfl) (yl_pure (d := some 105) (v := .bool ((strOf t79.1).toList == (strOf t36.1).toList)) (k2 := [.inRegion (opsOf (pl Go.Proofs.Try.f7 [1, 1, 1, 1, 1, 1, 1, 1, 1, 1, 1, 1, 1, 1, 0])) []]) fun w => by kernel_rfl) (fun _ _ => trivial) hS ?_
                                  refine RunAny.y 8 (by kernel_rfl) (yl_pure (d := some 106) (v := .bool ((strOf t79.1).toList == (strOf t36.1).toList)) (k2 := [.inRegion (opsOf (pl Go.Proofs.Try.f7 [1, 1, 1, 1, 1, 1, 1, 1, 1, 1, 1, 1, 1, 1, 0])) []]) fun w => by kernel_rfl) (fun _ _ => trivial) hS ?_
                                  refine RunAny.y 9 (by kernel_rfl) (yl_pure (d := some 107) (v := .bool ((strOf t79.1).toList == (strOf t36.1).toList)) (k2 := [.inRegion (opsOf (pl Go.Proofs.Try.f7 [1, 1, 1, 1, 1, 1, 1, 1, 1, 1, 1, 1, 1, 1, 0])) []]) fun w => by kernel_rfl) (fun _ _ => trivial) hS ?_
                                  rcases two (((strOf t79.1).toList == (strOf t36.1).toList)) with c87 | c87
                                  · replace h := of_true h c87
                                    refine RunAny.know 107 (b := true) (by kernel_rfl) c87 ?_
                                    refine RunAny.y 10 (by kernel_rfl) (yl_pure (d := some 108) (v := .slice A31 t30.length c33) (k2 := [.inRegion (opsOf (pl Go.Proofs.Try.f7 [1, 1, 1, 1, 1, 1, 1, 1, 1, 1, 1, 1, 1, 1, 0])) []]) fun w => by kernel_rfl) (fun _ _ => trivial) hS ?_
                                    refine RunAny.y 11 (by kernel_rfl) (str_y (d := some 109) (A := A31) (m := t30.length) (c := c33) (k2 := [.inRegion (opsOf (pl Go.Proofs.Try.f7 [1, 1, 1, 1, 1, 1, 1, 1, 1, 1, 1, 1, 1, 1, 0])) []]) t30 (by kernel_rfl)) (fun _ hs => ((hM.rd 1 rfl).still hs (by simp))) hS ?_
                                    refine RunAny.y 12 (by kernel_rfl) (yl_pure (d := some 110) (v := .slice Ap2 a2.length cp2) (k2 := [.inRegion (opsOf (pl Go.Proofs.Try.f7 [1, 1, 1, 1, 1, 1, 1, 1, 1, 1, 1, 1, 1, 1, 0])) []]) fun w => by kernel_rfl) (fun _ _ => trivial) hS ?_
                                    obtain ⟨t89, ht89, h⟩ := Option.bind_eq_some_iff.mp h
                                    refine RunAny.call 13 (d := some 111) (g := 13) (args := #[.int .i64 8, .slice Ap2 a2.length cp2]) (by kernel_rfl) (by kernel_rfl) (scrimlaw8_Bytes.calls k 8 Ap2 a2.length cp2 a2 t89 _ (hr2.mono hM.below) ht89) (by rintro _ _ ⟨_, _, _, rfl, hM_⟩; exact hS.below hM_.below) ?_
                                    rintro _ W88 ⟨A90, n91, c92, rfl, hM_⟩
                                    obtain rfl : t89.length = n91 := by have h_ := (hM_.rd 0 rfl).1; simpa [nums_length, bools_length, strs_length] using h_
                                    replace hS := hS.below hM_.below
                                    replace hM : Mem w W88 (Gs [⟨.slice A90 t89.length c92, 5, 1, nums .u8 t89⟩, ⟨.slice A80 t79.1.length c82, 5, 1, nums .u8 t79.1⟩, ⟨.slice A31 t30.length c33, 5, 1, nums .u8 t30⟩, ⟨.slice A37 t36.1.length c39, 5, 1, nums .u8 x14_1⟩] [Ft59_0, Ft24_0]) := (Mem.callG (hM.as (H' := Gs [⟨.slice A80 t79.1.length c82, 5, 1, nums .u8 t79.1⟩, ⟨.slice A31 t30.length c33, 5, 1, nums .u8 t30⟩, ⟨.slice A37 t36.1.length c39, 5, 1, nums .u8 x14_1⟩] [Ft59_0, Ft24_0]) rfl) hM_.grp).as rfl
                                    clear hM_ ht89
                                    refine RunAny.rebase hS ?_
                                    replace hS := Still.refl W88 []
                                    refine RunAny.y 14 (by kernel_rfl) (str_y (d := some 112) (A := A90) (m := t89.length) (c := c92) (k2 := [.inRegion (opsOf (pl Go.Proofs.Try.f7 [1, 1, 1, 1, 1, 1, 1, 1, 1, 1, 1, 1, 1, 1, 0])) []]) t89 (by kernel_rfl)) (fun _ hs => ((hM.rd 0 rfl).still hs (by simp))) hS ?_
                                    refine RunAny.y 15 (by kernel_rfl) (yl_pure (d := some 113) (v := .bool ((strOf t30).toList == (strOf t89).toList)) (k2 := [.inRegion (opsOf (pl Go.Proofs.Try.f7 [1, 1, 1, 1, 1, 1, 1, 1, 1, 1, 1, 1, 1, 1, 0])) []]) fun w => by kernel_rfl) (fun _ _ => trivial) hS ?_
                                    refine RunAny.y 16 (by kernel_rfl) (yl_pure (d := some 114) (v := .bool ((strOf t30).toList == (strOf t89).toList)) (k2 := [.inRegion (opsOf (pl Go.Proofs.Try.f7 [1, 1, 1, 1, 1, 1, 1, 1, 1, 1, 1, 1, 1, 1, 0])) []]) fun w => by kernel_rfl) (fun _ _ => trivial) hS ?_
                                    refine RunAny.y 17 (by kernel_rfl) (yl_pure (d := some 8) (v := .bool ((strOf t30).toList == (strOf t89).toList)) (k2 := [.inRegion (opsOf (pl Go.Proofs.Try.f7 [1, 1, 1, 1, 1, 1, 1, 1, 1, 1, 1, 1, 1, 1, 0])) []]) fun w => by kernel_rfl) (fun _ _ => trivial) hS ?_
                                    refine RunAny.done (by kernel_rfl) ?_
                                    clear hS
                                    obtain rfl := Option.some.inj h
                                    exact RunF.ret1 8 (.bool ((strOf t30).toList == (strOf t89).toList)) (fn := Go.Proofs.Try.f7) Go.Proofs.Try.func7 (by kernel_rfl) (by kernel_rfl) (by kernel_rfl) ⟨_, rfl, rfl, (Mem.pickF (hM.as (H' := Gs [⟨.slice A90 t89.length c92, 5, 1, nums .u8 t89⟩, ⟨.slice A80 t79.1.length c82, 5, 1, nums .u8 t79.1⟩, ⟨.slice A31 t30.length c33, 5, 1, nums .u8 t30⟩, ⟨.slice A37 t36.1.length c39, 5, 1, nums .u8 x14_1⟩] [Ft59_0, Ft24_0]) rfl) [] rfl rfl rfl).ungrp⟩
                                  · replace h := of_false h c87
                                    refine RunAny.know 107 (b := false) (by kernel_rfl) c87 ?_
                                    refine RunAny.off 10 (d := some 108) (by kernel_rfl) (by kernel_rfl) hS ?_
                                    refine RunAny.off 11 (d := some 109) (by kernel_rfl) (by kernel_rfl) hS ?_
                                    refine RunAny.off 12 (d := some 110) (by kernel_rfl) (by kernel_rfl) hS ?_
                                    refine RunAny.off 13 (d := some 111) (by kernel_rfl) (by kernel_rfl) hS ?_
                                    refine RunAny.off 14 (d := some 112) (by kernel_rfl) (by kernel_rfl) hS ?_
                                    refine RunAny.off 15 (d := some 113) (by kernel_rfl) (by kernel_rfl) hS ?_
                                    refine RunAny.y 16 (by kernel_rfl) (yl_pure (d := some 114) (v := .bool false) (k2 := [.inRegion (opsOf (pl Go.Proofs.Try.f7 [1, 1, 1, 1, 1, 1, 1, 1, 1, 1, 1, 1, 1, 1, 0])) []]) fun w => by kernel_rfl) (fun _ _ => trivial) hS ?_
                                    refine RunAny.y 17 (by kernel_rfl) (yl_pure (d := some 8) (v := .bool false) (k2 := [.inRegion (opsOf (pl Go.Proofs.Try.f7 [1, 1, 1, 1, 1, 1, 1, 1, 1, 1, 1, 1, 1, 1, 0])) []]) fun w => by kernel_rfl) (fun _ _ => trivial) hS ?_
                                    refine RunAny.done (by kernel_rfl) ?_
                                    clear hS
                                    obtain rfl := Option.some.inj h
                                    exact RunF.ret1 8 (.bool false) (fn := Go.Proofs.Try.f7) Go.Proofs.Try.func7 (by kernel_rfl) (by kernel_rfl) (by kernel_rfl) ⟨_, rfl, rfl, (Mem.pickF (hM.as (H' := Gs [⟨.slice A80 t79.1.length c82, 5, 1, nums .u8 t79.1⟩, ⟨.slice A31 t30.length c33, 5, 1, nums .u8 t30⟩, ⟨.slice A37 t36.1.length c39, 5, 1, nums .u8 x14_1⟩] [Ft59_0, Ft24_0]) rfl) [] rfl rfl rfl).ungrp⟩
                                · replace h := of_false h c86
                                  refine RunAny.know 101 (b := false) (by kernel_rfl) c86 ?_
                                  refine RunAny.off 4 (d := some 102) (by kernel_rfl) (by kernel_rfl) hS ?_
                                  refine RunAny.off 5 (d := some 103) (by kernel_rfl) (by kernel_rfl) hS ?_
                                  refine RunAny.off 6 (d := some 104) (by kernel_rfl) (by kernel_rfl) hS ?_
                                  refine RunAny.off 7 (d := some 105) (by kernel_rfl) (by kernel_rfl) hS ?_
                                  refine RunAny.y 8 (by kernel_rfl) (yl_pure (d := some 106) (v := .bool false) (k2 := [.inRegion (opsOf (pl Go.Proofs.Try.f7 [1, 1, 1, 1, 1, 1, 1, 1, 1, 1, 1, 1, 1, 1, 0])) []]) fun w => by kernel_rfl) (fun _ _ => trivial) hS ?_
                                  refine RunAny.y 9 (by kernel_rfl) (yl_pure (d := some 107) (v := .bool false) (k2 := [.inRegion (opsOf (pl Go.Proofs.Try.f7 [1, 1, 1, 1, 1, 1, 1, 1, 1, 1, 1, 1, 1, 1, 0])) []]) fun w => by kernel_rfl) (fun _ _ => trivial) hS ?_
                                  refine RunAny.off 10 (d := some 108) (by kernel_rfl) (by kernel_rfl) hS ?_
                                  refine RunAny.off 11 (d := some 109) (by kernel_rfl) (by kernel_rfl) hS ?_
                                  refine RunAny.off 12 (d := some 110) (by kernel_rfl) (by kernel_rfl) hS ?_
                                  refine RunAny.off 13 (d := some 111) (by kernel_rfl) (by kernel_rfl) hS ?_
                                  refine RunAny.off 14 (d := some 112) (by kernel_rfl) (by kernel_rfl) hS ?_
                                  refine RunAny.off 15 (d := some 113) (by kernel_rfl) (by kernel_rfl) hS ?_
                                  refine RunAny.y 16 (by kernel_rfl) (yl_pure (d := some 114) (v := .bool false) (k2 := [.inRegion (opsOf (pl Go.Proofs.Try.f7 [1, 1, 1, 1, 1, 1, 1, 1, 1, 1, 1, 1, 1, 1, 0])) []]) fun w => by kernel_rfl) (fun _ _ => trivial) hS ?_
                                  refine RunAny.y 17 (by kernel_rfl) (yl_pure (d := some 8) (v := .bool false) (k2 := [.inRegion (opsOf (pl Go.Proofs.Try.f7 [1, 1, 1, 1, 1, 1, 1, 1, 1, 1, 1, 1, 1, 1, 0])) []]) fun w => by kernel_rfl) (fun _ _ => trivial) hS ?_
                                  refine RunAny.done (by kernel_rfl) ?_
                                  clear hS
                                  obtain rfl := Option.some.inj h
                                  exact RunF.ret1 8 (.bool false) (fn := Go.Proofs.Try.f7) Go.Proofs.Try.func7 (by kernel_rfl) (by kernel_rfl) (by kernel_rfl) ⟨_, rfl, rfl, (Mem.pickF (hM.as (H' := Gs [⟨.slice A80 t79.1.length c82, 5, 1, nums .u8 t79.1⟩, ⟨.slice A31 t30.length c33, 5, 1, nums .u8 t30⟩, ⟨.slice A37 t36.1.length c39, 5, 1, nums .u8 x14_1⟩] [Ft59_0, Ft24_0]) rfl) [] rfl rfl rfl).ungrp⟩
                        exact l1 k (Nat.le_refl _) t36.1 0 _ (Mem.pickF (hM.as (H' := Gs [⟨.slice A66 t65.1.length c68, 5, 1, nums .u8 t65.1⟩, ⟨.slice A51 t50.length c53, 3, 1, nums .i64 t50⟩, ⟨.slice A10 t9.length c12, 5, 1, nums .u8 x10_0⟩, ⟨.slice A31 t30.length c33, 5, 1, nums .u8 t30⟩, ⟨.slice A37 t36.1.length c39, 5, 1, nums .u8 t36.1⟩] [Ft59_0, Ft24_0]) rfl) [3, 4, 5, 6] rfl rfl rfl) h
                      · replace h := of_false h c60
                        obtain rfl := rOpt.none hRt59_0 c60
                        refine RunF.go 11 [2, 3, 11, 13, 14, 16, 20] (k' := (pl Go.Proofs.Try.f7 [1, 1, 1, 1, 1, 1, 1, 1, 1, 1, 1, 1, 0, 1, 0, 0])) (L' := [(2, .slice Ap2 a2.length cp2), (3, .int .u8 a3), (11, .pointer (some ⟨g27, 0, none⟩)), (13, .slice A31 t30.length c33), (14, .slice A37 t36.1.length c39), (16, .string (strOf t36.1)), (20, .int .i64 0)]) (w' := W58) (by kernel_rfl) ?_
                        have l2 : ∀ (k_ : Nat), k_ ≤ k → ∀ (x14_2 : List Int) (x20_2 : Int) (W : World) (hM : Mem w W (Gs [⟨.slice A31 t30.length c33, 5, 1, nums .u8 t30⟩, ⟨.slice A37 t36.1.length c39, 5, 1, nums .u8 x14_2⟩] [Ft59_0, Ft24_0])) (h : scrimlaw8_SmallOwn.l2 k_ a2 a3 s26 t30 t36 x14_2 x20_2 = some r), RunF Go.Proofs.Try.prog (Ret fun v w' => v = .bool r ∧ Mem w w' []) 7 (pl Go.Proofs.Try.f7 [1, 1, 1, 1, 1, 1, 1, 1, 1, 1, 1, 1, 0, 1, 0, 0]) 115 [(2, .slice Ap2 a2.length cp2), (3, .int .u8 a3), (11, .pointer (some ⟨g27, 0, none⟩)), (13, .slice A31 t30.length c33), (14, .slice A37 t36.1.length c39), (16, .string (strOf t36.1)), (20, .int .i64 x20_2)] W := by
                          intro k_
                          induction k_ using Nat.strongRecOn with
                          | _ k_ ih2 =>
                            intro hk x14_2 x20_2 W hM h
                            cases k_ with
                            | zero => exact absurd h (by simp [scrimlaw8_SmallOwn.l2])
                            | succ k =>
                              simp only [scrimlaw8_SmallOwn.l2] at h
                              replace ih2 : ∀ m, m ≤ k → _ := fun m hm => ih2 m (by omega) (by omega)
                              replace ih0 : ∀ m, m ≤ k → _ := fun m hm => ih0 m (by omega)
                              refine RunF.go 8 [2, 3, 11, 13, 14, 16, 20, 82] (k' := (pl Go.Proofs.Try.f7 [1, 1, 1, 1, 1, 1, 1, 1, 1, 1, 1, 1, 0, 1, 0, 0, 0, 1])) (L' := [(2, .slice Ap2 a2.length cp2), (3, .int .u8 a3), (11, .pointer (some ⟨g27, 0, none⟩)), (13, .slice A31 t30.length c33), (14, .slice A37 t36.1.length c39), (16, .string (strOf t36.1)), (20, .int .i64 x20_2), (82, .bool (decide (x20_2 < (t36.1.length : Int))))]) (w' := W) (by kernel_rfl) ?_
                              rcases two (decide (x20_2 < (t36.1.length : Int))) with c94 | c94
                              · replace h := of_true h c94
                                refine RunF.know 82 (b := true) (by kernel_rfl) c94 ?_
                                refine RunF.go 7 [2, 3, 11, 13, 14, 16, 20, 85, 86] (k' := (pin Go.Proofs.Try.f7 [1, 1, 1, 1, 1, 1, 1, 1, 1, 1, 1, 1, 0, 1, 0, 0, 1, 0, 0] 2)) (L' := [(2, .slice Ap2 a2.length cp2), (3, .int .u8 a3), (11, .pointer (some ⟨g27, 0, none⟩)), (13, .slice A31 t30.length c33), (14, .slice A37 t36.1.length c39), (16, .string (strOf t36.1)), (20, .int .i64 x20_2), (85, .slice A37 t36.1.length c39), (86, .int .i64 x20_2)]) (w' := W) (by kernel_rfl) ?_
                                rcases two (decide (0 ≤ x20_2)) with c96 | c96
                                · replace h := of_true h c96
                                  rcases two (decide (x20_2 < (t36.1.length : Int))) with c97 | c97
                                  · replace h := of_true h c97
                                    obtain ⟨q95, hAq95, hcq95, hfq95, hlq95⟩ := hM.num_at 1 rfl (i := x20_2) (of_decide_eq_true c96) (by have h_ := of_decide_eq_true c97; omega)
                                    refine RunF.y (idx_own (d := some 87) (A := A37) (m := t36.1.length) (i := x20_2) (k2 := (pin Go.Proofs.Try.f7 [1, 1, 1, 1, 1, 1, 1, 1, 1, 1, 1, 1, 0, 1, 0, 0, 1, 0, 0] 3)) (by kernel_rfl) (of_decide_eq_true c96) (by have h_ := of_decide_eq_true c97; omega) hAq95) trivial ?_
                                    refine RunF.y (ld_y (d := some 88) (p := ⟨q95, (x20_2 : Int).toNat, none⟩) (k2 := (pin Go.Proofs.Try.f7 [1, 1, 1, 1, 1, 1, 1, 1, 1, 1, 1, 1, 0, 1, 0, 0, 1, 0, 0] 4)) (.int .u8 (rd x14_2 x20_2)) (by kernel_rfl)) hcq95 ?_
                                    refine RunF.go 2 [2, 3, 11, 13, 14, 16, 20, 85, 86, 90] (k' := (pin Go.Proofs.Try.f7 [1, 1, 1, 1, 1, 1, 1, 1, 1, 1, 1, 1, 0, 1, 0, 0, 1, 0, 0] 6)) (L' := [(2, .slice Ap2 a2.length cp2), (3, .int .u8 a3), (11, .pointer (some ⟨g27, 0, none⟩)), (13, .slice A31 t30.length c33), (14, .slice A37 t36.1.length c39), (16, .string (strOf t36.1)), (20, .int .i64 x20_2), (85, .slice A37 t36.1.length c39), (86, .int .i64 x20_2), (90, .int .u8 (U8 ((rd x14_2 x20_2) + a3)))]) (w' := W) (by kernel_rfl) ?_
                                    rcases two (decide (0 ≤ x20_2)) with c99 | c99
                                    · replace h := of_true h c99
                                      rcases two (decide (x20_2 < (t36.1.length : Int))) with c100 | c100
                                      · replace h := of_true h c100
                                        obtain ⟨q98, hAq98, hcq98, hfq98, hlq98⟩ := hM.num_at 1 rfl (i := x20_2) (of_decide_eq_true c99) (by have h_ := of_decide_eq_true c100; omega)
                                        refine RunF.y (idx_own (d := some 91) (A := A37) (m := t36.1.length) (i := x20_2) (k2 := (pin Go.Proofs.Try.f7 [1, 1, 1, 1, 1, 1, 1, 1, 1, 1, 1, 1, 0, 1, 0, 0, 1, 0, 0] 7)) (by kernel_rfl) (of_decide_eq_true c99) (by have h_ := of_decide_eq_true c100; omega) hAq98) trivial ?_
                                        obtain ⟨g_, hA_, hc_, hf_, hl_⟩ := hM.num_at 1 rfl (i := x20_2) (of_decide_eq_true c99) (by have h_ := of_decide_eq_true c100; omega)
                                        obtain rfl : q98 = g_ := by rw [hAq98] at hA_; injection hA_ with hA_; injection hA_
                                        refine RunF.doesU (st_u (p := (⟨q98, (x20_2 : Int).toNat, none⟩ : Addr)) (v := .int .u8 (U8 ((rd x14_2 x20_2) + a3))) (k2 := (pin Go.Proofs.Try.f7 [1, 1, 1, 1, 1, 1, 1, 1, 1, 1, 1, 1, 0, 1, 0, 0, 1, 0, 0] 8)) (by kernel_rfl) hc_ hf_) ?_
                                        replace hM : Mem w (W.setCell (⟨q98, (x20_2 : Int).toNat, none⟩ : Addr) (.int .u8 (U8 ((rd x14_2 x20_2) + a3)))) (Gs [⟨.slice A31 t30.length c33, 5, 1, nums .u8 t30⟩, ⟨.slice A37 t36.1.length c39, 5, 1, nums .u8 (x14_2.set (x20_2 : Int).toNat (U8 ((rd x14_2 x20_2) + a3)))⟩] [Ft59_0, Ft24_0]) := Mem.put_num [⟨.slice A31 t30.length c33, 5, 1, nums .u8 t30⟩] (Gs [] [Ft59_0, Ft24_0]) (hM.as rfl) hAq98 _ hl_ _
                                        generalize W.setCell (⟨q98, (x20_2 : Int).toNat, none⟩ : Addr) (.int .u8 (U8 ((rd x14_2 x20_2) + a3))) = W101 at hM ⊢
                                        clear hc_ hf_ hl_ hA_ hcq98
                                        refine RunF.go 8 [2, 3, 11, 13, 14, 16, 20] (k' := (pl Go.Proofs.Try.f7 [1, 1, 1, 1, 1, 1, 1, 1, 1, 1, 1, 1, 0, 1, 0, 0])) (L' := [(2, .slice Ap2 a2.length cp2), (3, .int .u8 a3), (11, .pointer (some ⟨g27, 0, none⟩)), (13, .slice A31 t30.length c33), (14, .slice A37 t36.1.length c39), (16, .string (strOf t36.1)), (20, .int .i64 (I64 (x20_2 + 1)))]) (w' := W101) (by kernel_rfl) ?_
                                        exact ih2 k (by omega) (x14_2.set (x20_2 : Int).toNat (U8 ((rd x14_2 x20_2) + a3))) (I64 (x20_2 + 1)) _ (Mem.pickF (hM.as (H' := Gs [⟨.slice A31 t30.length c33, 5, 1, nums .u8 t30⟩, ⟨.slice A37 t36.1.length c39, 5, 1, nums .u8 (x14_2.set (x20_2 : Int).toNat (U8 ((rd x14_2 x20_2) + a3)))⟩] [Ft59_0, Ft24_0]) rfl) [0, 1, 2, 3] rfl rfl rfl) h
                                      · replace h := of_false h c100
                                        cases h
                                    · replace h := of_false h c99
                                      cases h
                                  · replace h := of_false h c97
                                    cases h
                                · replace h := of_false h c96
                                  cases h
                              · replace h := of_false h c94
                                refine RunF.know 82 (b := false) (by kernel_rfl) c94 ?_
                                refine RunF.go 6 [2, 13, 16, 93, 94] (k' := (pin Go.Proofs.Try.f7 [1, 1, 1, 1, 1, 1, 1, 1, 1, 1, 1, 1, 1, 0] 2)) (L' := [(2, .slice Ap2 a2.length cp2), (13, .slice A31 t30.length c33), (16, .string (strOf t36.1)), (93, .pointer (some ⟨g27, 0, none⟩)), (94, .slice A31 t30.length c33)]) (w' := W) (by kernel_rfl) ?_
                                obtain ⟨t103, ht103, h⟩ := Option.bind_eq_some_iff.mp h
                                refine RunF.call (d := some 95) (g := 18) (args := #[.pointer (some ⟨g27, 0, none⟩), .slice A31 t30.length c33, .bool false]) (k2 := (pin Go.Proofs.Try.f7 [1, 1, 1, 1, 1, 1, 1, 1, 1, 1, 1, 1, 1, 0] 3)) (by kernel_rfl) (small_Small_Block.calls k (.pointer (some ⟨g27, 0, none⟩)) (Oks Ft24_0) s26 A31 t30.length c33 t30 false t103 _ (hM.rd 0 rfl) hps26 (fun _ hb_ => ((Mem.oks (hM.as (H' := Gs [⟨.slice A31 t30.length c33, 5, 1, nums .u8 t30⟩, ⟨.slice A37 t36.1.length c39, 5, 1, nums .u8 x14_2⟩] [Ft59_0, Ft24_0]) rfl) 1 rfl).kept hb_)) ht103) ?_
                                rintro _ W102 ⟨A104, n105, c106, rfl, hM_⟩
                                obtain rfl : t103.1.length = n105 := by have h_ := (hM_.rd 0 rfl).1; simpa [nums_length, bools_length, strs_length] using h_
                                replace hM : Mem w W102 (Gs [⟨.slice A104 t103.1.length c106, 5, 1, nums .u8 t103.1⟩, ⟨.slice A31 t30.length c33, 5, 1, nums .u8 t30⟩, ⟨.slice A37 t36.1.length c39, 5, 1, nums .u8 x14_2⟩] [Ft59_0, Ft24_0]) := (Mem.callG (hM.as (H' := Gs [⟨.slice A31 t30.length c33, 5, 1, nums .u8 t30⟩, ⟨.slice A37 t36.1.length c39, 5, 1, nums .u8 x14_2⟩] [Ft59_0, Ft24_0]) rfl) hM_.grp).as rfl
                                clear hM_ ht103
                                refine RunF.go 7 [2, 13, 16, 21] (k' := (pl Go.Proofs.Try.f7 [1, 1, 1, 1, 1, 1, 1, 1, 1, 1, 1, 1, 1, 1, 0])) (L' := [(2, .slice Ap2 a2.length cp2), (13, .slice A31 t30.length c33), (16, .string (strOf t36.1)), (21, .slice A104 t103.1.length c106)]) (w' := W102) (by kernel_rfl) ?_
                                refine RunF.draw (Still ({ W102 with drawn := W102.drawn + 1 } : World) []) (by kernel_rfl) (by kernel_rfl) ?_
                                have hMd109 := hM.drew
                                have hS := Still.refl ({ W102 with drawn := W102.drawn + 1 } : World) []
                                generalize ({ W102 with drawn := W102.drawn + 1 } : World) = W108 at hMd109 hS ⊢
                                replace hM := hMd109
                                refine RunAny.y 0 (by kernel_rfl) (yl_pure (d := some 98) (v := .string (strOf t36.1)) (k2 := [.inRegion (opsOf (pl Go.Proofs.Try.f7 [1, 1, 1, 1, 1, 1, 1, 1, 1, 1, 1, 1, 1, 1, 0])) []]) fun w => by kernel_rfl) (fun _ _ => trivial) hS ?_
                                refine RunAny.y 1 (by kernel_rfl) (yl_pure (d := some 99) (v := .int .i64 ((strOf t36.1).size : Int)) (k2 := [.inRegion (opsOf (pl Go.Proofs.Try.f7 [1, 1, 1, 1, 1, 1, 1, 1, 1, 1, 1, 1, 1, 1, 0])) []]) fun w => by kernel_rfl) (fun _ _ => trivial) hS ?_
                                refine RunAny.y 2 (by kernel_rfl) (yl_pure (d := some 100) (v := .bool (((strOf t36.1).size : Int) == 8)) (k2 := [.inRegion (opsOf (pl Go.Proofs.Try.f7 [1, 1, 1, 1, 1, 1, 1, 1, 1, 1, 1, 1, 1, 1, 0])) []]) fun w => by kernel_rfl) (fun _ _ => trivial) hS ?_
                                refine RunAny.y 3 (by kernel_rfl) (yl_pure (d := some 101) (v := .bool (((strOf t36.1).size : Int) == 8)) (k2 := [.inRegion (opsOf (pl Go.Proofs.Try.f7 [1, 1, 1, 1, 1, 1, 1, 1, 1, 1, 1, 1, 1, 1, 0])) []]) fun w => by kernel_rfl) (fun _ _ => trivial) hS ?_
                                rcases two ((((strOf t36.1).size : Int) == 8)) with c110 | c110
                                · replace h := of_true h c110
                                  refine RunAny.know 101 (b := true) (by kernel_rfl) c110 ?_
                                  refine RunAny.y 4 (by kernel_rfl) (yl_pure (d := some 102) (v := .slice A104 t103.1.length c106) (k2 := [.inRegion (opsOf (pl Go.Proofs.Try.f7 [1, 1, 1, 1, 1, 1, 1, 1, 1, 1, 1, 1, 1, 1, 0])) []]) fun w => by kernel_rfl) (fun _ _ => trivial) hS ?_
                                  refine RunAny.y 5 (by kernel_rfl) (str_y (d := some 103) (A := A104) (m := t103.1.length) (c := c106) (k2 := [.inRegion (opsOf (pl Go.Proofs.Try.f7 [1, 1, 1, 1, 1, 1, 1, 1, 1, 1, 1, 1, 1, 1, 0])) []]) t103.1 (by kernel_rfl)) (fun _ hs => ((hM.rd 0 rfl).still hs (by simp))) hS ?_
                                  refine RunAny.y 6 (by kernel_rfl) (yl_pure (d := some 104) (v := .string (strOf t36.1)) (k2 := [.inRegion (opsOf (pl Go.Proofs.Try.f7 [1, 1, 1, 1, 1, 1, 1, 1, 1, 1, 1, 1, 1, 1, 0])) []]) fun w => by kernel_rfl) (fun _ _ => trivial) hS ?_
                                  refine RunAny.y 7 (by kernel_rfl) (yl_pure (d := some 105) (v := .bool ((strOf t103.1).toList == (strOf t36.1).toList)) (k2 := [.inRegion (opsOf (pl Go.Proofs.Try.f7 [1, 1, 1, 1, 1, 1, 1, 1, 1, 1, 1, 1, 1, 1, 0])) []]) fun w => by kernel_rfl) (fun _ _ => trivial) hS ?_
                                  refine RunAny.y 8 (by kernel_rfl) (yl_pure (d := some 106) (v := .bool ((strOf t103.1).toList == (strOf t36.1).toList)) (k2 := [.inRegion (opsOf (pl Go.Proofs.Try.f7 [1, 1, 1, 1, 1, 1, 1, 1, 1, 1, 1, 1, 1, 1, 0])) []]) fun w => by kernel_rfl) (fun _ _ => trivial) hS ?_
                                  refine RunAny.y 9 (by kernel_rfl) (yl_pure (d := some 107) (v := .bool ((strOf t103.1).toList == (strOf t36.1).toList)) (k2 := [.inRegion (opsOf (pl Go.Proofs.Try.f7 [1, 1, 1, 1, 1, 1, 1, 1, 1, 1, 1, 1, 1, 1, 0])) []]) fun w => by kernel_rfl) (fun _ _ => trivial) hS ?_
                                  rcases two (((strOf t103.1).toList == (strOf t36.1).toList)) with c111 | c111
                                  · replace h := of_true h c111
                                    refine RunAny.know 107 (b := true) (by kernel_rfl) c111 ?_
                                    refine RunAny.y 10 (by kernel_rfl) (yl_pure (d := some 108) (v := .slice A31 t30.length c33) (k2 := [.inRegion (opsOf (pl Go.Proofs.Try.f7 [1, 1, 1, 1, 1, 1, 1, 1, 1, 1, 1, 1, 1, 1, 0])) []]) fun w => by kernel_rfl) (fun _ _ => trivial) hS ?_
                                    refine RunAny.y 11 (by kernel_rfl) (str_y (d := some 109) (A := A31) (m := t30.length) (c := c33) (k2 := [.inRegion (opsOf (pl Go.Proofs.Try.f7 [1, 1, 1, 1, 1, 1, 1, 1, 1, 1, 1, 1, 1, 1, 0])) []]) t30 (by kernel_rfl)) (fun _ hs => ((hM.rd 1 rfl).still hs (by simp))) hS ?_
                                    refine RunAny.y 12 (by kernel_rfl) (yl_pure (d := some 110) (v := .slice Ap2 a2.length cp2) (k2 := [.inRegion (opsOf (pl Go.Proofs.Try.f7 [1, 1, 1, 1, 1, 1, 1, 1, 1, 1, 1, 1, 1, 1, 0])) []]) fun w => by kernel_rfl) (fun _ _ => trivial) hS ?_
                                    obtain ⟨t113, ht113, h⟩ := Option.bind_eq_some_iff.mp h
                                    refine RunAny.call 13 (d := some 111) (g := 13) (args := #[.int .i64 8, .slice Ap2 a2.length cp2]) (by kernel_rfl) (by kernel_rfl) (scrimlaw8_Bytes.calls k 8 Ap2 a2.length cp2 a2 t113 _ (hr2.mono hM.below) ht113) (by rintro _ _ ⟨_, _, _, rfl, hM_⟩; exact hS.below hM_.below) ?_
                                    rintro _ W112 ⟨A114, n115, c116, rfl, hM_⟩
                                    obtain rfl : t113.length = n115 := by have h_ := (hM_.rd 0 rfl).1; simpa [nums_length, bools_length, strs_length] using h_
                                    replace hS := hS.below hM_.below
                                    replace hM : Mem w W112 (Gs [⟨.slice A114 t113.length c116, 5, 1, nums .u8 t113⟩, ⟨.slice A104 t103.1.length c106, 5, 1, nums .u8 t103.1⟩, ⟨.slice A31 t30.length c33, 5, 1, nums .u8 t30⟩, ⟨.slice A37 t36.1.length c39, 5, 1, nums .u8 x14_2⟩] [Ft59_0, Ft24_0]) := (Mem.callG (hM.as (H' := Gs [⟨.slice A104 t103.1.length c106, 5, 1, nums .u8 t103.1⟩, ⟨.slice A31 t30.length c33, 5, 1, nums .u8 t30⟩, ⟨.slice A37 t36.1.length c39, 5, 1, nums .u8 x14_2⟩] [Ft59_0, Ft24_0]) rfl) hM_.grp).as rfl
                                    clear hM_ ht113
                                    refine RunAny.rebase hS ?_
                                    replace hS := Still.refl W112 []
                                    refine RunAny.y 14 (by kernel_rfl) (str_y (d := some 112) (A := A114) (m := t113.length) (c := c116) (k2 := [.inRegion (opsOf (pl Go.Proofs.Try.f7 [1, 1, 1, 1, 1, 1, 1, 1, 1, 1, 1, 1, 1, 1, 0])) []]) t113 (by kernel_rfl)) (fun _ hs => ((hM.rd 0 rfl).still hs (by simp))) hS ?_
                                    refine RunAny.y 15 (by kernel_rfl) (yl_pure (d := some 113) (v := .bool ((strOf t30).toList == (strOf t113).toList)) (k2 := [.inRegion (opsOf (pl Go.Proofs.Try.f7 [1, 1, 1, 1, 1, 1, 1, 1, 1, 1, 1, 1, 1, 1, 0])) []]) fun w => by kernel_rfl) (fun _ _ => trivial) hS ?_
                                    refine RunAny.y 16 (by kernel_rfl) (yl_pure (d := some 114) (v := .bool ((strOf t30).toList == (strOf t113).toList)) (k2 := [.inRegion (opsOf (pl Go.Proofs.Try.f7 [1, 1, 1, 1, 1, 1, 1, 1, 1, 1, 1, 1, 1, 1, 0])) []]) fun w => by kernel_rfl) (fun _ _ => trivial) hS ?_
                                    refine RunAny.y 17 (by kernel_rfl) (yl_pure (d := some 8) (v := .bool ((strOf t30).toList == (strOf t113).toList)) (k2 := [.inRegion (opsOf (pl Go.Proofs.Try.f7 [1, 1, 1, 1, 1, 1, 1, 1, 1, 1, 1, 1, 1, 1, 0])) []]) fun w => by kernel_rfl) (fun _ _ => trivial) hS ?_
                                    refine RunAny.done (by kernel_rfl) ?_
                                    clear hS
                                    obtain rfl := Option.some.inj h
                                    exact RunF.ret1 8 (.bool ((strOf t30).toList == (strOf t113).toList)) (fn := Go.Proofs.Try.f7) Go.Proofs.Try.func7 (by kernel_rfl) (by kernel_rfl) (by kernel_rfl) ⟨_, rfl, rfl, (Mem.pickF (hM.as (H' := Gs [⟨.slice A114 t113.length c116, 5, 1, nums .u8 t113⟩, ⟨.slice A104 t103.1.length c106, 5, 1, nums .u8 t103.1⟩, ⟨.slice A31 t30.length c33, 5, 1, nums .u8 t30⟩, ⟨.slice A37 t36.1.length c39, 5, 1, nums .u8 x14_2⟩] [Ft59_0, Ft24_0]) rfl) [] rfl rfl rfl).ungrp⟩
                                  · replace h := of_false h c111
                                    refine RunAny.know 107 (b := false) (by kernel_rfl) c111 ?_
                                    refine RunAny.off 10 (d := some 108) (by kernel_rfl) (by kernel_rfl) hS ?_
                                    refine RunAny.off 11 (d := some 109) (by kernel_rfl) (by kernel_rfl) hS ?_
                                    refine RunAny.off 12 (d := some 110) (by kernel_rfl) (by kernel_rfl) hS ?_
                                    refine RunAny.off 13 (d := some 111) (by kernel_rfl) (by kernel_rfl) hS ?_
                                    refine RunAny.off 14 (d := some 112) (by kernel_rfl) (by kernel_rfl) hS ?_
                                    refine RunAny.off 15 (d := some 113) (by kernel_rfl) (by kernel_rfl) hS ?_
                                    refine RunAny.y 16 (by kernel_rfl) (yl_pure (d := some 114) (v := .bool false) (k2 := [.inRegion (opsOf (pl Go.Proofs.Try.f7 [1, 1, 1, 1, 1, 1, 1, 1, 1, 1, 1, 1, 1, 1, 0])) []]) fun w => by kernel_rfl) (fun _ _ => trivial) hS ?_
                                    refine RunAny.y 17 (by kernel_rfl) (yl_pure (d := some 8) (v := .bool false) (k2 := [.inRegion (opsOf (pl Go.Proofs.Try.f7 [1, 1, 1, 1, 1, 1, 1, 1, 1, 1, 1, 1, 1, 1, 0])) []]) fun w => by kernel_rfl) (fun _ _ => trivial) hS ?_
                                    refine RunAny.done (by kernel_rfl) ?_
                                    clear hS
                                    obtain rfl := Option.some.inj h
                                    exact RunF.ret1 8 (.bool false) (fn := Go.Proofs.Try.f7) Go.Proofs.Try.func7 (by kernel_rfl) (by kernel_rfl) (by kernel_rfl) ⟨_, rfl, rfl, (Mem.pickF (hM.as (H' := Gs [⟨.slice A104 t103.1.length c106, 5, 1, nums .u8 t103.1⟩, ⟨.slice A31 t30.length c33, 5, 1, nums .u8 t30⟩, ⟨.slice A37 t36.1.length c39, 5, 1, nums .u8 x14_2⟩] [Ft59_0, Ft24_0]) rfl) [] rfl rfl rfl).ungrp⟩
                                · replace h := of_false h c110
                                  refine RunAny.know 101 (b := false) (by kernel_rfl) c110 ?_
                                  refine RunAny.off 4 (d := some 102) (by kernel_rfl) (by kernel_rfl) hS ?_
                                  refine RunAny.off 5 (d := some 103) (by kernel_rfl) (by kernel_rfl) hS ?_
                                  refine RunAny.off 6 (d := some 104) (by kernel_rfl) (by kernel_rfl) hS ?_
                                  refine RunAny.off 7 (d := some 105) (by kernel_rfl) (by kernel_rfl) hS ?_
                                  refine RunAny.y 8 (by kernel_rfl) (yl_pure (d := some 106) (v := .bool false) (k2 := [.inRegion (opsOf (pl Go.Proofs.Try.f7 [1, 1, 1, 1, 1, 1, 1, 1, 1, 1, 1, 1, 1, 1, 0])) []]) fun w => by kernel_rfl) (fun _ _ => trivial) hS ?_
                                  refine RunAny.y 9 (by kernel_rfl) (yl_pure (d := some 107) (v := .bool false) (k2 := [.inRegion (opsOf (pl Go.Proofs.Try.f7 [1, 1, 1, 1, 1, 1, 1, 1, 1, 1, 1, 1, 1, 1, 0])) []]) fun w => by kernel_rfl) (fun _ _ => trivial) hS ?_
                                  refine RunAny.off 10 (d := some 108) (by kernel_rfl) (by kernel_rfl) hS ?_
                                  refine RunAny.off 11 (d := some 109) (by kernel_rfl) (by kernel_rfl) hS ?_
                                  refine RunAny.off 12 (d := some 110) (by kernel_rfl) (by kernel_rfl) hS ?_
                                  refine RunAny.off 13 (d := some 111) (by kernel_rfl) (by kernel_rfl) hS ?_
                                  refine RunAny.off 14 (d := some 112) (by kernel_rfl) (by kernel_rfl) hS ?_
                                  refine RunAny.off 15 (d := some 113) (by kernel_rfl) (by kernel_rfl) hS ?_
                                  refine RunAny.y 16 (by kernel_rfl) (yl_pure (d := some 114) (v := .bool false) (k2 := [.inRegion (opsOf (pl Go.Proofs.Try.f7 [1, 1, 1, 1, 1, 1, 1, 1, 1, 1, 1, 1, 1, 1, 0])) []]) fun w => by kernel_rfl) (fun _ _ => trivial) hS ?_
                                  refine RunAny.y 17 (by kernel_rfl) (yl_pure (d := some 8) (v := .bool false) (k2 := [.inRegion (opsOf (pl Go.Proofs.Try.f7 [1, 1, 1, 1, 1, 1, 1, 1, 1, 1, 1, 1, 1, 1, 0])) []]) fun w => by kernel_rfl) (fun _ _ => trivial) hS ?_
                                  refine RunAny.done (by kernel_rfl) ?_
                                  clear hS
                                  obtain rfl := Option.some.inj h
                                  exact RunF.ret1 8 (.bool false) (fn := Go.Proofs.Try.f7) Go.Proofs.Try.func7 (by kernel_rfl) (by kernel_rfl) (by kernel_rfl) ⟨_, rfl, rfl, (Mem.pickF (hM.as (H' := Gs [⟨.slice A104 t103.1.length c106, 5, 1, nums .u8 t103.1⟩, ⟨.slice A31 t30.length c33, 5, 1, nums .u8 t30⟩, ⟨.slice A37 t36.1.length c39, 5, 1, nums .u8 x14_2⟩] [Ft59_0, Ft24_0]) rfl) [] rfl rfl rfl).ungrp⟩
                        exact l2 k (Nat.le_refl _) t36.1 0 _ (Mem.pickF (hM.as (H' := Gs [⟨.slice A51 t50.length c53, 3, 1, nums .i64 t50⟩, ⟨.slice A10 t9.length c12, 5, 1, nums .u8 x10_0⟩, ⟨.slice A31 t30.length c33, 5, 1, nums .u8 t30⟩, ⟨.slice A37 t36.1.length c39, 5, 1, nums .u8 t36.1⟩] [Ft59_0, Ft24_0]) rfl) [2, 3, 4, 5] rfl rfl rfl) h
                    · replace h := of_false h c57
                      cases h
                  · replace h := of_false h c56
                    cases h
          exact l0 k (Nat.le_refl _) t9 0 _ (Mem.pickF (hM.as (H' := Gs [⟨.slice A37 t36.1.length c39, 5, 1, nums .u8 t36.1⟩, ⟨.slice A31 t30.length c33, 5, 1, nums .u8 t30⟩, ⟨.slice A16 t15.length c18, 3, 1, nums .i64 t15⟩, ⟨.slice A10 t9.length c12, 5, 1, nums .u8 t9⟩] [Ft24_0]) rfl) [3, 1, 0, 4] rfl rfl rfl) h
        · replace h := of_false h c25
          obtain rfl := rOpt.none hRt24_0 c25
          refine RunF.go 7 [8] (k' := (pl Go.Proofs.Try.f7 [1, 1, 1, 1, 1, 0, 1, 0, 1])) (L' := [(8, .bool false)]) (w' := W23) (by kernel_rfl) ?_
          obtain rfl := Option.some.inj h
          exact RunF.ret1 8 (.bool false) (fn := Go.Proofs.Try.f7) Go.Proofs.Try.func7 (by kernel_rfl) (by kernel_rfl) (by kernel_rfl) ⟨_, rfl, rfl, (Mem.pickF (hM.as (H' := Gs [⟨.slice A16 t15.length c18, 3, 1, nums .i64 t15⟩, ⟨.slice A10 t9.length c12, 5, 1, nums .u8 t9⟩] [Ft24_0]) rfl) [] rfl rfl rfl).ungrp⟩
      · replace h := of_false h c22
        cases h
    · replace h := of_false h c21
      cases h


end Go.Scr.S
