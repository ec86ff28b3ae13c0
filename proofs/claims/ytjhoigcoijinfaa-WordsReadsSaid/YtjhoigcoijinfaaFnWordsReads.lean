/- The functions that the law WordsReads reaches, as plain functions, and that each call answers so. -/
import Derived.Test.YtjhoigcoijinfaaProg
import Derived.Test.YtjhoigcoijinfaaXDeep3
set_option linter.unusedVariables false
set_option linter.unusedSimpArgs false
set_option linter.unnecessarySimpa false
namespace Go.Scr.S
open Go.RowKit (Below)

/-! ### scrim/words.Inc: function 16 -/
def words_Inc.l0 : Nat → (List Int) → (List Int) → Int → Option (List Int)
  | 0, _, _, _ => none
  | k + 1, a0, x3_0, x4_0 => if (decide (x4_0 > 0)) = true then (if (decide (0 ≤ (I64 (x4_0 - 1)))) = true then (if (decide ((I64 (x4_0 - 1)) < (((List.replicate 0 (0 : Int)) ++ a0).length : Int))) = true then (if (decide (0 ≤ (I64 (x4_0 - 1)))) = true then (if (decide ((I64 (x4_0 - 1)) < (((List.replicate 0 (0 : Int)) ++ a0).length : Int))) = true then (if (decide (0 ≤ (I64 (x4_0 - 1)))) = true then (if (decide ((I64 (x4_0 - 1)) < (((List.replicate 0 (0 : Int)) ++ a0).length : Int))) = true then ((some (((rd (x3_0.set (I64 (x4_0 - 1) : Int).toNat (U8 ((rd x3_0 (I64 (x4_0 - 1))) + 1))) (I64 (x4_0 - 1))) == 0) : Bool)).bind fun y24 => (if y24 = true then (words_Inc.l0 k a0 (x3_0.set (I64 (x4_0 - 1) : Int).toNat (U8 ((rd x3_0 (I64 (x4_0 - 1))) + 1))) (I64 (x4_0 - 1))) else (some (x3_0.set (I64 (x4_0 - 1) : Int).toNat (U8 ((rd x3_0 (I64 (x4_0 - 1))) + 1)))))) else (none)) else (none)) else (none)) else (none)) else (none)) else (none)) else (some x3_0)
def words_Inc.f (k : Nat) (a0 : List Int) : Option (List Int) := if (decide (0 ≤ (a0.length : Int))) = true then (if (decide ((a0.length : Int) ≤ 1000000000)) = true then (if (decide ((List.replicate 0 (0 : Int)).length + a0.length ≤ 1000000000)) = true then ((some ((((List.replicate 0 (0 : Int)) ++ a0).length : Int) : Int)).bind fun y12 => (words_Inc.l0 k a0 ((List.replicate 0 (0 : Int)) ++ a0) y12)) else (none)) else (none)) else (none)
set_option maxRecDepth 100000 in
theorem words_Inc.calls (k : Nat) (Ap0 : Option Addr) (np0 cp0 : Nat) (a0 : List Int) (r : List Int) (w : World) (hr0 : Rd w (.slice Ap0 np0 cp0) (nums .u8 a0)) (h : words_Inc.f k a0 = some r) :
    Calls Go.Proofs.Try.prog 16 #[(.slice Ap0 np0 cp0)] w (Ret fun v w' => ∃ A0' n0' c0', v = .slice A0' n0' c0' ∧ Mem w w' [⟨.slice A0' n0' c0', 5, 1, nums .u8 r⟩]) := by
  obtain rfl : a0.length = np0 := by have h_ := hr0.1; simpa [nums_length, bools_length, strs_length] using h_
  unfold words_Inc.f at h
  refine calls_of [.slice Ap0 a0.length cp0] (fn := Go.Proofs.Try.f16) Go.Proofs.Try.func16 (by kernel_rfl) (by kernel_rfl) ?_
  have hM := Mem.refl w
  refine RunF.go 9 [0, 6] (k' := (pin Go.Proofs.Try.f16 [1, 0, 0] 2)) (L' := [(0, .slice Ap0 a0.length cp0), (6, .int .i64 (a0.length : Int))]) (w' := w) (by kernel_rfl) ?_
  rcases two (decide (0 ≤ (a0.length : Int))) with c3 | c3
  · replace h := of_true h c3
    rcases two (decide ((a0.length : Int) ≤ 1000000000)) with c4 | c4
    · replace h := of_true h c4
      have := of_decide_eq_true c3
      have := of_decide_eq_true c4
      obtain ⟨W1, hD, hM', hB_⟩ := mk_does (P := Go.Proofs.Try.prog) (n := 28) (k := (pin Go.Proofs.Try.f16 [1, 0, 0] 2)) (L := [(0, .slice Ap0 a0.length cp0), (6, .int .i64 (a0.length : Int))]) (d := some 7) (e := 5) (z := .int .u8 0) (l := 0) (c := (a0.length : Int)) (k2 := (pin Go.Proofs.Try.f16 [1, 0, 0] 3)) (by kernel_rfl) (by omega) (by omega) (by omega) hM
      rw [rep_nums] at hM'
      refine RunF.does hD ?_
      replace hM := hM'; clear hD hM'
      generalize w.heap.size = g2 at hM ⊢
      refine RunF.go 1 [7, 8] (k' := (pin Go.Proofs.Try.f16 [1, 0, 0] 4)) (L' := [(7, .slice (some ⟨g2, 0, none⟩) 0 (((a0.length : Int) : Int).toNat)), (8, .slice Ap0 a0.length cp0)]) (w' := W1) (by kernel_rfl) ?_
      rcases two (decide ((List.replicate 0 (0 : Int)).length + a0.length ≤ 1000000000)) with c10 | c10
      · replace h := of_true h c10
        have h_ := of_decide_eq_true c10
        obtain ⟨A6, n7, c8, W9, hD, hM', hS_⟩ := app_does (P := Go.Proofs.Try.prog) (n := 28) (k := (pin Go.Proofs.Try.f16 [1, 0, 0] 4)) (L := [(7, .slice (some ⟨g2, 0, none⟩) 0 (((a0.length : Int) : Int).toNat)), (8, .slice Ap0 a0.length cp0)]) (d := some 9) (e := 5) (A := (some ⟨g2, 0, none⟩)) (m := 0) (c := ((a0.length : Int) : Int).toNat) (A2 := Ap0) (m2 := a0.length) (c2 := cp0) (cs := nums .u8 (List.replicate 0 (0 : Int))) (ys := nums .u8 a0) (k2 := (pin Go.Proofs.Try.f16 [1, 0, 0] 5)) [] [] (by kernel_rfl) (hM.pick [0] rfl rfl) (hr0.mono hM.below) (one_nums _ _) (by omega)
        rw [nums_append] at hM'
        replace hM := hM'; clear h_ hM'
        obtain rfl : ((List.replicate 0 (0 : Int)) ++ a0).length = n7 := by have h_ := (hM.rd 0 rfl).1; simpa only [nums_length, bools_length, strs_length] using h_
        refine RunF.does hD ?_
        clear hD hS_
        refine RunF.go 10 [3, 4] (k' := (pl Go.Proofs.Try.f16 [1, 0, 1, 1, 1])) (L' := [(3, .slice A6 (((List.replicate 0 (0 : Int)) ++ a0).length) c8), (4, .int .i64 (((List.replicate 0 (0 : Int)) ++ a0).length : Int))]) (w' := W9) (by kernel_rfl) ?_
        obtain ⟨y12, hy, h⟩ := Option.bind_eq_some_iff.mp h
        rw [show ((((List.replicate 0 (0 : Int)) ++ a0).length : Int)) = y12 from Option.some.inj hy]
        clear hy
        have l0 : ∀ (k_ : Nat), k_ ≤ k → ∀ (x3_0 : List Int) (x4_0 : Int) (W : World) (hM : Mem w W [⟨.slice A6 (((List.replicate 0 (0 : Int)) ++ a0).length) c8, 5, 1, nums .u8 x3_0⟩]) (h : words_Inc.l0 k_ a0 x3_0 x4_0 = some r), RunF Go.Proofs.Try.prog (Ret fun v w' => ∃ A0' n0' c0', v = .slice A0' n0' c0' ∧ Mem w w' [⟨.slice A0' n0' c0', 5, 1, nums .u8 r⟩]) 16 (pl Go.Proofs.Try.f16 [1, 0, 1, 1, 1]) 28 [(3, .slice A6 (((List.replicate 0 (0 : Int)) ++ a0).length) c8), (4, .int .i64 x4_0)] W := by
          intro k_
          induction k_ using Nat.strongRecOn with
          | _ k_ ih0 =>
            intro hk x3_0 x4_0 W hM h
            cases k_ with
            | zero => exact absurd h (by simp [words_Inc.l0])
            | succ k =>
              simp only [words_Inc.l0] at h
              replace ih0 : ∀ m, m ≤ k → _ := fun m hm => ih0 m (by omega) (by omega)
              refine RunF.go 6 [3, 4, 13] (k' := (pl Go.Proofs.Try.f16 [1, 0, 1, 1, 1, 0, 1])) (L' := [(3, .slice A6 (((List.replicate 0 (0 : Int)) ++ a0).length) c8), (4, .int .i64 x4_0), (13, .bool (decide (x4_0 > 0)))]) (w' := W) (by kernel_rfl) ?_
              rcases two (decide (x4_0 > 0)) with c13 | c13
              · replace h := of_true h c13
                refine RunF.know 13 (b := true) (by kernel_rfl) c13 ?_
                refine RunF.go 11 [3, 4, 16, 17] (k' := (pin Go.Proofs.Try.f16 [1, 0, 1, 1, 1, 0, 1, 0, 1, 0] 2)) (L' := [(3, .slice A6 (((List.replicate 0 (0 : Int)) ++ a0).length) c8), (4, .int .i64 (I64 (x4_0 - 1))), (16, .slice A6 (((List.replicate 0 (0 : Int)) ++ a0).length) c8), (17, .int .i64 (I64 (x4_0 - 1)))]) (w' := W) (by kernel_rfl) ?_
                rcases two (decide (0 ≤ (I64 (x4_0 - 1)))) with c15 | c15
                · replace h := of_true h c15
                  rcases two (decide ((I64 (x4_0 - 1)) < (((List.replicate 0 (0 : Int)) ++ a0).length : Int))) with c16 | c16
                  · replace h := of_true h c16
                    obtain ⟨q14, hAq14, hcq14, hfq14, hlq14⟩ := hM.num_at 0 rfl (i := I64 (x4_0 - 1)) (of_decide_eq_true c15) (by have h_ := of_decide_eq_true c16; omega)
                    refine RunF.y (idx_own (d := some 18) (A := A6) (m := ((List.replicate 0 (0 : Int)) ++ a0).length) (i := I64 (x4_0 - 1)) (k2 := (pin Go.Proofs.Try.f16 [1, 0, 1, 1, 1, 0, 1, 0, 1, 0] 3)) (by kernel_rfl) (of_decide_eq_true c15) (by have h_ := of_decide_eq_true c16; omega) hAq14) trivial ?_
                    refine RunF.y (ld_y (d := some 19) (p := ⟨q14, (I64 (x4_0 - 1) : Int).toNat, none⟩) (k2 := (pin Go.Proofs.Try.f16 [1, 0, 1, 1, 1, 0, 1, 0, 1, 0] 4)) (.int .u8 (rd x3_0 (I64 (x4_0 - 1)))) (by kernel_rfl)) hcq14 ?_
                    refine RunF.go 1 [3, 4, 16, 17, 20] (k' := (pin Go.Proofs.Try.f16 [1, 0, 1, 1, 1, 0, 1, 0, 1, 0] 5)) (L' := [(3, .slice A6 (((List.replicate 0 (0 : Int)) ++ a0).length) c8), (4, .int .i64 (I64 (x4_0 - 1))), (16, .slice A6 (((List.replicate 0 (0 : Int)) ++ a0).length) c8), (17, .int .i64 (I64 (x4_0 - 1))), (20, .int .u8 (U8 ((rd x3_0 (I64 (x4_0 - 1))) + 1)))]) (w' := W) (by kernel_rfl) ?_
                    rcases two (decide (0 ≤ (I64 (x4_0 - 1)))) with c18 | c18
                    · replace h := of_true h c18
                      rcases two (decide ((I64 (x4_0 - 1)) < (((List.replicate 0 (0 : Int)) ++ a0).length : Int))) with c19 | c19
                      · replace h := of_true h c19
                        obtain ⟨q17, hAq17, hcq17, hfq17, hlq17⟩ := hM.num_at 0 rfl (i := I64 (x4_0 - 1)) (of_decide_eq_true c18) (by have h_ := of_decide_eq_true c19; omega)
                        refine RunF.y (idx_own (d := some 21) (A := A6) (m := ((List.replicate 0 (0 : Int)) ++ a0).length) (i := I64 (x4_0 - 1)) (k2 := (pin Go.Proofs.Try.f16 [1, 0, 1, 1, 1, 0, 1, 0, 1, 0] 6)) (by kernel_rfl) (of_decide_eq_true c18) (by have h_ := of_decide_eq_true c19; omega) hAq17) trivial ?_
                        obtain ⟨g_, hA_, hc_, hf_, hl_⟩ := hM.num_at 0 rfl (i := I64 (x4_0 - 1)) (of_decide_eq_true c18) (by have h_ := of_decide_eq_true c19; omega)
                        obtain rfl : q17 = g_ := by rw [hAq17] at hA_; injection hA_ with hA_; injection hA_
                        refine RunF.doesU (st_u (p := (⟨q17, (I64 (x4_0 - 1) : Int).toNat, none⟩ : Addr)) (v := .int .u8 (U8 ((rd x3_0 (I64 (x4_0 - 1))) + 1))) (k2 := (pin Go.Proofs.Try.f16 [1, 0, 1, 1, 1, 0, 1, 0, 1, 0] 7)) (by kernel_rfl) hc_ hf_) ?_
                        replace hM : Mem w (W.setCell (⟨q17, (I64 (x4_0 - 1) : Int).toNat, none⟩ : Addr) (.int .u8 (U8 ((rd x3_0 (I64 (x4_0 - 1))) + 1)))) [⟨.slice A6 (((List.replicate 0 (0 : Int)) ++ a0).length) c8, 5, 1, nums .u8 (x3_0.set (I64 (x4_0 - 1) : Int).toNat (U8 ((rd x3_0 (I64 (x4_0 - 1))) + 1)))⟩] := Mem.put_num [] [] (hM.pick [0] rfl rfl) hAq17 _ hl_ _
                        generalize W.setCell (⟨q17, (I64 (x4_0 - 1) : Int).toNat, none⟩ : Addr) (.int .u8 (U8 ((rd x3_0 (I64 (x4_0 - 1))) + 1))) = W20 at hM ⊢
                        clear hc_ hf_ hl_ hA_ hcq17
                        refine RunF.go 5 [3, 4, 22, 23] (k' := (pin Go.Proofs.Try.f16 [1, 0, 1, 1, 1, 0, 1, 0, 1, 1, 0] 2)) (L' := [(3, .slice A6 (((List.replicate 0 (0 : Int)) ++ a0).length) c8), (4, .int .i64 (I64 (x4_0 - 1))), (22, .slice A6 (((List.replicate 0 (0 : Int)) ++ a0).length) c8), (23, .int .i64 (I64 (x4_0 - 1)))]) (w' := W20) (by kernel_rfl) ?_
                        rcases two (decide (0 ≤ (I64 (x4_0 - 1)))) with c22 | c22
                        · replace h := of_true h c22
                          rcases two (decide ((I64 (x4_0 - 1)) < (((List.replicate 0 (0 : Int)) ++ a0).length : Int))) with c23 | c23
                          · replace h := of_true h c23
                            obtain ⟨q21, hAq21, hcq21, hfq21, hlq21⟩ := hM.num_at 0 rfl (i := I64 (x4_0 - 1)) (of_decide_eq_true c22) (by have h_ := of_decide_eq_true c23; omega)
                            refine RunF.y (idx_own (d := some 24) (A := A6) (m := ((List.replicate 0 (0 : Int)) ++ a0).length) (i := I64 (x4_0 - 1)) (k2 := (pin Go.Proofs.Try.f16 [1, 0, 1, 1, 1, 0, 1, 0, 1, 1, 0] 3)) (by kernel_rfl) (of_decide_eq_true c22) (by have h_ := of_decide_eq_true c23; omega) hAq21) trivial ?_
                            refine RunF.y (ld_y (d := some 25) (p := ⟨q21, (I64 (x4_0 - 1) : Int).toNat, none⟩) (k2 := (pin Go.Proofs.Try.f16 [1, 0, 1, 1, 1, 0, 1, 0, 1, 1, 0] 4)) (.int .u8 (rd (x3_0.set (I64 (x4_0 - 1) : Int).toNat (U8 ((rd x3_0 (I64 (x4_0 - 1))) + 1))) (I64 (x4_0 - 1)))) (by kernel_rfl)) hcq21 ?_
                            refine RunF.go 2 [3, 4, 26] (k' := (pl Go.Proofs.Try.f16 [1, 0, 1, 1, 1, 0, 1, 0, 1, 1, 1])) (L' := [(3, .slice A6 (((List.replicate 0 (0 : Int)) ++ a0).length) c8), (4, .int .i64 (I64 (x4_0 - 1))), (26, .bool ((rd (x3_0.set (I64 (x4_0 - 1) : Int).toNat (U8 ((rd x3_0 (I64 (x4_0 - 1))) + 1))) (I64 (x4_0 - 1))) == 0))]) (w' := W20) (by kernel_rfl) ?_
                            obtain ⟨y24, hy, h⟩ := Option.bind_eq_some_iff.mp h
                            rw [show (((rd (x3_0.set (I64 (x4_0 - 1) : Int).toNat (U8 ((rd x3_0 (I64 (x4_0 - 1))) + 1))) (I64 (x4_0 - 1))) == 0)) = y24 from Option.some.inj hy]
                            clear hy
                            rcases two (y24) with c25 | c25
                            · replace h := of_true h c25
                              refine RunF.know 26 (b := true) (by kernel_rfl) c25 ?_
                              refine RunF.go 4 [3, 4] (k' := (pl Go.Proofs.Try.f16 [1, 0, 1, 1, 1])) (L' := [(3, .slice A6 (((List.replicate 0 (0 : Int)) ++ a0).length) c8), (4, .int .i64 (I64 (x4_0 - 1)))]) (w' := W20) (by kernel_rfl) ?_
                              exact ih0 k (by omega) (x3_0.set (I64 (x4_0 - 1) : Int).toNat (U8 ((rd x3_0 (I64 (x4_0 - 1))) + 1))) (I64 (x4_0 - 1)) _ (hM.pick [0] rfl rfl) h
                            · replace h := of_false h c25
                              refine RunF.know 26 (b := false) (by kernel_rfl) c25 ?_
                              refine RunF.go 7 [2] (k' := (pl Go.Proofs.Try.f16 [1, 0, 1, 1, 1, 1, 1])) (L' := [(2, .slice A6 (((List.replicate 0 (0 : Int)) ++ a0).length) c8)]) (w' := W20) (by kernel_rfl) ?_
                              obtain rfl := Option.some.inj h
                              exact RunF.ret1 2 (.slice A6 (((List.replicate 0 (0 : Int)) ++ a0).length) c8) (fn := Go.Proofs.Try.f16) Go.Proofs.Try.func16 (by kernel_rfl) (by kernel_rfl) (by kernel_rfl) ⟨_, rfl, A6, ((List.replicate 0 (0 : Int)) ++ a0).length, c8, rfl, (hM.pick [0] rfl rfl)⟩
                          · replace h := of_false h c23
                            cases h
                        · replace h := of_false h c22
                          cases h
                      · replace h := of_false h c19
                        cases h
                    · replace h := of_false h c18
                      cases h
                  · replace h := of_false h c16
                    cases h
                · replace h := of_false h c15
                  cases h
              · replace h := of_false h c13
                refine RunF.know 13 (b := false) (by kernel_rfl) c13 ?_
                refine RunF.go 7 [2] (k' := (pl Go.Proofs.Try.f16 [1, 0, 1, 1, 1, 1, 1])) (L' := [(2, .slice A6 (((List.replicate 0 (0 : Int)) ++ a0).length) c8)]) (w' := W) (by kernel_rfl) ?_
                obtain rfl := Option.some.inj h
                exact RunF.ret1 2 (.slice A6 (((List.replicate 0 (0 : Int)) ++ a0).length) c8) (fn := Go.Proofs.Try.f16) Go.Proofs.Try.func16 (by kernel_rfl) (by kernel_rfl) (by kernel_rfl) ⟨_, rfl, A6, ((List.replicate 0 (0 : Int)) ++ a0).length, c8, rfl, (hM.pick [0] rfl rfl)⟩
        exact l0 k (Nat.le_refl _) ((List.replicate 0 (0 : Int)) ++ a0) y12 _ (hM.pick [0] rfl rfl) h
      · replace h := of_false h c10
        cases h
    · replace h := of_false h c4
      cases h
  · replace h := of_false h c3
    cases h

/-! ### scrim/words.load: function 38 -/
def words_load.l0 : Nat → (List Int) → Int → Int → Option (Int)
  | 0, _, _, _ => none
  | k + 1, a0, x3_0, x4_0 => if (decide (x4_0 < (a0.length : Int))) = true then (if (decide (0 ≤ x4_0)) = true then (if (decide (x4_0 < (a0.length : Int))) = true then ((some (bor .u64 (shl .u64 x3_0 8) (U64 (rd a0 x4_0)) : Int)).bind fun y5 => (words_load.l0 k a0 y5 (I64 (x4_0 + 1)))) else (none)) else (none)) else (some x3_0)
def words_load.f (k : Nat) (a0 : List Int) : Option (Int) := words_load.l0 k a0 0 0
set_option maxRecDepth 100000 in
theorem words_load.calls (k : Nat) (Ap0 : Option Addr) (np0 cp0 : Nat) (a0 : List Int) (r : Int) (w : World) (hr0 : Rd w (.slice Ap0 np0 cp0) (nums .u8 a0)) (h : words_load.f k a0 = some r) :
    Calls Go.Proofs.Try.prog 38 #[(.slice Ap0 np0 cp0)] w (Ret fun v w' => v = .int .u64 r ∧ Mem w w' []) := by
  obtain rfl : a0.length = np0 := by have h_ := hr0.1; simpa [nums_length, bools_length, strs_length] using h_
  unfold words_load.f at h
  refine calls_of [.slice Ap0 a0.length cp0] (fn := Go.Proofs.Try.f38) Go.Proofs.Try.func38 (by kernel_rfl) (by kernel_rfl) ?_
  have hM := Mem.refl w
  refine RunF.go 12 [0, 3, 4] (k' := (pl Go.Proofs.Try.f38 [1, 0, 1, 1])) (L' := [(0, .slice Ap0 a0.length cp0), (3, .int .u64 0), (4, .int .i64 0)]) (w' := w) (by kernel_rfl) ?_
  have l0 : ∀ (k_ : Nat), k_ ≤ k → ∀ (x3_0 : Int) (x4_0 : Int) (W : World) (hM : Mem w W []) (h : words_load.l0 k_ a0 x3_0 x4_0 = some r), RunF Go.Proofs.Try.prog (Ret fun v w' => v = .int .u64 r ∧ Mem w w' []) 38 (pl Go.Proofs.Try.f38 [1, 0, 1, 1]) 20 [(0, .slice Ap0 a0.length cp0), (3, .int .u64 x3_0), (4, .int .i64 x4_0)] W := by
    intro k_
    induction k_ using Nat.strongRecOn with
    | _ k_ ih0 =>
      intro hk x3_0 x4_0 W hM h
      cases k_ with
      | zero => exact absurd h (by simp [words_load.l0])
      | succ k =>
        simp only [words_load.l0] at h
        replace ih0 : ∀ m, m ≤ k → _ := fun m hm => ih0 m (by omega) (by omega)
        refine RunF.go 8 [0, 3, 4, 8] (k' := (pl Go.Proofs.Try.f38 [1, 0, 1, 1, 0, 1])) (L' := [(0, .slice Ap0 a0.length cp0), (3, .int .u64 x3_0), (4, .int .i64 x4_0), (8, .bool (decide (x4_0 < (a0.length : Int))))]) (w' := W) (by kernel_rfl) ?_
        rcases two (decide (x4_0 < (a0.length : Int))) with c1 | c1
        · replace h := of_true h c1
          refine RunF.know 8 (b := true) (by kernel_rfl) c1 ?_
          refine RunF.go 7 [0, 4, 10, 11, 12] (k' := (pin Go.Proofs.Try.f38 [1, 0, 1, 1, 0, 1, 0, 0] 4)) (L' := [(0, .slice Ap0 a0.length cp0), (4, .int .i64 x4_0), (10, .int .u64 (shl .u64 x3_0 8)), (11, .slice Ap0 a0.length cp0), (12, .int .i64 x4_0)]) (w' := W) (by kernel_rfl) ?_
          rcases two (decide (0 ≤ x4_0)) with c3 | c3
          · replace h := of_true h c3
            rcases two (decide (x4_0 < (a0.length : Int))) with c4 | c4
            · replace h := of_true h c4
              obtain ⟨q2, hAq2, hcq2⟩ := Rd.num (hr0.mono hM.below) (i := x4_0) (of_decide_eq_true c3) (by have h_ := of_decide_eq_true c4; omega)
              refine RunF.y (idx_y (d := some 13) (A := Ap0) (m := a0.length) (i := x4_0) (k2 := (pin Go.Proofs.Try.f38 [1, 0, 1, 1, 0, 1, 0, 0] 5)) (by kernel_rfl) (of_decide_eq_true c3) (by have h_ := of_decide_eq_true c4; omega) hAq2) trivial ?_
              refine RunF.y (ld_y (d := some 14) (p := (q2.add (x4_0 : Int).toNat)) (k2 := (pin Go.Proofs.Try.f38 [1, 0, 1, 1, 0, 1, 0, 0] 6)) (.int .u8 (rd a0 x4_0)) (by kernel_rfl)) hcq2 ?_
              refine RunF.go 13 [0, 3, 4] (k' := (pl Go.Proofs.Try.f38 [1, 0, 1, 1])) (L' := [(0, .slice Ap0 a0.length cp0), (3, .int .u64 (bor .u64 (shl .u64 x3_0 8) (U64 (rd a0 x4_0)))), (4, .int .i64 (I64 (x4_0 + 1)))]) (w' := W) (by kernel_rfl) ?_
              obtain ⟨y5, hy, h⟩ := Option.bind_eq_some_iff.mp h
              rw [show (bor .u64 (shl .u64 x3_0 8) (U64 (rd a0 x4_0))) = y5 from Option.some.inj hy]
              clear hy
              exact ih0 k (by omega) y5 (I64 (x4_0 + 1)) _ (hM.pick [] rfl rfl) h
            · replace h := of_false h c4
              cases h
          · replace h := of_false h c3
            cases h
        · replace h := of_false h c1
          refine RunF.know 8 (b := false) (by kernel_rfl) c1 ?_
          refine RunF.go 7 [2] (k' := (pl Go.Proofs.Try.f38 [1, 0, 1, 1, 1, 1])) (L' := [(2, .int .u64 x3_0)]) (w' := W) (by kernel_rfl) ?_
          obtain rfl := Option.some.inj h
          exact RunF.ret1 2 (.int .u64 x3_0) (fn := Go.Proofs.Try.f38) Go.Proofs.Try.func38 (by kernel_rfl) (by kernel_rfl) (by kernel_rfl) ⟨_, rfl, rfl, (hM.pick [] rfl rfl)⟩
  exact l0 k (Nat.le_refl _) 0 0 _ (hM.pick [] rfl rfl) h

/-! ### scrim/words.Be32: function 18 -/
def words_Be32.f (k : Nat) (a0 : List Int) : Option (Int × Bool) := if ((a0.length : Int) != 4) = true then (some (0, false)) else ((words_load.f k a0).bind fun t3 => (some (U32 (t3), true)))
set_option maxRecDepth 100000 in
theorem words_Be32.calls (k : Nat) (Ap0 : Option Addr) (np0 cp0 : Nat) (a0 : List Int) (r : Int × Bool) (w : World) (hr0 : Rd w (.slice Ap0 np0 cp0) (nums .u8 a0)) (h : words_Be32.f k a0 = some r) :
    Calls Go.Proofs.Try.prog 18 #[(.slice Ap0 np0 cp0)] w (Ret fun v w' => v = .tuple #[.int .u32 r.1, .bool r.2] ∧ Mem w w' []) := by
  obtain rfl : a0.length = np0 := by have h_ := hr0.1; simpa [nums_length, bools_length, strs_length] using h_
  unfold words_Be32.f at h
  refine calls_of [.slice Ap0 a0.length cp0] (fn := Go.Proofs.Try.f18) Go.Proofs.Try.func18 (by kernel_rfl) (by kernel_rfl) ?_
  have hM := Mem.refl w
  refine RunF.go 12 [0, 6] (k' := (pl Go.Proofs.Try.f18 [1, 0, 1])) (L' := [(0, .slice Ap0 a0.length cp0), (6, .bool ((a0.length : Int) != 4))]) (w' := w) (by kernel_rfl) ?_
  rcases two (((a0.length : Int) != 4)) with c1 | c1
  · replace h := of_true h c1
    refine RunF.know 6 (b := true) (by kernel_rfl) c1 ?_
    refine RunF.go 6 [2, 3] (k' := (pl Go.Proofs.Try.f18 [1, 0, 1, 0, 1])) (L' := [(2, .int .u32 0), (3, .bool false)]) (w' := w) (by kernel_rfl) ?_
    obtain rfl := Option.some.inj h
    exact RunF.ret2 2 3 (.int .u32 0) (.bool false) (fn := Go.Proofs.Try.f18) Go.Proofs.Try.func18 (by kernel_rfl) (by kernel_rfl) (by kernel_rfl) (by kernel_rfl) ⟨_, rfl, rfl, (hM.pick [] rfl rfl)⟩
  · replace h := of_false h c1
    refine RunF.know 6 (b := false) (by kernel_rfl) c1 ?_
    refine RunF.go 5 [7] (k' := (pin Go.Proofs.Try.f18 [1, 1, 0] 1)) (L' := [(7, .slice Ap0 a0.length cp0)]) (w' := w) (by kernel_rfl) ?_
    obtain ⟨t3, ht3, h⟩ := Option.bind_eq_some_iff.mp h
    refine RunF.call (d := some 8) (g := 38) (args := #[.slice Ap0 a0.length cp0]) (k2 := (pin Go.Proofs.Try.f18 [1, 1, 0] 2)) (by kernel_rfl) (words_load.calls k Ap0 a0.length cp0 a0 t3 _ (hr0.mono hM.below) ht3) ?_
    rintro _ W2 ⟨rfl, hM_⟩
    replace hM := hM.call hM_
    clear hM_ ht3
    refine RunF.go 4 [2, 3] (k' := (pl Go.Proofs.Try.f18 [1, 1, 1])) (L' := [(2, .int .u32 (U32 (t3))), (3, .bool true)]) (w' := W2) (by kernel_rfl) ?_
    obtain rfl := Option.some.inj h
    exact RunF.ret2 2 3 (.int .u32 (U32 (t3))) (.bool true) (fn := Go.Proofs.Try.f18) Go.Proofs.Try.func18 (by kernel_rfl) (by kernel_rfl) (by kernel_rfl) (by kernel_rfl) ⟨_, rfl, rfl, (hM.pick [] rfl rfl)⟩

/-! ### scrim/words.rest: function 43 -/
def words_rest.f (k : Nat) (a0 : Int) (a1 : Int) : Option (Int) := if (decide (a1 = 0)) = true then (none) else (if (decide (a1 = 0)) = true then (none) else (some (Int.tmod (I64 ((Int.tmod a0 a1) + a1)) a1)))
set_option maxRecDepth 100000 in
theorem words_rest.calls (k : Nat) (a0 : Int) (a1 : Int) (r : Int) (w : World) (h : words_rest.f k a0 a1 = some r) :
    Calls Go.Proofs.Try.prog 43 #[.int .i64 a0, .int .i64 a1] w (Ret fun v w' => v = .int .i64 r ∧ Mem w w' []) := by
  unfold words_rest.f at h
  refine calls_of [.int .i64 a0, .int .i64 a1] (fn := Go.Proofs.Try.f43) Go.Proofs.Try.func43 (by kernel_rfl) (by kernel_rfl) ?_
  have hM := Mem.refl w
  refine RunF.go 8 [1, 5, 6] (k' := (pin Go.Proofs.Try.f43 [1, 0] 2)) (L' := [(1, .int .i64 a1), (5, .int .i64 a0), (6, .int .i64 a1)]) (w' := w) (by kernel_rfl) ?_
  rcases two (decide (a1 = 0)) with c1 | c1
  · replace h := of_true h c1
    cases h
  · replace h := of_false h c1
    refine RunF.y (div_y (d := some 7) (b := false) (kd := .i64) (x := a0) (y := a1) (k2 := (pin Go.Proofs.Try.f43 [1, 0] 3)) (by kernel_rfl) c1) trivial ?_
    refine RunF.go 3 [9, 10] (k' := (pin Go.Proofs.Try.f43 [1, 0] 6)) (L' := [(9, .int .i64 (I64 ((Int.tmod a0 a1) + a1))), (10, .int .i64 a1)]) (w' := w) (by kernel_rfl) ?_
    rcases two (decide (a1 = 0)) with c2 | c2
    · replace h := of_true h c2
      cases h
    · replace h := of_false h c2
      refine RunF.y (div_y (d := some 11) (b := false) (kd := .i64) (x := I64 ((Int.tmod a0 a1) + a1)) (y := a1) (k2 := (pin Go.Proofs.Try.f43 [1, 0] 7)) (by kernel_rfl) c2) trivial ?_
      refine RunF.go 2 [4] (k' := (pl Go.Proofs.Try.f43 [1, 1])) (L' := [(4, .int .i64 (Int.tmod (I64 ((Int.tmod a0 a1) + a1)) a1))]) (w' := w) (by kernel_rfl) ?_
      obtain rfl := Option.some.inj h
      exact RunF.ret1 4 (.int .i64 (Int.tmod (I64 ((Int.tmod a0 a1) + a1)) a1)) (fn := Go.Proofs.Try.f43) Go.Proofs.Try.func43 (by kernel_rfl) (by kernel_rfl) (by kernel_rfl) ⟨_, rfl, rfl, (hM.pick [] rfl rfl)⟩

/-! ### scrim/words.Rol8: function 28 -/
def words_Rol8.f (k : Nat) (a0 : Int) (a1 : Int) : Option (Int) := (words_rest.f k a1 8).bind fun t2 => (if (decide (0 ≤ (U64 (t2)))) = true then (if (decide (0 ≤ (U64 (8 - (U64 (t2)))))) = true then (some (bor .u8 (shlv .u8 a0 (U64 (t2))) (shrv .u8 a0 (U64 (8 - (U64 (t2))))))) else (none)) else (none))
set_option maxRecDepth 100000 in
theorem words_Rol8.calls (k : Nat) (a0 : Int) (a1 : Int) (r : Int) (w : World) (h : words_Rol8.f k a0 a1 = some r) :
    Calls Go.Proofs.Try.prog 28 #[.int .u8 a0, .int .i64 a1] w (Ret fun v w' => v = .int .u8 r ∧ Mem w w' []) := by
  unfold words_Rol8.f at h
  refine calls_of [.int .u8 a0, .int .i64 a1] (fn := Go.Proofs.Try.f28) Go.Proofs.Try.func28 (by kernel_rfl) (by kernel_rfl) ?_
  have hM := Mem.refl w
  refine RunF.go 7 [0, 6] (k' := (pin Go.Proofs.Try.f28 [1, 0] 1)) (L' := [(0, .int .u8 a0), (6, .int .i64 a1)]) (w' := w) (by kernel_rfl) ?_
  obtain ⟨t2, ht2, h⟩ := Option.bind_eq_some_iff.mp h
  refine RunF.call (d := some 7) (g := 43) (args := #[.int .i64 a1, .int .i64 8]) (k2 := (pin Go.Proofs.Try.f28 [1, 0] 2)) (by kernel_rfl) (words_rest.calls k a1 8 t2 _ ht2) ?_
  rintro _ W1 ⟨rfl, hM_⟩
  replace hM := hM.call hM_
  clear hM_ ht2
  refine RunF.go 7 [0, 5, 9, 10] (k' := (pin Go.Proofs.Try.f28 [1, 1, 0] 2)) (L' := [(0, .int .u8 a0), (5, .int .u64 (U64 (t2))), (9, .int .u8 a0), (10, .int .u64 (U64 (t2)))]) (w' := W1) (by kernel_rfl) ?_
  rcases two (decide (0 ≤ (U64 (t2)))) with c3 | c3
  · replace h := of_true h c3
    refine RunF.y (sh_y (d := some 11) (b := true) (kd := .u8) (x := a0) (y := U64 (t2)) (k2 := (pin Go.Proofs.Try.f28 [1, 1, 0] 3)) (by kernel_rfl) c3) trivial ?_
    refine RunF.go 3 [11, 12, 14] (k' := (pin Go.Proofs.Try.f28 [1, 1, 0] 6)) (L' := [(11, .int .u8 (shlv .u8 a0 (U64 (t2)))), (12, .int .u8 a0), (14, .int .u64 (U64 (8 - (U64 (t2)))))]) (w' := W1) (by kernel_rfl) ?_
    rcases two (decide (0 ≤ (U64 (8 - (U64 (t2)))))) with c4 | c4
    · replace h := of_true h c4
      refine RunF.y (sh_y (d := some 15) (b := false) (kd := .u8) (x := a0) (y := U64 (8 - (U64 (t2)))) (k2 := (pin Go.Proofs.Try.f28 [1, 1, 0] 7)) (by kernel_rfl) c4) trivial ?_
      refine RunF.go 3 [4] (k' := (pl Go.Proofs.Try.f28 [1, 1, 1])) (L' := [(4, .int .u8 (bor .u8 (shlv .u8 a0 (U64 (t2))) (shrv .u8 a0 (U64 (8 - (U64 (t2)))))))]) (w' := W1) (by kernel_rfl) ?_
      obtain rfl := Option.some.inj h
      exact RunF.ret1 4 (.int .u8 (bor .u8 (shlv .u8 a0 (U64 (t2))) (shrv .u8 a0 (U64 (8 - (U64 (t2))))))) (fn := Go.Proofs.Try.f28) Go.Proofs.Try.func28 (by kernel_rfl) (by kernel_rfl) (by kernel_rfl) ⟨_, rfl, rfl, (hM.pick [] rfl rfl)⟩
    · replace h := of_false h c4
      cases h
  · replace h := of_false h c3
    cases h

/-! ### scrim/scrimlaw1.known: function 14 -/
def scrimlaw1_known.f (k : Nat)  : Option (Bool) := (words_Inc.f k ([0, 255] : List Int)).bind fun t5 => ((words_Be32.f k ([1, 2, 3, 4] : List Int)).bind fun t14 => ((some (((strOf t5).toList == (⟨#[1, 0]⟩ : ByteArray).toList) : Bool)).bind fun y15 => (if y15 = true then (if t14.2 = true then (if (t14.1 == 16909060) = true then ((words_Rol8.f k 129 1).bind fun t20 => (some (t20 == 3))) else (some false)) else (some false)) else (some false))))
set_option maxRecDepth 100000 in
theorem scrimlaw1_known.calls (k : Nat)  (r : Bool) (w : World) (h : scrimlaw1_known.f k = some r) :
    Calls Go.Proofs.Try.prog 14 #[] w (Ret fun v w' => v = .bool r ∧ Mem w w' []) := by
  unfold scrimlaw1_known.f at h
  refine calls_of [] (fn := Go.Proofs.Try.f14) Go.Proofs.Try.func14 (by kernel_rfl) (by kernel_rfl) ?_
  have hM := Mem.refl w
  refine RunF.go 6 [] (k' := (pin Go.Proofs.Try.f14 [1, 0] 0)) (L' := []) (w' := w) (by kernel_rfl) ?_
  refine RunF.new 5 1 2 (nums .u8 [0, 255]) (d := some 4) (k2 := (pin Go.Proofs.Try.f14 [1, 0] 1)) hM (by simp [nums, bools, strs]) (by kernel_rfl) (by kernel_rfl) ?_
  replace hM := hM
  intro g1 W2 hM
  obtain ⟨t5, ht5, h⟩ := Option.bind_eq_some_iff.mp h
  refine RunF.call (d := some 5) (g := 16) (args := #[.slice (some ⟨g1, 0, none⟩) 2 2]) (k2 := (pin Go.Proofs.Try.f14 [1, 0] 2)) (by kernel_rfl) (words_Inc.calls k (some ⟨g1, 0, none⟩) 2 2 ([0, 255] : List Int) t5 _ (hM.rd 0 rfl) ht5) ?_
  rintro _ W4 ⟨A6, n7, c8, rfl, hM_⟩
  obtain rfl : t5.length = n7 := by have h_ := (hM_.rd 0 rfl).1; simpa [nums_length, bools_length, strs_length] using h_
  replace hM := hM.call hM_
  clear hM_ ht5
  refine RunF.go 4 [1] (k' := (pin Go.Proofs.Try.f14 [1, 1, 0] 0)) (L' := [(1, .slice A6 t5.length c8)]) (w' := W4) (by kernel_rfl) ?_
  refine RunF.new 5 1 4 (nums .u8 [1, 2, 3, 4]) (d := some 7) (k2 := (pin Go.Proofs.Try.f14 [1, 1, 0] 1)) hM (by simp [nums, bools, strs]) (by kernel_rfl) (by kernel_rfl) ?_
  replace hM := hM
  intro g10 W11 hM
  obtain ⟨t14, ht14, h⟩ := Option.bind_eq_some_iff.mp h
  refine RunF.call (d := some 8) (g := 18) (args := #[.slice (some ⟨g10, 0, none⟩) 4 4]) (k2 := (pin Go.Proofs.Try.f14 [1, 1, 0] 2)) (by kernel_rfl) (words_Be32.calls k (some ⟨g10, 0, none⟩) 4 4 ([1, 2, 3, 4] : List Int) t14 _ (hM.rd 0 rfl) ht14) ?_
  rintro _ W13 ⟨rfl, hM_⟩
  replace hM := hM.call hM_
  clear hM_ ht14
  refine RunF.go 9 [2, 3, 11] (k' := (pin Go.Proofs.Try.f14 [1, 1, 1, 0] 1)) (L' := [(2, .int .u32 t14.1), (3, .bool t14.2), (11, .slice A6 t5.length c8)]) (w' := W13) (by kernel_rfl) ?_
  refine RunF.y (str_y (d := some 12) (A := A6) (m := t5.length) (c := c8) (k2 := (pin Go.Proofs.Try.f14 [1, 1, 1, 0] 2)) t5 (by kernel_rfl)) (hM.rd 1 rfl) ?_
  refine RunF.go 2 [2, 3, 14] (k' := (pin Go.Proofs.Try.f14 [1, 1, 1, 0] 4)) (L' := [(2, .int .u32 t14.1), (3, .bool t14.2), (14, .bool ((strOf t5).toList == (⟨#[1, 0]⟩ : ByteArray).toList))]) (w' := W13) (by kernel_rfl) ?_
  obtain ⟨y15, hy, h⟩ := Option.bind_eq_some_iff.mp h
  rw [show (((strOf t5).toList == (⟨#[1, 0]⟩ : ByteArray).toList)) = y15 from Option.some.inj hy]
  clear hy
  rcases two (y15) with c16 | c16
  · replace h := of_true h c16
    refine RunF.know 14 (b := true) (by kernel_rfl) c16 ?_
    refine RunF.go 3 [2, 17] (k' := (pin Go.Proofs.Try.f14 [1, 1, 1, 0] 7)) (L' := [(2, .int .u32 t14.1), (17, .bool t14.2)]) (w' := W13) (by kernel_rfl) ?_
    rcases two (t14.2) with c17 | c17
    · replace h := of_true h c17
      refine RunF.know 17 (b := true) (by kernel_rfl) c17 ?_
      refine RunF.go 4 [21] (k' := (pin Go.Proofs.Try.f14 [1, 1, 1, 0] 11)) (L' := [(21, .bool (t14.1 == 16909060))]) (w' := W13) (by kernel_rfl) ?_
      rcases two ((t14.1 == 16909060)) with c18 | c18
      · replace h := of_true h c18
        refine RunF.know 21 (b := true) (by kernel_rfl) c18 ?_
        obtain ⟨t20, ht20, h⟩ := Option.bind_eq_some_iff.mp h
        refine RunF.call (d := some 22) (g := 28) (args := #[.int .u8 129, .int .i64 1]) (k2 := (pin Go.Proofs.Try.f14 [1, 1, 1, 0] 12)) (by kernel_rfl) (words_Rol8.calls k 129 1 t20 _ ht20) ?_
        rintro _ W19 ⟨rfl, hM_⟩
        replace hM := hM.call hM_
        clear hM_ ht20
        refine RunF.go 4 [0] (k' := (pl Go.Proofs.Try.f14 [1, 1, 1, 1])) (L' := [(0, .bool (t20 == 3))]) (w' := W19) (by kernel_rfl) ?_
        obtain rfl := Option.some.inj h
        exact RunF.ret1 0 (.bool (t20 == 3)) (fn := Go.Proofs.Try.f14) Go.Proofs.Try.func14 (by kernel_rfl) (by kernel_rfl) (by kernel_rfl) ⟨_, rfl, rfl, (hM.pick [] rfl rfl)⟩
      · replace h := of_false h c18
        refine RunF.know 21 (b := false) (by kernel_rfl) c18 ?_
        refine RunF.go 5 [0] (k' := (pl Go.Proofs.Try.f14 [1, 1, 1, 1])) (L' := [(0, .bool false)]) (w' := W13) (by kernel_rfl) ?_
        obtain rfl := Option.some.inj h
        exact RunF.ret1 0 (.bool false) (fn := Go.Proofs.Try.f14) Go.Proofs.Try.func14 (by kernel_rfl) (by kernel_rfl) (by kernel_rfl) ⟨_, rfl, rfl, (hM.pick [] rfl rfl)⟩
    · replace h := of_false h c17
      refine RunF.know 17 (b := false) (by kernel_rfl) c17 ?_
      refine RunF.go 9 [0] (k' := (pl Go.Proofs.Try.f14 [1, 1, 1, 1])) (L' := [(0, .bool false)]) (w' := W13) (by kernel_rfl) ?_
      obtain rfl := Option.some.inj h
      exact RunF.ret1 0 (.bool false) (fn := Go.Proofs.Try.f14) Go.Proofs.Try.func14 (by kernel_rfl) (by kernel_rfl) (by kernel_rfl) ⟨_, rfl, rfl, (hM.pick [] rfl rfl)⟩
  · replace h := of_false h c16
    refine RunF.know 14 (b := false) (by kernel_rfl) c16 ?_
    refine RunF.go 12 [0] (k' := (pl Go.Proofs.Try.f14 [1, 1, 1, 1])) (L' := [(0, .bool false)]) (w' := W13) (by kernel_rfl) ?_
    obtain rfl := Option.some.inj h
    exact RunF.ret1 0 (.bool false) (fn := Go.Proofs.Try.f14) Go.Proofs.Try.func14 (by kernel_rfl) (by kernel_rfl) (by kernel_rfl) ⟨_, rfl, rfl, (hM.pick [] rfl rfl)⟩

/-! ### scrim/scrimref1.Big: function 40 -/
def scrimref1_Big.l0 : Nat → (List Int) → Int → Int → Option (Int)
  | 0, _, _, _ => none
  | k + 1, a0, x3_0, x4_0 => if (decide (x4_0 < (a0.length : Int))) = true then (if (decide (0 ≤ x4_0)) = true then (if (decide (x4_0 < (a0.length : Int))) = true then ((some (bor .u64 (shl .u64 x3_0 8) (U64 (rd a0 x4_0)) : Int)).bind fun y5 => (scrimref1_Big.l0 k a0 y5 (I64 (x4_0 + 1)))) else (none)) else (none)) else (some x3_0)
def scrimref1_Big.f (k : Nat) (a0 : List Int) : Option (Int) := scrimref1_Big.l0 k a0 0 0
set_option maxRecDepth 100000 in
theorem scrimref1_Big.calls (k : Nat) (Ap0 : Option Addr) (np0 cp0 : Nat) (a0 : List Int) (r : Int) (w : World) (hr0 : Rd w (.slice Ap0 np0 cp0) (nums .u8 a0)) (h : scrimref1_Big.f k a0 = some r) :
    Calls Go.Proofs.Try.prog 40 #[(.slice Ap0 np0 cp0)] w (Ret fun v w' => v = .int .u64 r ∧ Mem w w' []) := by
  obtain rfl : a0.length = np0 := by have h_ := hr0.1; simpa [nums_length, bools_length, strs_length] using h_
  unfold scrimref1_Big.f at h
  refine calls_of [.slice Ap0 a0.length cp0] (fn := Go.Proofs.Try.f40) Go.Proofs.Try.func40 (by kernel_rfl) (by kernel_rfl) ?_
  have hM := Mem.refl w
  refine RunF.go 15 [0, 3, 4] (k' := (pl Go.Proofs.Try.f40 [1, 1, 0, 1, 0, 0])) (L' := [(0, .slice Ap0 a0.length cp0), (3, .int .u64 0), (4, .int .i64 0)]) (w' := w) (by kernel_rfl) ?_
  have l0 : ∀ (k_ : Nat), k_ ≤ k → ∀ (x3_0 : Int) (x4_0 : Int) (W : World) (hM : Mem w W []) (h : scrimref1_Big.l0 k_ a0 x3_0 x4_0 = some r), RunF Go.Proofs.Try.prog (Ret fun v w' => v = .int .u64 r ∧ Mem w w' []) 40 (pl Go.Proofs.Try.f40 [1, 1, 0, 1, 0, 0]) 20 [(0, .slice Ap0 a0.length cp0), (3, .int .u64 x3_0), (4, .int .i64 x4_0)] W := by
    intro k_
    induction k_ using Nat.strongRecOn with
    | _ k_ ih0 =>
      intro hk x3_0 x4_0 W hM h
      cases k_ with
      | zero => exact absurd h (by simp [scrimref1_Big.l0])
      | succ k =>
        simp only [scrimref1_Big.l0] at h
        replace ih0 : ∀ m, m ≤ k → _ := fun m hm => ih0 m (by omega) (by omega)
        refine RunF.go 8 [0, 3, 4, 8] (k' := (pl Go.Proofs.Try.f40 [1, 1, 0, 1, 0, 0, 0, 1])) (L' := [(0, .slice Ap0 a0.length cp0), (3, .int .u64 x3_0), (4, .int .i64 x4_0), (8, .bool (decide (x4_0 < (a0.length : Int))))]) (w' := W) (by kernel_rfl) ?_
        rcases two (decide (x4_0 < (a0.length : Int))) with c1 | c1
        · replace h := of_true h c1
          refine RunF.know 8 (b := true) (by kernel_rfl) c1 ?_
          refine RunF.go 9 [0, 4, 12, 13, 14] (k' := (pin Go.Proofs.Try.f40 [1, 1, 0, 1, 0, 0, 1, 0, 0] 4)) (L' := [(0, .slice Ap0 a0.length cp0), (4, .int .i64 x4_0), (12, .int .u64 (shl .u64 x3_0 8)), (13, .slice Ap0 a0.length cp0), (14, .int .i64 x4_0)]) (w' := W) (by kernel_rfl) ?_
          rcases two (decide (0 ≤ x4_0)) with c3 | c3
          · replace h := of_true h c3
            rcases two (decide (x4_0 < (a0.length : Int))) with c4 | c4
            · replace h := of_true h c4
              obtain ⟨q2, hAq2, hcq2⟩ := Rd.num (hr0.mono hM.below) (i := x4_0) (of_decide_eq_true c3) (by have h_ := of_decide_eq_true c4; omega)
              refine RunF.y (idx_y (d := some 15) (A := Ap0) (m := a0.length) (i := x4_0) (k2 := (pin Go.Proofs.Try.f40 [1, 1, 0, 1, 0, 0, 1, 0, 0] 5)) (by kernel_rfl) (of_decide_eq_true c3) (by have h_ := of_decide_eq_true c4; omega) hAq2) trivial ?_
              refine RunF.y (ld_y (d := some 16) (p := (q2.add (x4_0 : Int).toNat)) (k2 := (pin Go.Proofs.Try.f40 [1, 1, 0, 1, 0, 0, 1, 0, 0] 6)) (.int .u8 (rd a0 x4_0)) (by kernel_rfl)) hcq2 ?_
              refine RunF.go 11 [0, 3, 4] (k' := (pl Go.Proofs.Try.f40 [1, 1, 0, 1, 0, 0])) (L' := [(0, .slice Ap0 a0.length cp0), (3, .int .u64 (bor .u64 (shl .u64 x3_0 8) (U64 (rd a0 x4_0)))), (4, .int .i64 (I64 (x4_0 + 1)))]) (w' := W) (by kernel_rfl) ?_
              obtain ⟨y5, hy, h⟩ := Option.bind_eq_some_iff.mp h
              rw [show (bor .u64 (shl .u64 x3_0 8) (U64 (rd a0 x4_0))) = y5 from Option.some.inj hy]
              clear hy
              exact ih0 k (by omega) y5 (I64 (x4_0 + 1)) _ (hM.pick [] rfl rfl) h
            · replace h := of_false h c4
              cases h
          · replace h := of_false h c3
            cases h
        · replace h := of_false h c1
          refine RunF.know 8 (b := false) (by kernel_rfl) c1 ?_
          refine RunF.go 7 [2] (k' := (pl Go.Proofs.Try.f40 [1, 1, 1, 1])) (L' := [(2, .int .u64 x3_0)]) (w' := W) (by kernel_rfl) ?_
          obtain rfl := Option.some.inj h
          exact RunF.ret1 2 (.int .u64 x3_0) (fn := Go.Proofs.Try.f40) Go.Proofs.Try.func40 (by kernel_rfl) (by kernel_rfl) (by kernel_rfl) ⟨_, rfl, rfl, (hM.pick [] rfl rfl)⟩
  exact l0 k (Nat.le_refl _) 0 0 _ (hM.pick [] rfl rfl) h

/-! ### scrim/scrimref1.Be32: function 21 -/
def scrimref1_Be32.f (k : Nat) (a0 : List Int) : Option (Int × Bool) := if ((a0.length : Int) != 4) = true then (some (0, false)) else ((scrimref1_Big.f k a0).bind fun t3 => (some (U32 (t3), true)))
set_option maxRecDepth 100000 in
theorem scrimref1_Be32.calls (k : Nat) (Ap0 : Option Addr) (np0 cp0 : Nat) (a0 : List Int) (r : Int × Bool) (w : World) (hr0 : Rd w (.slice Ap0 np0 cp0) (nums .u8 a0)) (h : scrimref1_Be32.f k a0 = some r) :
    Calls Go.Proofs.Try.prog 21 #[(.slice Ap0 np0 cp0)] w (Ret fun v w' => v = .tuple #[.int .u32 r.1, .bool r.2] ∧ Mem w w' []) := by
  obtain rfl : a0.length = np0 := by have h_ := hr0.1; simpa [nums_length, bools_length, strs_length] using h_
  unfold scrimref1_Be32.f at h
  refine calls_of [.slice Ap0 a0.length cp0] (fn := Go.Proofs.Try.f21) Go.Proofs.Try.func21 (by kernel_rfl) (by kernel_rfl) ?_
  have hM := Mem.refl w
  refine RunF.go 12 [0, 6] (k' := (pl Go.Proofs.Try.f21 [1, 0, 1])) (L' := [(0, .slice Ap0 a0.length cp0), (6, .bool ((a0.length : Int) != 4))]) (w' := w) (by kernel_rfl) ?_
  rcases two (((a0.length : Int) != 4)) with c1 | c1
  · replace h := of_true h c1
    refine RunF.know 6 (b := true) (by kernel_rfl) c1 ?_
    refine RunF.go 6 [2, 3] (k' := (pl Go.Proofs.Try.f21 [1, 0, 1, 0, 1])) (L' := [(2, .int .u32 0), (3, .bool false)]) (w' := w) (by kernel_rfl) ?_
    obtain rfl := Option.some.inj h
    exact RunF.ret2 2 3 (.int .u32 0) (.bool false) (fn := Go.Proofs.Try.f21) Go.Proofs.Try.func21 (by kernel_rfl) (by kernel_rfl) (by kernel_rfl) (by kernel_rfl) ⟨_, rfl, rfl, (hM.pick [] rfl rfl)⟩
  · replace h := of_false h c1
    refine RunF.know 6 (b := false) (by kernel_rfl) c1 ?_
    refine RunF.go 5 [7] (k' := (pin Go.Proofs.Try.f21 [1, 1, 0] 1)) (L' := [(7, .slice Ap0 a0.length cp0)]) (w' := w) (by kernel_rfl) ?_
    obtain ⟨t3, ht3, h⟩ := Option.bind_eq_some_iff.mp h
    refine RunF.call (d := some 8) (g := 40) (args := #[.slice Ap0 a0.length cp0]) (k2 := (pin Go.Proofs.Try.f21 [1, 1, 0] 2)) (by kernel_rfl) (scrimref1_Big.calls k Ap0 a0.length cp0 a0 t3 _ (hr0.mono hM.below) ht3) ?_
    rintro _ W2 ⟨rfl, hM_⟩
    replace hM := hM.call hM_
    clear hM_ ht3
    refine RunF.go 4 [2, 3] (k' := (pl Go.Proofs.Try.f21 [1, 1, 1])) (L' := [(2, .int .u32 (U32 (t3))), (3, .bool true)]) (w' := W2) (by kernel_rfl) ?_
    obtain rfl := Option.some.inj h
    exact RunF.ret2 2 3 (.int .u32 (U32 (t3))) (.bool true) (fn := Go.Proofs.Try.f21) Go.Proofs.Try.func21 (by kernel_rfl) (by kernel_rfl) (by kernel_rfl) (by kernel_rfl) ⟨_, rfl, rfl, (hM.pick [] rfl rfl)⟩

/-! ### scrim/words.turned: function 41 -/
def words_turned.l0 : Nat → (List Int) → (List Int) → Int → Option (List Int)
  | 0, _, _, _ => none
  | k + 1, a0, x3_0, x4_0 => if (decide (x4_0 ≥ 0)) = true then (if (decide (0 ≤ x4_0)) = true then (if (decide (x4_0 < (a0.length : Int))) = true then (if (decide (x3_0.length + ([rd a0 x4_0] : List Int).length ≤ 1000000000)) = true then (words_turned.l0 k a0 (x3_0 ++ ([rd a0 x4_0] : List Int)) (I64 (x4_0 - 1))) else (none)) else (none)) else (none)) else (some x3_0)
def words_turned.f (k : Nat) (a0 : List Int) : Option (List Int) := if (decide (0 ≤ (a0.length : Int))) = true then (if (decide ((a0.length : Int) ≤ 1000000000)) = true then (words_turned.l0 k a0 (List.replicate 0 (0 : Int)) (I64 ((a0.length : Int) - 1))) else (none)) else (none)
set_option maxRecDepth 100000 in
theorem words_turned.calls (k : Nat) (Ap0 : Option Addr) (np0 cp0 : Nat) (a0 : List Int) (r : List Int) (w : World) (hr0 : Rd w (.slice Ap0 np0 cp0) (nums .u8 a0)) (h : words_turned.f k a0 = some r) :
    Calls Go.Proofs.Try.prog 41 #[(.slice Ap0 np0 cp0)] w (Ret fun v w' => ∃ A0' n0' c0', v = .slice A0' n0' c0' ∧ Mem w w' [⟨.slice A0' n0' c0', 5, 1, nums .u8 r⟩]) := by
  obtain rfl : a0.length = np0 := by have h_ := hr0.1; simpa [nums_length, bools_length, strs_length] using h_
  unfold words_turned.f at h
  refine calls_of [.slice Ap0 a0.length cp0] (fn := Go.Proofs.Try.f41) Go.Proofs.Try.func41 (by kernel_rfl) (by kernel_rfl) ?_
  have hM := Mem.refl w
  refine RunF.go 8 [0, 6] (k' := (pin Go.Proofs.Try.f41 [1, 0] 2)) (L' := [(0, .slice Ap0 a0.length cp0), (6, .int .i64 (a0.length : Int))]) (w' := w) (by kernel_rfl) ?_
  rcases two (decide (0 ≤ (a0.length : Int))) with c3 | c3
  · replace h := of_true h c3
    rcases two (decide ((a0.length : Int) ≤ 1000000000)) with c4 | c4
    · replace h := of_true h c4
      have := of_decide_eq_true c3
      have := of_decide_eq_true c4
      obtain ⟨W1, hD, hM', hB_⟩ := mk_does (P := Go.Proofs.Try.prog) (n := 23) (k := (pin Go.Proofs.Try.f41 [1, 0] 2)) (L := [(0, .slice Ap0 a0.length cp0), (6, .int .i64 (a0.length : Int))]) (d := some 7) (e := 5) (z := .int .u8 0) (l := 0) (c := (a0.length : Int)) (k2 := (pin Go.Proofs.Try.f41 [1, 0] 3)) (by kernel_rfl) (by omega) (by omega) (by omega) hM
      rw [rep_nums] at hM'
      refine RunF.does hD ?_
      replace hM := hM'; clear hD hM'
      generalize w.heap.size = g2 at hM ⊢
      refine RunF.go 12 [0, 3, 4] (k' := (pl Go.Proofs.Try.f41 [1, 1, 0, 1, 0, 0])) (L' := [(0, .slice Ap0 a0.length cp0), (3, .slice (some ⟨g2, 0, none⟩) 0 (((a0.length : Int) : Int).toNat)), (4, .int .i64 (I64 ((a0.length : Int) - 1)))]) (w' := W1) (by kernel_rfl) ?_
      have l0 : ∀ (k_ : Nat), k_ ≤ k → ∀ (A3_0 : Option Addr) (c3_0 : Nat) (x3_0 : List Int) (x4_0 : Int) (W : World) (hM : Mem w W [⟨.slice A3_0 x3_0.length c3_0, 5, 1, nums .u8 x3_0⟩]) (h : words_turned.l0 k_ a0 x3_0 x4_0 = some r), RunF Go.Proofs.Try.prog (Ret fun v w' => ∃ A0' n0' c0', v = .slice A0' n0' c0' ∧ Mem w w' [⟨.slice A0' n0' c0', 5, 1, nums .u8 r⟩]) 41 (pl Go.Proofs.Try.f41 [1, 1, 0, 1, 0, 0]) 23 [(0, .slice Ap0 a0.length cp0), (3, .slice A3_0 x3_0.length c3_0), (4, .int .i64 x4_0)] W := by
        intro k_
        induction k_ using Nat.strongRecOn with
        | _ k_ ih0 =>
          intro hk A3_0 c3_0 x3_0 x4_0 W hM h
          cases k_ with
          | zero => exact absurd h (by simp [words_turned.l0])
          | succ k =>
            simp only [words_turned.l0] at h
            replace ih0 : ∀ m, m ≤ k → _ := fun m hm => ih0 m (by omega) (by omega)
            refine RunF.go 6 [0, 3, 4, 12] (k' := (pl Go.Proofs.Try.f41 [1, 1, 0, 1, 0, 0, 0, 1])) (L' := [(0, .slice Ap0 a0.length cp0), (3, .slice A3_0 x3_0.length c3_0), (4, .int .i64 x4_0), (12, .bool (decide (x4_0 ≥ 0)))]) (w' := W) (by kernel_rfl) ?_
            rcases two (decide (x4_0 ≥ 0)) with c7 | c7
            · replace h := of_true h c7
              refine RunF.know 12 (b := true) (by kernel_rfl) c7 ?_
              refine RunF.go 8 [0, 4, 15, 16, 17] (k' := (pin Go.Proofs.Try.f41 [1, 1, 0, 1, 0, 0, 1, 0, 0] 3)) (L' := [(0, .slice Ap0 a0.length cp0), (4, .int .i64 x4_0), (15, .slice A3_0 x3_0.length c3_0), (16, .slice Ap0 a0.length cp0), (17, .int .i64 x4_0)]) (w' := W) (by kernel_rfl) ?_
              rcases two (decide (0 ≤ x4_0)) with c9 | c9
              · replace h := of_true h c9
                rcases two (decide (x4_0 < (a0.length : Int))) with c10 | c10
                · replace h := of_true h c10
                  obtain ⟨q8, hAq8, hcq8⟩ := Rd.num (hr0.mono hM.below) (i := x4_0) (of_decide_eq_true c9) (by have h_ := of_decide_eq_true c10; omega)
                  refine RunF.y (idx_y (d := some 18) (A := Ap0) (m := a0.length) (i := x4_0) (k2 := (pin Go.Proofs.Try.f41 [1, 1, 0, 1, 0, 0, 1, 0, 0] 4)) (by kernel_rfl) (of_decide_eq_true c9) (by have h_ := of_decide_eq_true c10; omega) hAq8) trivial ?_
                  refine RunF.y (ld_y (d := some 19) (p := (q8.add (x4_0 : Int).toNat)) (k2 := (pin Go.Proofs.Try.f41 [1, 1, 0, 1, 0, 0, 1, 0, 0] 5)) (.int .u8 (rd a0 x4_0)) (by kernel_rfl)) hcq8 ?_
                  refine RunF.new 5 1 1 (nums .u8 [rd a0 x4_0]) (d := some 20) (k2 := (pin Go.Proofs.Try.f41 [1, 1, 0, 1, 0, 0, 1, 0, 0] 6)) hM (by simp [nums, bools, strs]) (by kernel_rfl) (by kernel_rfl) ?_
                  replace hM := hM
                  intro g11 W12 hM
                  rcases two (decide (x3_0.length + ([rd a0 x4_0] : List Int).length ≤ 1000000000)) with c18 | c18
                  · replace h := of_true h c18
                    have h_ := of_decide_eq_true c18
                    obtain ⟨A14, n15, c16, W17, hD, hM', hS_⟩ := app_does (P := Go.Proofs.Try.prog) (n := 23) (k := (pin Go.Proofs.Try.f41 [1, 1, 0, 1, 0, 0, 1, 0, 0] 6)) (L := (upd (upd (upd [(0, .slice Ap0 a0.length cp0), (4, .int .i64 x4_0), (15, .slice A3_0 x3_0.length c3_0), (16, .slice Ap0 a0.length cp0), (17, .int .i64 x4_0)] (some 18) (.pointer (some (q8.add (x4_0 : Int).toNat)))) (some 19) (.int .u8 (rd a0 x4_0))) (some 20) (.slice (some ⟨g11, 0, none⟩) 1 1))) (d := some 21) (e := 5) (A := A3_0) (m := x3_0.length) (c := c3_0) (A2 := (some ⟨g11, 0, none⟩)) (m2 := 1) (c2 := 1) (cs := nums .u8 x3_0) (ys := nums .u8 ([rd a0 x4_0] : List Int)) (k2 := (pin Go.Proofs.Try.f41 [1, 1, 0, 1, 0, 0, 1, 0, 0] 7)) [⟨.slice (some ⟨g11, 0, none⟩) 1 1, 5, 1, nums .u8 [rd a0 x4_0]⟩] [] (by kernel_rfl) (hM.pick [0, 1] rfl rfl) (hM.rd 0 rfl) (one_nums _ _) (by omega)
                    rw [nums_append] at hM'
                    replace hM := hM'; clear h_ hM'
                    obtain rfl : (x3_0 ++ ([rd a0 x4_0] : List Int)).length = n15 := by have h_ := (hM.rd 1 rfl).1; simpa only [nums_length, bools_length, strs_length] using h_
                    refine RunF.does hD ?_
                    clear hD hS_
                    refine RunF.go 9 [0, 3, 4] (k' := (pl Go.Proofs.Try.f41 [1, 1, 0, 1, 0, 0])) (L' := [(0, .slice Ap0 a0.length cp0), (3, .slice A14 ((x3_0 ++ ([rd a0 x4_0] : List Int)).length) c16), (4, .int .i64 (I64 (x4_0 - 1)))]) (w' := W17) (by kernel_rfl) ?_
                    exact ih0 k (by omega) A14 c16 (x3_0 ++ ([rd a0 x4_0] : List Int)) (I64 (x4_0 - 1)) _ (hM.pick [1] rfl rfl) h
                  · replace h := of_false h c18
                    cases h
                · replace h := of_false h c10
                  cases h
              · replace h := of_false h c9
                cases h
            · replace h := of_false h c7
              refine RunF.know 12 (b := false) (by kernel_rfl) c7 ?_
              refine RunF.go 7 [2] (k' := (pl Go.Proofs.Try.f41 [1, 1, 1, 1])) (L' := [(2, .slice A3_0 x3_0.length c3_0)]) (w' := W) (by kernel_rfl) ?_
              obtain rfl := Option.some.inj h
              exact RunF.ret1 2 (.slice A3_0 x3_0.length c3_0) (fn := Go.Proofs.Try.f41) Go.Proofs.Try.func41 (by kernel_rfl) (by kernel_rfl) (by kernel_rfl) ⟨_, rfl, A3_0, x3_0.length, c3_0, rfl, (hM.pick [0] rfl rfl)⟩
      exact l0 k (Nat.le_refl _) (some ⟨g2, 0, none⟩) (((a0.length : Int) : Int).toNat) (List.replicate 0 (0 : Int)) (I64 ((a0.length : Int) - 1)) _ (hM.pick [0] rfl rfl) h
    · replace h := of_false h c4
      cases h
  · replace h := of_false h c3
    cases h

/-! ### scrim/words.Le32: function 22 -/
def words_Le32.f (k : Nat) (a0 : List Int) : Option (Int × Bool) := (words_turned.f k a0).bind fun t2 => ((words_Be32.f k t2).bind fun t8 => (some (t8.1, t8.2)))
set_option maxRecDepth 100000 in
theorem words_Le32.calls (k : Nat) (Ap0 : Option Addr) (np0 cp0 : Nat) (a0 : List Int) (r : Int × Bool) (w : World) (hr0 : Rd w (.slice Ap0 np0 cp0) (nums .u8 a0)) (h : words_Le32.f k a0 = some r) :
    Calls Go.Proofs.Try.prog 22 #[(.slice Ap0 np0 cp0)] w (Ret fun v w' => v = .tuple #[.int .u32 r.1, .bool r.2] ∧ Mem w w' []) := by
  obtain rfl : a0.length = np0 := by have h_ := hr0.1; simpa [nums_length, bools_length, strs_length] using h_
  unfold words_Le32.f at h
  refine calls_of [.slice Ap0 a0.length cp0] (fn := Go.Proofs.Try.f22) Go.Proofs.Try.func22 (by kernel_rfl) (by kernel_rfl) ?_
  have hM := Mem.refl w
  refine RunF.go 8 [4] (k' := (pin Go.Proofs.Try.f22 [1, 0] 1)) (L' := [(4, .slice Ap0 a0.length cp0)]) (w' := w) (by kernel_rfl) ?_
  obtain ⟨t2, ht2, h⟩ := Option.bind_eq_some_iff.mp h
  refine RunF.call (d := some 5) (g := 41) (args := #[.slice Ap0 a0.length cp0]) (k2 := (pin Go.Proofs.Try.f22 [1, 0] 2)) (by kernel_rfl) (words_turned.calls k Ap0 a0.length cp0 a0 t2 _ (hr0.mono hM.below) ht2) ?_
  rintro _ W1 ⟨A3, n4, c5, rfl, hM_⟩
  obtain rfl : t2.length = n4 := by have h_ := (hM_.rd 0 rfl).1; simpa [nums_length, bools_length, strs_length] using h_
  replace hM := hM.call hM_
  clear hM_ ht2
  obtain ⟨t8, ht8, h⟩ := Option.bind_eq_some_iff.mp h
  refine RunF.call (d := some 6) (g := 18) (args := #[.slice A3 t2.length c5]) (k2 := (pin Go.Proofs.Try.f22 [1, 0] 3)) (by kernel_rfl) (words_Be32.calls k A3 t2.length c5 t2 t8 _ (hM.rd 0 rfl) ht8) ?_
  rintro _ W7 ⟨rfl, hM_⟩
  replace hM := hM.call hM_
  clear hM_ ht8
  refine RunF.go 5 [2, 3] (k' := (pl Go.Proofs.Try.f22 [1, 1])) (L' := [(2, .int .u32 t8.1), (3, .bool t8.2)]) (w' := W7) (by kernel_rfl) ?_
  obtain rfl := Option.some.inj h
  exact RunF.ret2 2 3 (.int .u32 t8.1) (.bool t8.2) (fn := Go.Proofs.Try.f22) Go.Proofs.Try.func22 (by kernel_rfl) (by kernel_rfl) (by kernel_rfl) (by kernel_rfl) ⟨_, rfl, rfl, (hM.pick [] rfl rfl)⟩

/-! ### scrim/scrimref1.Little: function 42 -/
def scrimref1_Little.l0 : Nat → (List Int) → Int → Int → Option (Int)
  | 0, _, _, _ => none
  | k + 1, a0, x3_0, x4_0 => if (decide (x4_0 > 0)) = true then (if (decide (0 ≤ (I64 (x4_0 - 1)))) = true then (if (decide ((I64 (x4_0 - 1)) < (a0.length : Int))) = true then ((some (bor .u64 (shl .u64 x3_0 8) (U64 (rd a0 (I64 (x4_0 - 1)))) : Int)).bind fun y5 => (scrimref1_Little.l0 k a0 y5 (I64 (x4_0 - 1)))) else (none)) else (none)) else (some x3_0)
def scrimref1_Little.f (k : Nat) (a0 : List Int) : Option (Int) := scrimref1_Little.l0 k a0 0 (a0.length : Int)
set_option maxRecDepth 100000 in
theorem scrimref1_Little.calls (k : Nat) (Ap0 : Option Addr) (np0 cp0 : Nat) (a0 : List Int) (r : Int) (w : World) (hr0 : Rd w (.slice Ap0 np0 cp0) (nums .u8 a0)) (h : scrimref1_Little.f k a0 = some r) :
    Calls Go.Proofs.Try.prog 42 #[(.slice Ap0 np0 cp0)] w (Ret fun v w' => v = .int .u64 r ∧ Mem w w' []) := by
  obtain rfl : a0.length = np0 := by have h_ := hr0.1; simpa [nums_length, bools_length, strs_length] using h_
  unfold scrimref1_Little.f at h
  refine calls_of [.slice Ap0 a0.length cp0] (fn := Go.Proofs.Try.f42) Go.Proofs.Try.func42 (by kernel_rfl) (by kernel_rfl) ?_
  have hM := Mem.refl w
  refine RunF.go 17 [0, 3, 4] (k' := (pl Go.Proofs.Try.f42 [1, 1, 0, 1, 0, 0])) (L' := [(0, .slice Ap0 a0.length cp0), (3, .int .u64 0), (4, .int .i64 (a0.length : Int))]) (w' := w) (by kernel_rfl) ?_
  have l0 : ∀ (k_ : Nat), k_ ≤ k → ∀ (x3_0 : Int) (x4_0 : Int) (W : World) (hM : Mem w W []) (h : scrimref1_Little.l0 k_ a0 x3_0 x4_0 = some r), RunF Go.Proofs.Try.prog (Ret fun v w' => v = .int .u64 r ∧ Mem w w' []) 42 (pl Go.Proofs.Try.f42 [1, 1, 0, 1, 0, 0]) 21 [(0, .slice Ap0 a0.length cp0), (3, .int .u64 x3_0), (4, .int .i64 x4_0)] W := by
    intro k_
    induction k_ using Nat.strongRecOn with
    | _ k_ ih0 =>
      intro hk x3_0 x4_0 W hM h
      cases k_ with
      | zero => exact absurd h (by simp [scrimref1_Little.l0])
      | succ k =>
        simp only [scrimref1_Little.l0] at h
        replace ih0 : ∀ m, m ≤ k → _ := fun m hm => ih0 m (by omega) (by omega)
        refine RunF.go 6 [0, 3, 4, 8] (k' := (pl Go.Proofs.Try.f42 [1, 1, 0, 1, 0, 0, 0, 1])) (L' := [(0, .slice Ap0 a0.length cp0), (3, .int .u64 x3_0), (4, .int .i64 x4_0), (8, .bool (decide (x4_0 > 0)))]) (w' := W) (by kernel_rfl) ?_
        rcases two (decide (x4_0 > 0)) with c1 | c1
        · replace h := of_true h c1
          refine RunF.know 8 (b := true) (by kernel_rfl) c1 ?_
          refine RunF.go 10 [0, 4, 12, 13, 15] (k' := (pin Go.Proofs.Try.f42 [1, 1, 0, 1, 0, 0, 1, 0, 0] 5)) (L' := [(0, .slice Ap0 a0.length cp0), (4, .int .i64 x4_0), (12, .int .u64 (shl .u64 x3_0 8)), (13, .slice Ap0 a0.length cp0), (15, .int .i64 (I64 (x4_0 - 1)))]) (w' := W) (by kernel_rfl) ?_
          rcases two (decide (0 ≤ (I64 (x4_0 - 1)))) with c3 | c3
          · replace h := of_true h c3
            rcases two (decide ((I64 (x4_0 - 1)) < (a0.length : Int))) with c4 | c4
            · replace h := of_true h c4
              obtain ⟨q2, hAq2, hcq2⟩ := Rd.num (hr0.mono hM.below) (i := I64 (x4_0 - 1)) (of_decide_eq_true c3) (by have h_ := of_decide_eq_true c4; omega)
              refine RunF.y (idx_y (d := some 16) (A := Ap0) (m := a0.length) (i := I64 (x4_0 - 1)) (k2 := (pin Go.Proofs.Try.f42 [1, 1, 0, 1, 0, 0, 1, 0, 0] 6)) (by kernel_rfl) (of_decide_eq_true c3) (by have h_ := of_decide_eq_true c4; omega) hAq2) trivial ?_
              refine RunF.y (ld_y (d := some 17) (p := (q2.add (I64 (x4_0 - 1) : Int).toNat)) (k2 := (pin Go.Proofs.Try.f42 [1, 1, 0, 1, 0, 0, 1, 0, 0] 7)) (.int .u8 (rd a0 (I64 (x4_0 - 1)))) (by kernel_rfl)) hcq2 ?_
              refine RunF.go 11 [0, 3, 4] (k' := (pl Go.Proofs.Try.f42 [1, 1, 0, 1, 0, 0])) (L' := [(0, .slice Ap0 a0.length cp0), (3, .int .u64 (bor .u64 (shl .u64 x3_0 8) (U64 (rd a0 (I64 (x4_0 - 1)))))), (4, .int .i64 (I64 (x4_0 - 1)))]) (w' := W) (by kernel_rfl) ?_
              obtain ⟨y5, hy, h⟩ := Option.bind_eq_some_iff.mp h
              rw [show (bor .u64 (shl .u64 x3_0 8) (U64 (rd a0 (I64 (x4_0 - 1))))) = y5 from Option.some.inj hy]
              clear hy
              exact ih0 k (by omega) y5 (I64 (x4_0 - 1)) _ (hM.pick [] rfl rfl) h
            · replace h := of_false h c4
              cases h
          · replace h := of_false h c3
            cases h
        · replace h := of_false h c1
          refine RunF.know 8 (b := false) (by kernel_rfl) c1 ?_
          refine RunF.go 7 [2] (k' := (pl Go.Proofs.Try.f42 [1, 1, 1, 1])) (L' := [(2, .int .u64 x3_0)]) (w' := W) (by kernel_rfl) ?_
          obtain rfl := Option.some.inj h
          exact RunF.ret1 2 (.int .u64 x3_0) (fn := Go.Proofs.Try.f42) Go.Proofs.Try.func42 (by kernel_rfl) (by kernel_rfl) (by kernel_rfl) ⟨_, rfl, rfl, (hM.pick [] rfl rfl)⟩
  exact l0 k (Nat.le_refl _) 0 (a0.length : Int) _ (hM.pick [] rfl rfl) h

/-! ### scrim/scrimref1.Le32: function 23 -/
def scrimref1_Le32.f (k : Nat) (a0 : List Int) : Option (Int × Bool) := if ((a0.length : Int) != 4) = true then (some (0, false)) else ((scrimref1_Little.f k a0).bind fun t3 => (some (U32 (t3), true)))
set_option maxRecDepth 100000 in
theorem scrimref1_Le32.calls (k : Nat) (Ap0 : Option Addr) (np0 cp0 : Nat) (a0 : List Int) (r : Int × Bool) (w : World) (hr0 : Rd w (.slice Ap0 np0 cp0) (nums .u8 a0)) (h : scrimref1_Le32.f k a0 = some r) :
    Calls Go.Proofs.Try.prog 23 #[(.slice Ap0 np0 cp0)] w (Ret fun v w' => v = .tuple #[.int .u32 r.1, .bool r.2] ∧ Mem w w' []) := by
  obtain rfl : a0.length = np0 := by have h_ := hr0.1; simpa [nums_length, bools_length, strs_length] using h_
  unfold scrimref1_Le32.f at h
  refine calls_of [.slice Ap0 a0.length cp0] (fn := Go.Proofs.Try.f23) Go.Proofs.Try.func23 (by kernel_rfl) (by kernel_rfl) ?_
  have hM := Mem.refl w
  refine RunF.go 12 [0, 6] (k' := (pl Go.Proofs.Try.f23 [1, 0, 1])) (L' := [(0, .slice Ap0 a0.length cp0), (6, .bool ((a0.length : Int) != 4))]) (w' := w) (by kernel_rfl) ?_
  rcases two (((a0.length : Int) != 4)) with c1 | c1
  · replace h := of_true h c1
    refine RunF.know 6 (b := true) (by kernel_rfl) c1 ?_
    refine RunF.go 6 [2, 3] (k' := (pl Go.Proofs.Try.f23 [1, 0, 1, 0, 1])) (L' := [(2, .int .u32 0), (3, .bool false)]) (w' := w) (by kernel_rfl) ?_
    obtain rfl := Option.some.inj h
    exact RunF.ret2 2 3 (.int .u32 0) (.bool false) (fn := Go.Proofs.Try.f23) Go.Proofs.Try.func23 (by kernel_rfl) (by kernel_rfl) (by kernel_rfl) (by kernel_rfl) ⟨_, rfl, rfl, (hM.pick [] rfl rfl)⟩
  · replace h := of_false h c1
    refine RunF.know 6 (b := false) (by kernel_rfl) c1 ?_
    refine RunF.go 5 [7] (k' := (pin Go.Proofs.Try.f23 [1, 1, 0] 1)) (L' := [(7, .slice Ap0 a0.length cp0)]) (w' := w) (by kernel_rfl) ?_
    obtain ⟨t3, ht3, h⟩ := Option.bind_eq_some_iff.mp h
    refine RunF.call (d := some 8) (g := 42) (args := #[.slice Ap0 a0.length cp0]) (k2 := (pin Go.Proofs.Try.f23 [1, 1, 0] 2)) (by kernel_rfl) (scrimref1_Little.calls k Ap0 a0.length cp0 a0 t3 _ (hr0.mono hM.below) ht3) ?_
    rintro _ W2 ⟨rfl, hM_⟩
    replace hM := hM.call hM_
    clear hM_ ht3
    refine RunF.go 4 [2, 3] (k' := (pl Go.Proofs.Try.f23 [1, 1, 1])) (L' := [(2, .int .u32 (U32 (t3))), (3, .bool true)]) (w' := W2) (by kernel_rfl) ?_
    obtain rfl := Option.some.inj h
    exact RunF.ret2 2 3 (.int .u32 (U32 (t3))) (.bool true) (fn := Go.Proofs.Try.f23) Go.Proofs.Try.func23 (by kernel_rfl) (by kernel_rfl) (by kernel_rfl) (by kernel_rfl) ⟨_, rfl, rfl, (hM.pick [] rfl rfl)⟩

/-! ### scrim/words.Be64: function 24 -/
def words_Be64.f (k : Nat) (a0 : List Int) : Option (Int × Bool) := if ((a0.length : Int) != 8) = true then (some (0, false)) else ((words_load.f k a0).bind fun t3 => (some (t3, true)))
set_option maxRecDepth 100000 in
theorem words_Be64.calls (k : Nat) (Ap0 : Option Addr) (np0 cp0 : Nat) (a0 : List Int) (r : Int × Bool) (w : World) (hr0 : Rd w (.slice Ap0 np0 cp0) (nums .u8 a0)) (h : words_Be64.f k a0 = some r) :
    Calls Go.Proofs.Try.prog 24 #[(.slice Ap0 np0 cp0)] w (Ret fun v w' => v = .tuple #[.int .u64 r.1, .bool r.2] ∧ Mem w w' []) := by
  obtain rfl : a0.length = np0 := by have h_ := hr0.1; simpa [nums_length, bools_length, strs_length] using h_
  unfold words_Be64.f at h
  refine calls_of [.slice Ap0 a0.length cp0] (fn := Go.Proofs.Try.f24) Go.Proofs.Try.func24 (by kernel_rfl) (by kernel_rfl) ?_
  have hM := Mem.refl w
  refine RunF.go 12 [0, 6] (k' := (pl Go.Proofs.Try.f24 [1, 0, 1])) (L' := [(0, .slice Ap0 a0.length cp0), (6, .bool ((a0.length : Int) != 8))]) (w' := w) (by kernel_rfl) ?_
  rcases two (((a0.length : Int) != 8)) with c1 | c1
  · replace h := of_true h c1
    refine RunF.know 6 (b := true) (by kernel_rfl) c1 ?_
    refine RunF.go 6 [2, 3] (k' := (pl Go.Proofs.Try.f24 [1, 0, 1, 0, 1])) (L' := [(2, .int .u64 0), (3, .bool false)]) (w' := w) (by kernel_rfl) ?_
    obtain rfl := Option.some.inj h
    exact RunF.ret2 2 3 (.int .u64 0) (.bool false) (fn := Go.Proofs.Try.f24) Go.Proofs.Try.func24 (by kernel_rfl) (by kernel_rfl) (by kernel_rfl) (by kernel_rfl) ⟨_, rfl, rfl, (hM.pick [] rfl rfl)⟩
  · replace h := of_false h c1
    refine RunF.know 6 (b := false) (by kernel_rfl) c1 ?_
    refine RunF.go 5 [7] (k' := (pin Go.Proofs.Try.f24 [1, 1, 0] 1)) (L' := [(7, .slice Ap0 a0.length cp0)]) (w' := w) (by kernel_rfl) ?_
    obtain ⟨t3, ht3, h⟩ := Option.bind_eq_some_iff.mp h
    refine RunF.call (d := some 8) (g := 38) (args := #[.slice Ap0 a0.length cp0]) (k2 := (pin Go.Proofs.Try.f24 [1, 1, 0] 2)) (by kernel_rfl) (words_load.calls k Ap0 a0.length cp0 a0 t3 _ (hr0.mono hM.below) ht3) ?_
    rintro _ W2 ⟨rfl, hM_⟩
    replace hM := hM.call hM_
    clear hM_ ht3
    refine RunF.go 3 [2, 3] (k' := (pl Go.Proofs.Try.f24 [1, 1, 1])) (L' := [(2, .int .u64 t3), (3, .bool true)]) (w' := W2) (by kernel_rfl) ?_
    obtain rfl := Option.some.inj h
    exact RunF.ret2 2 3 (.int .u64 t3) (.bool true) (fn := Go.Proofs.Try.f24) Go.Proofs.Try.func24 (by kernel_rfl) (by kernel_rfl) (by kernel_rfl) (by kernel_rfl) ⟨_, rfl, rfl, (hM.pick [] rfl rfl)⟩

/-! ### scrim/scrimref1.Be64: function 25 -/
def scrimref1_Be64.f (k : Nat) (a0 : List Int) : Option (Int × Bool) := if ((a0.length : Int) != 8) = true then (some (0, false)) else ((scrimref1_Big.f k a0).bind fun t3 => (some (t3, true)))
set_option maxRecDepth 100000 in
theorem scrimref1_Be64.calls (k : Nat) (Ap0 : Option Addr) (np0 cp0 : Nat) (a0 : List Int) (r : Int × Bool) (w : World) (hr0 : Rd w (.slice Ap0 np0 cp0) (nums .u8 a0)) (h : scrimref1_Be64.f k a0 = some r) :
    Calls Go.Proofs.Try.prog 25 #[(.slice Ap0 np0 cp0)] w (Ret fun v w' => v = .tuple #[.int .u64 r.1, .bool r.2] ∧ Mem w w' []) := by
  obtain rfl : a0.length = np0 := by have h_ := hr0.1; simpa [nums_length, bools_length, strs_length] using h_
  unfold scrimref1_Be64.f at h
  refine calls_of [.slice Ap0 a0.length cp0] (fn := Go.Proofs.Try.f25) Go.Proofs.Try.func25 (by kernel_rfl) (by kernel_rfl) ?_
  have hM := Mem.refl w
  refine RunF.go 12 [0, 6] (k' := (pl Go.Proofs.Try.f25 [1, 0, 1])) (L' := [(0, .slice Ap0 a0.length cp0), (6, .bool ((a0.length : Int) != 8))]) (w' := w) (by kernel_rfl) ?_
  rcases two (((a0.length : Int) != 8)) with c1 | c1
  · replace h := of_true h c1
    refine RunF.know 6 (b := true) (by kernel_rfl) c1 ?_
    refine RunF.go 6 [2, 3] (k' := (pl Go.Proofs.Try.f25 [1, 0, 1, 0, 1])) (L' := [(2, .int .u64 0), (3, .bool false)]) (w' := w) (by kernel_rfl) ?_
    obtain rfl := Option.some.inj h
    exact RunF.ret2 2 3 (.int .u64 0) (.bool false) (fn := Go.Proofs.Try.f25) Go.Proofs.Try.func25 (by kernel_rfl) (by kernel_rfl) (by kernel_rfl) (by kernel_rfl) ⟨_, rfl, rfl, (hM.pick [] rfl rfl)⟩
  · replace h := of_false h c1
    refine RunF.know 6 (b := false) (by kernel_rfl) c1 ?_
    refine RunF.go 5 [7] (k' := (pin Go.Proofs.Try.f25 [1, 1, 0] 1)) (L' := [(7, .slice Ap0 a0.length cp0)]) (w' := w) (by kernel_rfl) ?_
    obtain ⟨t3, ht3, h⟩ := Option.bind_eq_some_iff.mp h
    refine RunF.call (d := some 8) (g := 40) (args := #[.slice Ap0 a0.length cp0]) (k2 := (pin Go.Proofs.Try.f25 [1, 1, 0] 2)) (by kernel_rfl) (scrimref1_Big.calls k Ap0 a0.length cp0 a0 t3 _ (hr0.mono hM.below) ht3) ?_
    rintro _ W2 ⟨rfl, hM_⟩
    replace hM := hM.call hM_
    clear hM_ ht3
    refine RunF.go 3 [2, 3] (k' := (pl Go.Proofs.Try.f25 [1, 1, 1])) (L' := [(2, .int .u64 t3), (3, .bool true)]) (w' := W2) (by kernel_rfl) ?_
    obtain rfl := Option.some.inj h
    exact RunF.ret2 2 3 (.int .u64 t3) (.bool true) (fn := Go.Proofs.Try.f25) Go.Proofs.Try.func25 (by kernel_rfl) (by kernel_rfl) (by kernel_rfl) (by kernel_rfl) ⟨_, rfl, rfl, (hM.pick [] rfl rfl)⟩

/-! ### scrim/scrimlaw1.WordsReads: function 6 -/
def scrimlaw1_WordsReads.l0 : Nat → (List Int) → Int → Option (Bool)
  | 0, _, _ => none
  | k + 1, a0, x4_0 => if (decide (x4_0 < ((4 : Nat) : Int))) = true then (if (decide (0 ≤ x4_0)) = true then (if (decide (x4_0 < (4 : Int))) = true then ((words_Be32.f k (rdr ([] : List Int) ([a0, (([] : List Int) ++ ((a0.take (mn (a0.length : Int) 4 : Int).toNat).drop (0 : Int).toNat)), (([] : List Int) ++ ((a0.take (mn (a0.length : Int) 8 : Int).toNat).drop (0 : Int).toNat)), ((([] : List Int) ++ a0) ++ ([1, 2, 3, 4] : List Int))] : List (List Int)) x4_0)).bind fun t276 => (if (decide (0 ≤ x4_0)) = true then (if (decide (x4_0 < (4 : Int))) = true then ((scrimref1_Be32.f k (rdr ([] : List Int) ([a0, (([] : List Int) ++ ((a0.take (mn (a0.length : Int) 4 : Int).toNat).drop (0 : Int).toNat)), (([] : List Int) ++ ((a0.take (mn (a0.length : Int) 8 : Int).toNat).drop (0 : Int).toNat)), ((([] : List Int) ++ a0) ++ ([1, 2, 3, 4] : List Int))] : List (List Int)) x4_0)).bind fun t281 => (if (decide (0 ≤ x4_0)) = true then (if (decide (x4_0 < (4 : Int))) = true then ((words_Le32.f k (rdr ([] : List Int) ([a0, (([] : List Int) ++ ((a0.take (mn (a0.length : Int) 4 : Int).toNat).drop (0 : Int).toNat)), (([] : List Int) ++ ((a0.take (mn (a0.length : Int) 8 : Int).toNat).drop (0 : Int).toNat)), ((([] : List Int) ++ a0) ++ ([1, 2, 3, 4] : List Int))] : List (List Int)) x4_0)).bind fun t286 => (if (decide (0 ≤ x4_0)) = true then (if (decide (x4_0 < (4 : Int))) = true then ((scrimref1_Le32.f k (rdr ([] : List Int) ([a0, (([] : List Int) ++ ((a0.take (mn (a0.length : Int) 4 : Int).toNat).drop (0 : Int).toNat)), (([] : List Int) ++ ((a0.take (mn (a0.length : Int) 8 : Int).toNat).drop (0 : Int).toNat)), ((([] : List Int) ++ a0) ++ ([1, 2, 3, 4] : List Int))] : List (List Int)) x4_0)).bind fun t291 => (if (decide (0 ≤ x4_0)) = true then (if (decide (x4_0 < (4 : Int))) = true then ((words_Be64.f k (rdr ([] : List Int) ([a0, (([] : List Int) ++ ((a0.take (mn (a0.length : Int) 4 : Int).toNat).drop (0 : Int).toNat)), (([] : List Int) ++ ((a0.take (mn (a0.length : Int) 8 : Int).toNat).drop (0 : Int).toNat)), ((([] : List Int) ++ a0) ++ ([1, 2, 3, 4] : List Int))] : List (List Int)) x4_0)).bind fun t296 => (if (decide (0 ≤ x4_0)) = true then (if (decide (x4_0 < (4 : Int))) = true then ((scrimref1_Be64.f k (rdr ([] : List Int) ([a0, (([] : List Int) ++ ((a0.take (mn (a0.length : Int) 4 : Int).toNat).drop (0 : Int).toNat)), (([] : List Int) ++ ((a0.take (mn (a0.length : Int) 8 : Int).toNat).drop (0 : Int).toNat)), ((([] : List Int) ++ a0) ++ ([1, 2, 3, 4] : List Int))] : List (List Int)) x4_0)).bind fun t301 => (if (t276.1 != t281.1) = true then (some false) else (if (!(t276.2 == t281.2)) = true then (some false) else (if (t286.1 != t291.1) = true then (some false) else (if (!(t286.2 == t291.2)) = true then (some false) else (if (t296.1 != t301.1) = true then (some false) else (if (!(t296.2 == t301.2)) = true then (some false) else (scrimlaw1_WordsReads.l0 k a0 (I64 (x4_0 + 1)))))))))) else (none)) else (none))) else (none)) else (none))) else (none)) else (none))) else (none)) else (none))) else (none)) else (none))) else (none)) else (none)) else (some true)
def scrimlaw1_WordsReads.f (k : Nat) (a0 : List Int) : Option (Bool) := (scrimlaw1_known.f k).bind fun t2 => (if (!t2) = true then (some false) else (if (decide ((a0.length : Int) > 100)) = true then (some true) else (if (decide (0 ≤ (mn (a0.length : Int) 4))) = true then (if (decide ((mn (a0.length : Int) 4) ≤ (a0.length : Int))) = true then (if (decide (0 ≤ (mn (a0.length : Int) 8))) = true then (if (decide ((mn (a0.length : Int) 8) ≤ (a0.length : Int))) = true then (if (decide (([] : List Int).length + ((a0.take (mn (a0.length : Int) 4 : Int).toNat).drop (0 : Int).toNat).length ≤ 1000000000)) = true then (if (decide (([] : List Int).length + ((a0.take (mn (a0.length : Int) 8 : Int).toNat).drop (0 : Int).toNat).length ≤ 1000000000)) = true then (if (decide (([] : List Int).length + a0.length ≤ 1000000000)) = true then (if (decide ((([] : List Int) ++ a0).length + ([1, 2, 3, 4] : List Int).length ≤ 1000000000)) = true then (scrimlaw1_WordsReads.l0 k a0 0) else (none)) else (none)) else (none)) else (none)) else (none)) else (none)) else (none)) else (none))))
set_option maxRecDepth 100000 in
set_option maxHeartbeats 8000000 in
theorem scrimlaw1_WordsReads.calls (k : Nat) (Ap0 : Option Addr) (np0 cp0 : Nat) (a0 : List Int) (r : Bool) (w : World) (hr0 : Rd w (.slice Ap0 np0 cp0) (nums .u8 a0)) (h : scrimlaw1_WordsReads.f k a0 = some r) :
    Calls Go.Proofs.Try.prog 6 #[(.slice Ap0 np0 cp0)] w (Ret fun v w' => v = .bool r ∧ Mem w w' []) := by
  obtain rfl : a0.length = np0 := by have h_ := hr0.1; simpa [nums_length, bools_length, strs_length] using h_
  unfold scrimlaw1_WordsReads.f at h
  refine calls_of [.slice Ap0 a0.length cp0] (fn := Go.Proofs.Try.f6) Go.Proofs.Try.func6 (by kernel_rfl) (by kernel_rfl) ?_
  have hM := Mem.refl w
  refine RunF.go 7 [0] (k' := (pin Go.Proofs.Try.f6 [1, 0, 0] 0)) (L' := [(0, .slice Ap0 a0.length cp0)]) (w' := w) (by kernel_rfl) ?_
  obtain ⟨t2, ht2, h⟩ := Option.bind_eq_some_iff.mp h
  refine RunF.call (d := some 17) (g := 14) (args := #[]) (k2 := (pin Go.Proofs.Try.f6 [1, 0, 0] 1)) (by kernel_rfl) (scrimlaw1_known.calls k t2 _ ht2) ?_
  rintro _ W1 ⟨rfl, hM_⟩
  replace hM := hM.call hM_
  clear hM_ ht2
  refine RunF.go 2 [0, 18] (k' := (pl Go.Proofs.Try.f6 [1, 0, 1])) (L' := [(0, .slice Ap0 a0.length cp0), (18, .bool (!t2))]) (w' := W1) (by kernel_rfl) ?_
  rcases two (!t2) with c3 | c3
  · replace h := of_true h c3
    refine RunF.know 18 (b := true) (by kernel_rfl) c3 ?_
    refine RunF.go 5 [2] (k' := (pl Go.Proofs.Try.f6 [1, 0, 1, 0, 1])) (L' := [(2, .bool false)]) (w' := W1) (by kernel_rfl) ?_
    obtain rfl := Option.some.inj h
    exact RunF.ret1 2 (.bool false) (fn := Go.Proofs.Try.f6) Go.Proofs.Try.func6 (by kernel_rfl) (by kernel_rfl) (by kernel_rfl) ⟨_, rfl, rfl, (hM.pick [] rfl rfl)⟩
  · replace h := of_false h c3
    refine RunF.know 18 (b := false) (by kernel_rfl) c3 ?_
    refine RunF.go 9 [0, 21] (k' := (pl Go.Proofs.Try.f6 [1, 1, 0, 1])) (L' := [(0, .slice Ap0 a0.length cp0), (21, .bool (decide ((a0.length : Int) > 100)))]) (w' := W1) (by kernel_rfl) ?_
    rcases two (decide ((a0.length : Int) > 100)) with c4 | c4
    · replace h := of_true h c4
      refine RunF.know 21 (b := true) (by kernel_rfl) c4 ?_
      refine RunF.go 5 [2] (k' := (pl Go.Proofs.Try.f6 [1, 1, 0, 1, 0, 1])) (L' := [(2, .bool true)]) (w' := W1) (by kernel_rfl) ?_
      obtain rfl := Option.some.inj h
      exact RunF.ret1 2 (.bool true) (fn := Go.Proofs.Try.f6) Go.Proofs.Try.func6 (by kernel_rfl) (by kernel_rfl) (by kernel_rfl) ⟨_, rfl, rfl, (hM.pick [] rfl rfl)⟩
    · replace h := of_false h c4
      refine RunF.know 21 (b := false) (by kernel_rfl) c4 ?_
      refine RunF.go 3 [0] (k' := (pl Go.Proofs.Try.f6 [1, 1, 1, 0])) (L' := [(0, .slice Ap0 a0.length cp0)]) (w' := W1) (by kernel_rfl) ?_
      refine RunF.draw (Still ({ W1 with drawn := W1.drawn + 1 } : World) []) (by kernel_rfl) (by kernel_rfl) ?_
      have hMd6 := hM.drew
      have hS := Still.refl ({ W1 with drawn := W1.drawn + 1 } : World) []
      generalize ({ W1 with drawn := W1.drawn + 1 } : World) = W5 at hMd6 hS ⊢
      replace hM := hMd6
      refine RunAny.y 0 (by kernel_rfl) (yl_pure (d := some 22) (v := .slice Ap0 a0.length cp0) (k2 := [.inRegion (opsOf (pl Go.Proofs.Try.f6 [1, 1, 1, 0])) []]) fun w => by kernel_rfl) (fun _ _ => trivial) hS ?_
      refine RunAny.y 2 (by kernel_rfl) (yl_pure (d := some 24) (v := .slice Ap0 a0.length cp0) (k2 := [.inRegion (opsOf (pl Go.Proofs.Try.f6 [1, 1, 1, 0])) []]) fun w => by kernel_rfl) (fun _ _ => trivial) hS ?_
      refine RunAny.y 3 (by kernel_rfl) (yl_pure (d := some 25) (v := .slice Ap0 a0.length cp0) (k2 := [.inRegion (opsOf (pl Go.Proofs.Try.f6 [1, 1, 1, 0])) []]) fun w => by kernel_rfl) (fun _ _ => trivial) hS ?_
      refine RunAny.y 4 (by kernel_rfl) (yl_pure (d := some 26) (v := .int .i64 (a0.length : Int)) (k2 := [.inRegion (opsOf (pl Go.Proofs.Try.f6 [1, 1, 1, 0])) []]) fun w => by kernel_rfl) (fun _ _ => trivial) hS ?_
      refine RunAny.y 5 (by kernel_rfl) (yl_pure (d := some 27) (v := .int .i64 (mn (a0.length : Int) 4)) (k2 := [.inRegion (opsOf (pl Go.Proofs.Try.f6 [1, 1, 1, 0])) []]) fun w => by kernel_rfl) (fun _ _ => trivial) hS ?_
      rcases two (decide (0 ≤ (mn (a0.length : Int) 4))) with c7 | c7
      · replace h := of_true h c7
        rcases two (decide ((mn (a0.length : Int) 4) ≤ (a0.length : Int))) with c8 | c8
        · replace h := of_true h c8
          have zc7 := of_decide_eq_true c7
          have zc8 := of_decide_eq_true c8
          obtain ⟨A9, n10, c11, hy12, rfl, hs13⟩ := cut (P := Go.Proofs.Try.prog) (n := 125) (k := (one (opsOf (pl Go.Proofs.Try.f6 [1, 1, 1, 0])) 6)) (L := (upd (upd (upd (upd (upd [(0, .slice Ap0 a0.length cp0)] (some 22) (.slice Ap0 a0.length cp0)) (some 24) (.slice Ap0 a0.length cp0)) (some 25) (.slice Ap0 a0.length cp0)) (some 26) (.int .i64 (a0.length : Int))) (some 27) (.int .i64 (mn (a0.length : Int) 4)))) (d := some 28) (A := Ap0) (m := a0.length) (c := cp0) (l := 0) (h := mn (a0.length : Int) 4) (k2 := [.inRegion (opsOf (pl Go.Proofs.Try.f6 [1, 1, 1, 0])) []]) .u8 a0 (by kernel_rfl) (by omega) (by omega) (by omega) (hr0.mono hM.below)
          clear zc7
          clear zc8
          refine RunAny.y 6 (by kernel_rfl) hy12 (fun _ _ => trivial) hS ?_
          refine RunAny.y 9 (by kernel_rfl) (yl_pure (d := some 31) (v := .slice Ap0 a0.length cp0) (k2 := [.inRegion (opsOf (pl Go.Proofs.Try.f6 [1, 1, 1, 0])) []]) fun w => by kernel_rfl) (fun _ _ => trivial) hS ?_
          refine RunAny.y 10 (by kernel_rfl) (yl_pure (d := some 32) (v := .slice Ap0 a0.length cp0) (k2 := [.inRegion (opsOf (pl Go.Proofs.Try.f6 [1, 1, 1, 0])) []]) fun w => by kernel_rfl) (fun _ _ => trivial) hS ?_
          refine RunAny.y 11 (by kernel_rfl) (yl_pure (d := some 33) (v := .int .i64 (a0.length : Int)) (k2 := [.inRegion (opsOf (pl Go.Proofs.Try.f6 [1, 1, 1, 0])) []]) fun w => by kernel_rfl) (fun _ _ => trivial) hS ?_
          refine RunAny.y 12 (by kernel_rfl) (yl_pure (d := some 34) (v := .int .i64 (mn (a0.length : Int) 8)) (k2 := [.inRegion (opsOf (pl Go.Proofs.Try.f6 [1, 1, 1, 0])) []]) fun w => by kernel_rfl) (fun _ _ => trivial) hS ?_
          rcases two (decide (0 ≤ (mn (a0.length : Int) 8))) with c14 | c14
          · replace h := of_true h c14
            rcases two (decide ((mn (a0.length : Int) 8) ≤ (a0.length : Int))) with c15 | c15
            · replace h := of_true h c15
              have zc14 := of_decide_eq_true c14
              have zc15 := of_decide_eq_true c15
              obtain ⟨A16, n17, c18, hy19, rfl, hs20⟩ := cut (P := Go.Proofs.Try.prog) (n := 125) (k := (one (opsOf (pl Go.Proofs.Try.f6 [1, 1, 1, 0])) 13)) (L := (upd (upd (upd (upd (upd (upd (upd (upd (upd (upd [(0, .slice Ap0 a0.length cp0)] (some 22) (.slice Ap0 a0.length cp0)) (some 24) (.slice Ap0 a0.length cp0)) (some 25) (.slice Ap0 a0.length cp0)) (some 26) (.int .i64 (a0.length : Int))) (some 27) (.int .i64 (mn (a0.length : Int) 4))) (some 28) (.slice A9 (((a0.take (mn (a0.length : Int) 4 : Int).toNat).drop (0 : Int).toNat).length) c11)) (some 31) (.slice Ap0 a0.length cp0)) (some 32) (.slice Ap0 a0.length cp0)) (some 33) (.int .i64 (a0.length : Int))) (some 34) (.int .i64 (mn (a0.length : Int) 8)))) (d := some 35) (A := Ap0) (m := a0.length) (c := cp0) (l := 0) (h := mn (a0.length : Int) 8) (k2 := [.inRegion (opsOf (pl Go.Proofs.Try.f6 [1, 1, 1, 0])) []]) .u8 a0 (by kernel_rfl) (by omega) (by omega) (by omega) (hr0.mono hM.below)
              clear zc14
              clear zc15
              refine RunAny.y 13 (by kernel_rfl) hy19 (fun _ _ => trivial) hS ?_
              refine RunAny.y 16 (by kernel_rfl) (yl_pure (d := some 38) (v := .slice Ap0 a0.length cp0) (k2 := [.inRegion (opsOf (pl Go.Proofs.Try.f6 [1, 1, 1, 0])) []]) fun w => by kernel_rfl) (fun _ _ => trivial) hS ?_
              rcases two (decide (([] : List Int).length + ((a0.take (mn (a0.length : Int) 4 : Int).toNat).drop (0 : Int).toNat).length ≤ 1000000000)) with c252 | c252
              · replace h := of_true h c252
                rcases two (decide (([] : List Int).length + ((a0.take (mn (a0.length : Int) 8 : Int).toNat).drop (0 : Int).toNat).length ≤ 1000000000)) with c253 | c253
                · replace h := of_true h c253
                  rcases two (decide (([] : List Int).length + a0.length ≤ 1000000000)) with c254 | c254
                  · replace h := of_true h c254
                    have J255 : ∀ (A33 : Option Addr) (c35 : Nat) (A138 : Option Addr) (c140 : Nat) (A225 : Option Addr) (c227 : Nat) (g243 : Nat) (W256 : World) (hS : Still W256 [.slice A225 ((([] : List Int) ++ a0).length) c227] W256) (hM : Mem w W256 [⟨.slice A33 ((([] : List Int) ++ ((a0.take (mn (a0.length : Int) 4 : Int).toNat).drop (0 : Int).toNat)).length) c35, 5, 1, nums .u8 (([] : List Int) ++ ((a0.take (mn (a0.length : Int) 4 : Int).toNat).drop (0 : Int).toNat))⟩, ⟨.slice A138 ((([] : List Int) ++ ((a0.take (mn (a0.length : Int) 8 : Int).toNat).drop (0 : Int).toNat)).length) c140, 5, 1, nums .u8 (([] : List Int) ++ ((a0.take (mn (a0.length : Int) 8 : Int).toNat).drop (0 : Int).toNat))⟩, ⟨.slice A225 ((([] : List Int) ++ a0).length) c227, 5, 1, nums .u8 (([] : List Int) ++ a0)⟩, ⟨.slice (some ⟨g243, 0, none⟩) 4 4, 5, 1, nums .u8 [1, 2, 3, 4]⟩]) , RunAny Go.Proofs.Try.prog (Ret fun v w' => v = .bool r ∧ Mem w w' []) 6 (rest1 (pl Go.Proofs.Try.f6 [1, 1, 1, 0])) 125 (opsOf (pl Go.Proofs.Try.f6 [1, 1, 1, 0])) (Still W256 [.slice A225 ((([] : List Int) ++ a0).length) c227]) 3 [0, 2, 3, 4, 5, 6, 9, 10, 11, 12, 13, 16, 1, 7, 8, 14, 15, 17, 18] [(0, .slice Ap0 a0.length cp0), (22, .slice Ap0 a0.length cp0), (29, .slice A33 ((([] : List Int) ++ ((a0.take (mn (a0.length : Int) 4 : Int).toNat).drop (0 : Int).toNat)).length) c35), (36, .slice A138 ((([] : List Int) ++ ((a0.take (mn (a0.length : Int) 8 : Int).toNat).drop (0 : Int).toNat)).length) c140), (39, .slice A225 ((([] : List Int) ++ a0).length) c227), (40, .slice (some ⟨g243, 0, none⟩) 4 4)] W256 := by
                      intro A33 c35 A138 c140 A225 c227 g243 W256 hS hM 
                      rcases two (decide ((([] : List Int) ++ a0).length + ([1, 2, 3, 4] : List Int).length ≤ 1000000000)) with c261 | c261
                      · replace h := of_true h c261
                        have h_ := of_decide_eq_true c261
                        obtain ⟨A257, n258, c259, W260, hD, hM', hS_⟩ := app_does (P := Go.Proofs.Try.prog) (n := 125) (k := (one (opsOf (pl Go.Proofs.Try.f6 [1, 1, 1, 0])) 19)) (L := [(0, .slice Ap0 a0.length cp0), (22, .slice Ap0 a0.length cp0), (29, .slice A33 ((([] : List Int) ++ ((a0.take (mn (a0.length : Int) 4 : Int).toNat).drop (0 : Int).toNat)).length) c35), (36, .slice A138 ((([] : List Int) ++ ((a0.take (mn (a0.length : Int) 8 : Int).toNat).drop (0 : Int).toNat)).length) c140), (39, .slice A225 ((([] : List Int) ++ a0).length) c227), (40, .slice (some ⟨g243, 0, none⟩) 4 4)]) (d := some 41) (e := 5) (A := A225) (m := (([] : List Int) ++ a0).length) (c := c227) (A2 := (some ⟨g243, 0, none⟩)) (m2 := 4) (c2 := 4) (cs := nums .u8 (([] : List Int) ++ a0)) (ys := nums .u8 ([1, 2, 3, 4] : List Int)) (k2 := [.inRegion (opsOf (pl Go.Proofs.Try.f6 [1, 1, 1, 0])) []]) [⟨.slice A33 ((([] : List Int) ++ ((a0.take (mn (a0.length : Int) 4 : Int).toNat).drop (0 : Int).toNat)).length) c35, 5, 1, nums .u8 (([] : List Int) ++ ((a0.take (mn (a0.length : Int) 4 : Int).toNat).drop (0 : Int).toNat))⟩, ⟨.slice A138 ((([] : List Int) ++ ((a0.take (mn (a0.length : Int) 8 : Int).toNat).drop (0 : Int).toNat)).length) c140, 5, 1, nums .u8 (([] : List Int) ++ ((a0.take (mn (a0.length : Int) 8 : Int).toNat).drop (0 : Int).toNat))⟩] [⟨.slice (some ⟨g243, 0, none⟩) 4 4, 5, 1, nums .u8 [1, 2, 3, 4]⟩] (by kernel_rfl) (hM.pick [0, 1, 2, 3] rfl rfl) (hM.rd 3 rfl) (one_nums _ _) (by omega)
                        rw [nums_append] at hM'
                        replace hM := hM'; clear h_ hM'
                        obtain rfl : ((([] : List Int) ++ a0) ++ ([1, 2, 3, 4] : List Int)).length = n258 := by have h_ := (hM.rd 2 rfl).1; simpa only [nums_length, bools_length, strs_length] using h_
                        refine RunAny.does 19 (by kernel_rfl) hD (hS.app hS_ (by simp)) ?_
                        clear hD
                        replace hS := (hS.app hS_ (by simp)); clear hS_
                        refine RunAny.rebase hS ?_
                        replace hS := Still.refl W260 [.slice A225 ((([] : List Int) ++ a0).length) c227]
                        obtain ⟨Fq263, hfq263, hM⟩ := Mem.freezeS (H1 := []) (H2 := [⟨.slice A138 ((([] : List Int) ++ ((a0.take (mn (a0.length : Int) 8 : Int).toNat).drop (0 : Int).toNat)).length) c140, 5, 1, nums .u8 (([] : List Int) ++ ((a0.take (mn (a0.length : Int) 8 : Int).toNat).drop (0 : Int).toNat))⟩, ⟨.slice A257 (((([] : List Int) ++ a0) ++ ([1, 2, 3, 4] : List Int)).length) c259, 5, 1, nums .u8 ((([] : List Int) ++ a0) ++ ([1, 2, 3, 4] : List Int))⟩, ⟨.slice (some ⟨g243, 0, none⟩) 4 4, 5, 1, nums .u8 [1, 2, 3, 4]⟩]) (Fs := []) (A := A33) (n := (([] : List Int) ++ ((a0.take (mn (a0.length : Int) 4 : Int).toNat).drop (0 : Int).toNat)).length) (c := c35) (ty := 5) (cs := nums .u8 (([] : List Int) ++ ((a0.take (mn (a0.length : Int) 4 : Int).toNat).drop (0 : Int).toNat))) (hM.as rfl)
                        obtain ⟨Fq264, hfq264, hM⟩ := Mem.freezeS (H1 := []) (H2 := [⟨.slice A257 (((([] : List Int) ++ a0) ++ ([1, 2, 3, 4] : List Int)).length) c259, 5, 1, nums .u8 ((([] : List Int) ++ a0) ++ ([1, 2, 3, 4] : List Int))⟩, ⟨.slice (some ⟨g243, 0, none⟩) 4 4, 5, 1, nums .u8 [1, 2, 3, 4]⟩]) (Fs := [Fq263]) (A := A138) (n := (([] : List Int) ++ ((a0.take (mn (a0.length : Int) 8 : Int).toNat).drop (0 : Int).toNat)).length) (c := c140) (ty := 5) (cs := nums .u8 (([] : List Int) ++ ((a0.take (mn (a0.length : Int) 8 : Int).toNat).drop (0 : Int).toNat))) (hM.as rfl)
                        obtain ⟨Fq265, hfq265, hM⟩ := Mem.freezeS (H1 := []) (H2 := [⟨.slice (some ⟨g243, 0, none⟩) 4 4, 5, 1, nums .u8 [1, 2, 3, 4]⟩]) (Fs := [Fq264, Fq263]) (A := A257) (n := ((([] : List Int) ++ a0) ++ ([1, 2, 3, 4] : List Int)).length) (c := c259) (ty := 5) (cs := nums .u8 ((([] : List Int) ++ a0) ++ ([1, 2, 3, 4] : List Int))) (hM.as rfl)
                        have hqq266 : Each2 ((rNums .u8) (andZ (Kept w) (andZ (Oks Fq263) (andZ (Oks Fq264) (Oks Fq265))))) [.slice Ap0 a0.length cp0, .slice A33 ((([] : List Int) ++ ((a0.take (mn (a0.length : Int) 4 : Int).toNat).drop (0 : Int).toNat)).length) c35, .slice A138 ((([] : List Int) ++ ((a0.take (mn (a0.length : Int) 8 : Int).toNat).drop (0 : Int).toNat)).length) c140, .slice A257 (((([] : List Int) ++ a0) ++ ([1, 2, 3, 4] : List Int)).length) c259] ([a0, (([] : List Int) ++ ((a0.take (mn (a0.length : Int) 4 : Int).toNat).drop (0 : Int).toNat)), (([] : List Int) ++ ((a0.take (mn (a0.length : Int) 8 : Int).toNat).drop (0 : Int).toNat)), ((([] : List Int) ++ a0) ++ ([1, 2, 3, 4] : List Int))] : List (List Int)) := (.cons (rnums_of (RdF.up (RdF.of_rd hr0) (fun _ hz_ => hz_.1)) (And.intro hM.kept (And.intro (Mem.oks (hM.as (H' := Gs [⟨.slice (some ⟨g243, 0, none⟩) 4 4, 5, 1, nums .u8 [1, 2, 3, 4]⟩] [Fq265, Fq264, Fq263]) rfl) 2 rfl) (And.intro (Mem.oks (hM.as (H' := Gs [⟨.slice (some ⟨g243, 0, none⟩) 4 4, 5, 1, nums .u8 [1, 2, 3, 4]⟩] [Fq265, Fq264, Fq263]) rfl) 1 rfl) (Mem.oks (hM.as (H' := Gs [⟨.slice (some ⟨g243, 0, none⟩) 4 4, 5, 1, nums .u8 [1, 2, 3, 4]⟩] [Fq265, Fq264, Fq263]) rfl) 0 rfl))))) (.cons (rnums_of (RdF.up hfq263 (fun _ hz_ => hz_.2.1)) (And.intro hM.kept (And.intro (Mem.oks (hM.as (H' := Gs [⟨.slice (some ⟨g243, 0, none⟩) 4 4, 5, 1, nums .u8 [1, 2, 3, 4]⟩] [Fq265, Fq264, Fq263]) rfl) 2 rfl) (And.intro (Mem.oks (hM.as (H' := Gs [⟨.slice (some ⟨g243, 0, none⟩) 4 4, 5, 1, nums .u8 [1, 2, 3, 4]⟩] [Fq265, Fq264, Fq263]) rfl) 1 rfl) (Mem.oks (hM.as (H' := Gs [⟨.slice (some ⟨g243, 0, none⟩) 4 4, 5, 1, nums .u8 [1, 2, 3, 4]⟩] [Fq265, Fq264, Fq263]) rfl) 0 rfl))))) (.cons (rnums_of (RdF.up hfq264 (fun _ hz_ => hz_.2.2.1)) (And.intro hM.kept (And.intro (Mem.oks (hM.as (H' := Gs [⟨.slice (some ⟨g243, 0, none⟩) 4 4, 5, 1, nums .u8 [1, 2, 3, 4]⟩] [Fq265, Fq264, Fq263]) rfl) 2 rfl) (And.intro (Mem.oks (hM.as (H' := Gs [⟨.slice (some ⟨g243, 0, none⟩) 4 4, 5, 1, nums .u8 [1, 2, 3, 4]⟩] [Fq265, Fq264, Fq263]) rfl) 1 rfl) (Mem.oks (hM.as (H' := Gs [⟨.slice (some ⟨g243, 0, none⟩) 4 4, 5, 1, nums .u8 [1, 2, 3, 4]⟩] [Fq265, Fq264, Fq263]) rfl) 0 rfl))))) (.cons (rnums_of (RdF.up hfq265 (fun _ hz_ => hz_.2.2.2)) (And.intro hM.kept (And.intro (Mem.oks (hM.as (H' := Gs [⟨.slice (some ⟨g243, 0, none⟩) 4 4, 5, 1, nums .u8 [1, 2, 3, 4]⟩] [Fq265, Fq264, Fq263]) rfl) 2 rfl) (And.intro (Mem.oks (hM.as (H' := Gs [⟨.slice (some ⟨g243, 0, none⟩) 4 4, 5, 1, nums .u8 [1, 2, 3, 4]⟩] [Fq265, Fq264, Fq263]) rfl) 1 rfl) (Mem.oks (hM.as (H' := Gs [⟨.slice (some ⟨g243, 0, none⟩) 4 4, 5, 1, nums .u8 [1, 2, 3, 4]⟩] [Fq265, Fq264, Fq263]) rfl) 0 rfl))))) (Each2.nil _)))))
                        refine RunAny.new 20 22 1 4 ([.slice Ap0 a0.length cp0, .slice A33 ((([] : List Int) ++ ((a0.take (mn (a0.length : Int) 4 : Int).toNat).drop (0 : Int).toNat)).length) c35, .slice A138 ((([] : List Int) ++ ((a0.take (mn (a0.length : Int) 8 : Int).toNat).drop (0 : Int).toNat)).length) c140, .slice A257 (((([] : List Int) ++ a0) ++ ([1, 2, 3, 4] : List Int)).length) c259]) (d := some 42) (k2 := [.inRegion (opsOf (pl Go.Proofs.Try.f6 [1, 1, 1, 0])) []]) (by kernel_rfl) hM (by rfl) (by kernel_rfl) (by kernel_rfl) hS ?_
                        intro g267 W268 hS hM
                        refine RunAny.rebase hS ?_
                        replace hS := Still.refl W268 [.slice A225 ((([] : List Int) ++ a0).length) c227]
                        refine RunAny.y 21 (by kernel_rfl) (yl_pure (d := some 3) (v := .slice (some ⟨g267, 0, none⟩) 4 4) (k2 := [.inRegion (opsOf (pl Go.Proofs.Try.f6 [1, 1, 1, 0])) []]) fun w => by kernel_rfl) (fun _ _ => trivial) hS ?_
                        refine RunAny.done (by kernel_rfl) ?_
                        clear hS
                        refine RunF.go 7 [3, 4] (k' := (pl Go.Proofs.Try.f6 [1, 1, 1, 1, 0, 1, 0, 0])) (L' := [(3, .slice (some ⟨g267, 0, none⟩) 4 4), (4, .int .i64 0)]) (w' := W268) (by kernel_rfl) ?_
                        obtain ⟨Fq270, hfq270, hM⟩ := Mem.freezeS (H1 := []) (H2 := [⟨.slice (some ⟨g243, 0, none⟩) 4 4, 5, 1, nums .u8 [1, 2, 3, 4]⟩]) (Fs := [Fq265, Fq264, Fq263]) (A := (some ⟨g267, 0, none⟩)) (n := 4) (c := 4) (ty := 22) (cs := [.slice Ap0 a0.length cp0, .slice A33 ((([] : List Int) ++ ((a0.take (mn (a0.length : Int) 4 : Int).toNat).drop (0 : Int).toNat)).length) c35, .slice A138 ((([] : List Int) ++ ((a0.take (mn (a0.length : Int) 8 : Int).toNat).drop (0 : Int).toNat)).length) c140, .slice A257 (((([] : List Int) ++ a0) ++ ([1, 2, 3, 4] : List Int)).length) c259]) (hM.as rfl)
                        have l0 : ∀ (k_ : Nat), k_ ≤ k → ∀ (x4_0 : Int) (W : World) (hM : Mem w W (Gs [] [Fq270, Fq265, Fq264, Fq263])) (h : scrimlaw1_WordsReads.l0 k_ a0 x4_0 = some r), RunF Go.Proofs.Try.prog (Ret fun v w' => v = .bool r ∧ Mem w w' []) 6 (pl Go.Proofs.Try.f6 [1, 1, 1, 1, 0, 1, 0, 0]) 125 [(3, .slice (some ⟨g267, 0, none⟩) 4 4), (4, .int .i64 x4_0)] W := by
                          intro k_
                          induction k_ using Nat.strongRecOn with
                          | _ k_ ih0 =>
                            intro hk x4_0 W hM h
                            cases k_ with
                            | zero => exact absurd h (by simp [scrimlaw1_WordsReads.l0])
                            | succ k =>
                              simp only [scrimlaw1_WordsReads.l0] at h
                              replace ih0 : ∀ m, m ≤ k → _ := fun m hm => ih0 m (by omega) (by omega)
                              refine RunF.go 8 [3, 4, 46] (k' := (pl Go.Proofs.Try.f6 [1, 1, 1, 1, 0, 1, 0, 0, 0, 1])) (L' := [(3, .slice (some ⟨g267, 0, none⟩) 4 4), (4, .int .i64 x4_0), (46, .bool (decide (x4_0 < ((4 : Nat) : Int))))]) (w' := W) (by kernel_rfl) ?_
                              rcases two (decide (x4_0 < ((4 : Nat) : Int))) with c271 | c271
                              · replace h := of_true h c271
                                refine RunF.know 46 (b := true) (by kernel_rfl) c271 ?_
                                refine RunF.go 8 [3, 4, 50, 51] (k' := (pin Go.Proofs.Try.f6 [1, 1, 1, 1, 0, 1, 0, 0, 1, 0, 0, 0] 2)) (L' := [(3, .slice (some ⟨g267, 0, none⟩) 4 4), (4, .int .i64 x4_0), (50, .slice (some ⟨g267, 0, none⟩) 4 4), (51, .int .i64 x4_0)]) (w' := W) (by kernel_rfl) ?_
                                rcases two (decide (0 ≤ x4_0)) with c273 | c273
                                · replace h := of_true h c273
                                  rcases two (decide (x4_0 < (4 : Int))) with c274 | c274
                                  · replace h := of_true h c274
                                    obtain ⟨uq272, huq272, hvq272⟩ := Each2.at hqq266 ([] : List Int) (i := x4_0) (of_decide_eq_true c273) (by have h_ : x4_0 < (4 : Int) := (of_decide_eq_true c274); first | exact h_ | (simpa using h_))
                                    obtain ⟨Aq272, cq272, rfl, hq272⟩ := hvq272
                                    obtain ⟨q272, hAq272, hcq272⟩ := RdF.elem hfq270 (Mem.oks (hM.as (H' := Gs [] [Fq270, Fq265, Fq264, Fq263]) rfl) 0 rfl) huq272
                                    refine RunF.y (idx_y (d := some 52) (A := (some ⟨g267, 0, none⟩)) (m := 4) (i := x4_0) (k2 := (pin Go.Proofs.Try.f6 [1, 1, 1, 1, 0, 1, 0, 0, 1, 0, 0, 0] 3)) (by kernel_rfl) (of_decide_eq_true c273) (of_decide_eq_true c274) hAq272) trivial ?_
                                    refine RunF.y (ld_y (d := some 53) (p := (q272.add (x4_0 : Int).toNat)) (k2 := (pin Go.Proofs.Try.f6 [1, 1, 1, 1, 0, 1, 0, 0, 1, 0, 0, 0] 4)) (.slice Aq272 ((rdr ([] : List Int) ([a0, (([] : List Int) ++ ((a0.take (mn (a0.length : Int) 4 : Int).toNat).drop (0 : Int).toNat)), (([] : List Int) ++ ((a0.take (mn (a0.length : Int) 8 : Int).toNat).drop (0 : Int).toNat)), ((([] : List Int) ++ a0) ++ ([1, 2, 3, 4] : List Int))] : List (List Int)) x4_0).length) cq272) (by kernel_rfl)) hcq272 ?_
                                    obtain ⟨t276, ht276, h⟩ := Option.bind_eq_some_iff.mp h
                                    refine RunF.call (d := some 54) (g := 18) (args := #[.slice Aq272 ((rdr ([] : List Int) ([a0, (([] : List Int) ++ ((a0.take (mn (a0.length : Int) 4 : Int).toNat).drop (0 : Int).toNat)), (([] : List Int) ++ ((a0.take (mn (a0.length : Int) 8 : Int).toNat).drop (0 : Int).toNat)), ((([] : List Int) ++ a0) ++ ([1, 2, 3, 4] : List Int))] : List (List Int)) x4_0).length) cq272]) (k2 := (pin Go.Proofs.Try.f6 [1, 1, 1, 1, 0, 1, 0, 0, 1, 0, 0, 0] 5)) (by kernel_rfl) (words_Be32.calls k Aq272 ((rdr ([] : List Int) ([a0, (([] : List Int) ++ ((a0.take (mn (a0.length : Int) 4 : Int).toNat).drop (0 : Int).toNat)), (([] : List Int) ++ ((a0.take (mn (a0.length : Int) 8 : Int).toNat).drop (0 : Int).toNat)), ((([] : List Int) ++ a0) ++ ([1, 2, 3, 4] : List Int))] : List (List Int)) x4_0).length) cq272 (rdr ([] : List Int) ([a0, (([] : List Int) ++ ((a0.take (mn (a0.length : Int) 4 : Int).toNat).drop (0 : Int).toNat)), (([] : List Int) ++ ((a0.take (mn (a0.length : Int) 8 : Int).toNat).drop (0 : Int).toNat)), ((([] : List Int) ++ a0) ++ ([1, 2, 3, 4] : List Int))] : List (List Int)) x4_0) t276 _ (hq272 _ (And.intro hM.kept (And.intro (Mem.oks (hM.as (H' := Gs [] [Fq270, Fq265, Fq264, Fq263]) rfl) 3 rfl) (And.intro (Mem.oks (hM.as (H' := Gs [] [Fq270, Fq265, Fq264, Fq263]) rfl) 2 rfl) (Mem.oks (hM.as (H' := Gs [] [Fq270, Fq265, Fq264, Fq263]) rfl) 1 rfl))))) ht276) ?_
                                    rintro _ W275 ⟨rfl, hM_⟩
                                    replace hM : Mem w W275 (Gs [] [Fq270, Fq265, Fq264, Fq263]) := (Mem.callG (hM.as (H' := Gs [] [Fq270, Fq265, Fq264, Fq263]) rfl) hM_.grp).as rfl
                                    clear hM_ ht276
                                    refine RunF.go 10 [3, 4, 5, 6, 58, 59] (k' := (pin Go.Proofs.Try.f6 [1, 1, 1, 1, 0, 1, 0, 0, 1, 0, 0, 1, 0] 2)) (L' := [(3, .slice (some ⟨g267, 0, none⟩) 4 4), (4, .int .i64 x4_0), (5, .int .u32 t276.1), (6, .bool t276.2), (58, .slice (some ⟨g267, 0, none⟩) 4 4), (59, .int .i64 x4_0)]) (w' := W275) (by kernel_rfl) ?_
                                    rcases two (decide (0 ≤ x4_0)) with c278 | c278
                                    · replace h := of_true h c278
                                      rcases two (decide (x4_0 < (4 : Int))) with c279 | c279
                                      · replace h := of_true h c279
                                        obtain ⟨uq277, huq277, hvq277⟩ := Each2.at hqq266 ([] : List Int) (i := x4_0) (of_decide_eq_true c278) (by have h_ : x4_0 < (4 : Int) := (of_decide_eq_true c279); first | exact h_ | (simpa using h_))
                                        obtain ⟨Aq277, cq277, rfl, hq277⟩ := hvq277
                                        obtain ⟨q277, hAq277, hcq277⟩ := RdF.elem hfq270 (Mem.oks (hM.as (H' := Gs [] [Fq270, Fq265, Fq264, Fq263]) rfl) 0 rfl) huq277
                                        refine RunF.y (idx_y (d := some 60) (A := (some ⟨g267, 0, none⟩)) (m := 4) (i := x4_0) (k2 := (pin Go.Proofs.Try.f6 [1, 1, 1, 1, 0, 1, 0, 0, 1, 0, 0, 1, 0] 3)) (by kernel_rfl) (of_decide_eq_true c278) (of_decide_eq_true c279) hAq277) trivial ?_
                                        refine RunF.y (ld_y (d := some 61) (p := (q277.add (x4_0 : Int).toNat)) (k2 := (pin Go.Proofs.Try.f6 [1, 1, 1, 1, 0, 1, 0, 0, 1, 0, 0, 1, 0] 4)) (.slice Aq277 ((rdr ([] : List Int) ([a0, (([] : List Int) ++ ((a0.take (mn (a0.length : Int) 4 : Int).toNat).drop (0 : Int).toNat)), (([] : List Int) ++ ((a0.take (mn (a0.length : Int) 8 : Int).toNat).drop (0 : Int).toNat)), ((([] : List Int) ++ a0) ++ ([1, 2, 3, 4] : List Int))] : List (List Int)) x4_0).length) cq277) (by kernel_rfl)) hcq277 ?_
                                        obtain ⟨t281, ht281, h⟩ := Option.bind_eq_some_iff.mp h
                                        refine RunF.call (d := some 62) (g := 21) (args := #[.slice Aq277 ((rdr ([] : List Int) ([a0, (([] : List Int) ++ ((a0.take (mn (a0.length : Int) 4 : Int).toNat).drop (0 : Int).toNat)), (([] : List Int) ++ ((a0.take (mn (a0.length : Int) 8 : Int).toNat).drop (0 : Int).toNat)), ((([] : List Int) ++ a0) ++ ([1, 2, 3, 4] : List Int))] : List (List Int)) x4_0).length) cq277]) (k2 := (pin Go.Proofs.Try.f6 [1, 1, 1, 1, 0, 1, 0, 0, 1, 0, 0, 1, 0] 5)) (by kernel_rfl) (scrimref1_Be32.calls k Aq277 ((rdr ([] : List Int) ([a0, (([] : List Int) ++ ((a0.take (mn (a0.length : Int) 4 : Int).toNat).drop (0 : Int).toNat)), (([] : List Int) ++ ((a0.take (mn (a0.length : Int) 8 : Int).toNat).drop (0 : Int).toNat)), ((([] : List Int) ++ a0) ++ ([1, 2, 3, 4] : List Int))] : List (List Int)) x4_0).length) cq277 (rdr ([] : List Int) ([a0, (([] : List Int) ++ ((a0.take (mn (a0.length : Int) 4 : Int).toNat).drop (0 : Int).toNat)), (([] : List Int) ++ ((a0.take (mn (a0.length : Int) 8 : Int).toNat).drop (0 : Int).toNat)), ((([] : List Int) ++ a0) ++ ([1, 2, 3, 4] : List Int))] : List (List Int)) x4_0) t281 _ (hq277 _ (And.intro hM.kept (And.intro (Mem.oks (hM.as (H' := Gs [] [Fq270, Fq265, Fq264, Fq263]) rfl) 3 rfl) (And.intro (Mem.oks (hM.as (H' := Gs [] [Fq270, Fq265, Fq264, Fq263]) rfl) 2 rfl) (Mem.oks (hM.as (H' := Gs [] [Fq270, Fq265, Fq264, Fq263]) rfl) 1 rfl))))) ht281) ?_
                                        rintro _ W280 ⟨rfl, hM_⟩
                                        replace hM : Mem w W280 (Gs [] [Fq270, Fq265, Fq264, Fq263]) := (Mem.callG (hM.as (H' := Gs [] [Fq270, Fq265, Fq264, Fq263]) rfl) hM_.grp).as rfl
                                        clear hM_ ht281
                                        refine RunF.go 10 [3, 4, 5, 6, 7, 8, 66, 67] (k' := (pin Go.Proofs.Try.f6 [1, 1, 1, 1, 0, 1, 0, 0, 1, 0, 0, 1, 1, 0] 2)) (L' := [(3, .slice (some ⟨g267, 0, none⟩) 4 4), (4, .int .i64 x4_0), (5, .int .u32 t276.1), (6, .bool t276.2), (7, .int .u32 t281.1), (8, .bool t281.2), (66, .slice (some ⟨g267, 0, none⟩) 4 4), (67, .int .i64 x4_0)]) (w' := W280) (by kernel_rfl) ?_
                                        rcases two (decide (0 ≤ x4_0)) with c283 | c283
                                        · replace h := of_true h c283
                                          rcases two (decide (x4_0 < (4 : Int))) with c284 | c284
                                          · replace h := of_true h c284
                                            obtain ⟨uq282, huq282, hvq282⟩ := Each2.at hqq266 ([] : List Int) (i := x4_0) (of_decide_eq_true c283) (by have h_ : x4_0 < (4 : Int) := (of_decide_eq_true c284); first | exact h_ | (simpa using h_))
                                            obtain ⟨Aq282, cq282, rfl, hq282⟩ := hvq282
                                            obtain ⟨q282, hAq282, hcq282⟩ := RdF.elem hfq270 (Mem.oks (hM.as (H' := Gs [] [Fq270, Fq265, Fq264, Fq263]) rfl) 0 rfl) huq282
                                            refine RunF.y (idx_y (d := some 68) (A := (some ⟨g267, 0, none⟩)) (m := 4) (i := x4_0) (k2 := (pin Go.Proofs.Try.f6 [1, 1, 1, 1, 0, 1, 0, 0, 1, 0, 0, 1, 1, 0] 3)) (by kernel_rfl) (of_decide_eq_true c283) (of_decide_eq_true c284) hAq282) trivial ?_
                                            refine RunF.y (ld_y (d := some 69) (p := (q282.add (x4_0 : Int).toNat)) (k2 := (pin Go.Proofs.Try.f6 [1, 1, 1, 1, 0, 1, 0, 0, 1, 0, 0, 1, 1, 0] 4)) (.slice Aq282 ((rdr ([] : List Int) ([a0, (([] : List Int) ++ ((a0.take (mn (a0.length : Int) 4 : Int).toNat).drop (0 : Int).toNat)), (([] : List Int) ++ ((a0.take (mn (a0.length : Int) 8 : Int).toNat).drop (0 : Int).toNat)), ((([] : List Int) ++ a0) ++ ([1, 2, 3, 4] : List Int))] : List (List Int)) x4_0).length) cq282) (by kernel_rfl)) hcq282 ?_
                                            obtain ⟨t286, ht286, h⟩ := Option.bind_eq_some_iff.mp h
                                            refine RunF.call (d := some 70) (g := 22) (args := #[.slice Aq282 ((rdr ([] : List Int) ([a0, (([] : List Int) ++ ((a0.take (mn (a0.length : Int) 4 : Int).toNat).drop (0 : Int).toNat)), (([] : List Int) ++ ((a0.take (mn (a0.length : Int) 8 : Int).toNat).drop (0 : Int).toNat)), ((([] : List Int) ++ a0) ++ ([1, 2, 3, 4] : List Int))] : List (List Int)) x4_0).length) cq282]) (k2 := (pin Go.Proofs.Try.f6 [1, 1, 1, 1, 0, 1, 0, 0, 1, 0, 0, 1, 1, 0] 5)) (by kernel_rfl) (words_Le32.calls k Aq282 ((rdr ([] : List Int) ([a0, (([] : List Int) ++ ((a0.take (mn (a0.length : Int) 4 : Int).toNat).drop (0 : Int).toNat)), (([] : List Int) ++ ((a0.take (mn (a0.length : Int) 8 : Int).toNat).drop (0 : Int).toNat)), ((([] : List Int) ++ a0) ++ ([1, 2, 3, 4] : List Int))] : List (List Int)) x4_0).length) cq282 (rdr ([] : List Int) ([a0, (([] : List Int) ++ ((a0.take (mn (a0.length : Int) 4 : Int).toNat).drop (0 : Int).toNat)), (([] : List Int) ++ ((a0.take (mn (a0.length : Int) 8 : Int).toNat).drop (0 : Int).toNat)), ((([] : List Int) ++ a0) ++ ([1, 2, 3, 4] : List Int))] : List (List Int)) x4_0) t286 _ (hq282 _ (And.intro hM.kept (And.intro (Mem.oks (hM.as (H' := Gs [] [Fq270, Fq265, Fq264, Fq263]) rfl) 3 rfl) (And.intro (Mem.oks (hM.as (H' := Gs [] [Fq270, Fq265, Fq264, Fq263]) rfl) 2 rfl) (Mem.oks (hM.as (H' := Gs [] [Fq270, Fq265, Fq264, Fq263]) rfl) 1 rfl))))) ht286) ?_
                                            rintro _ W285 ⟨rfl, hM_⟩
                                            replace hM : Mem w W285 (Gs [] [Fq270, Fq265, Fq264, Fq263]) := (Mem.callG (hM.as (H' := Gs [] [Fq270, Fq265, Fq264, Fq263]) rfl) hM_.grp).as rfl
                                            clear hM_ ht286
                                            refine RunF.go 10 [3, 4, 5, 6, 7, 8, 9, 10, 74, 75] (k' := (pin Go.Proofs.Try.f6 [1, 1, 1, 1, 0, 1, 0, 0, 1, 0, 0, 1, 1, 1, 0] 2)) (L' := [(3, .slice (some ⟨g267, 0, none⟩) 4 4), (4, .int .i64 x4_0), (5, .int .u32 t276.1), (6, .bool t276.2), (7, .int .u32 t281.1), (8, .bool t281.2), (9, .int .u32 t286.1), (10, .bool t286.2), (74, .slice (some ⟨g267, 0, none⟩) 4 4), (75, .int .i64 x4_0)]) (w' := W285) (by kernel_rfl) ?_
                                            rcases two (decide (0 ≤ x4_0)) with c288 | c288
                                            · replace h := of_true h c288
                                              rcases two (decide (x4_0 < (4 : Int))) with c289 | c289
                                              · replace h := of_true h c289
                                                obtain ⟨uq287, huq287, hvq287⟩ := Each2.at hqq266 ([] : List Int) (i := x4_0) (of_decide_eq_true c288) (by have h_ : x4_0 < (4 : Int) := (of_decide_eq_true c289); first | exact h_ | (simpa using h_))
                                                obtain ⟨Aq287, cq287, rfl, hq287⟩ := hvq287
                                                obtain ⟨q287, hAq287, hcq287⟩ := RdF.elem hfq270 (Mem.oks (hM.as (H' := Gs [] [Fq270, Fq265, Fq264, Fq263]) rfl) 0 rfl) huq287
                                                refine RunF.y (idx_y (d := some 76) (A := (some ⟨g267, 0, none⟩)) (m := 4) (i := x4_0) (k2 := (pin Go.Proofs.Try.f6 [1, 1, 1, 1, 0, 1, 0, 0, 1, 0, 0, 1, 1, 1, 0] 3)) (by kernel_rfl) (of_decide_eq_true c288) (of_decide_eq_true c289) hAq287) trivial ?_
                                                refine RunF.y (ld_y (d := some 77) (p := (q287.add (x4_0 : Int).toNat)) (k2 := (pin Go.Proofs.Try.f6 [1, 1, 1, 1, 0, 1, 0, 0, 1, 0, 0, 1, 1, 1, 0] 4)) (.slice Aq287 ((rdr ([] : List Int) ([a0, (([] : List Int) ++ ((a0.take (mn (a0.length : Int) 4 : Int).toNat).drop (0 : Int).toNat)), (([] : List Int) ++ ((a0.take (mn (a0.length : Int) 8 : Int).toNat).drop (0 : Int).toNat)), ((([] : List Int) ++ a0) ++ ([1, 2, 3, 4] : List Int))] : List (List Int)) x4_0).length) cq287) (by kernel_rfl)) hcq287 ?_
                                                obtain ⟨t291, ht291, h⟩ := Option.bind_eq_some_iff.mp h
                                                refine RunF.call (d := some 78) (g := 23) (args := #[.slice Aq287 ((rdr ([] : List Int) ([a0, (([] : List Int) ++ ((a0.take (mn (a0.length : Int) 4 : Int).toNat).drop (0 : Int).toNat)), (([] : List Int) ++ ((a0.take (mn (a0.length : Int) 8 : Int).toNat).drop (0 : Int).toNat)), ((([] : List Int) ++ a0) ++ ([1, 2, 3, 4] : List Int))] : List (List Int)) x4_0).length) cq287]) (k2 := (pin Go.Proofs.Try.f6 [1, 1, 1, 1, 0, 1, 0, 0, 1, 0, 0, 1, 1, 1, 0] 5)) (by kernel_rfl) (scrimref1_Le32.calls k Aq287 ((rdr ([] : List Int) ([a0, (([] : List Int) ++ ((a0.take (mn (a0.length : Int) 4 : Int).toNat).drop (0 : Int).toNat)), (([] : List Int) ++ ((a0.take (mn (a0.length : Int) 8 : Int).toNat).drop (0 : Int).toNat)), ((([] : List Int) ++ a0) ++ ([1, 2, 3, 4] : List Int))] : List (List Int)) x4_0).length) cq287 (rdr ([] : List Int) ([a0, (([] : List Int) ++ ((a0.take (mn (a0.length : Int) 4 : Int).toNat).drop (0 : Int).toNat)), (([] : List Int) ++ ((a0.take (mn (a0.length : Int) 8 : Int).toNat).drop (0 : Int).toNat)), ((([] : List Int) ++ a0) ++ ([1, 2, 3, 4] : List Int))] : List (List Int)) x4_0) t291 _ (hq287 _ (And.intro hM.kept (And.intro (Mem.oks (hM.as (H' := Gs [] [Fq270, Fq265, Fq264, Fq263]) rfl) 3 rfl) (And.intro (Mem.oks (hM.as (H' := Gs [] [Fq270, Fq265, Fq264, Fq263]) rfl) 2 rfl) (Mem.oks (hM.as (H' := Gs [] [Fq270, Fq265, Fq264, Fq263]) rfl) 1 rfl))))) ht291) ?_
                                                rintro _ W290 ⟨rfl, hM_⟩
                                                replace hM : Mem w W290 (Gs [] [Fq270, Fq265, Fq264, Fq263]) := (Mem.callG (hM.as (H' := Gs [] [Fq270, Fq265, Fq264, Fq263]) rfl) hM_.grp).as rfl
                                                clear hM_ ht291
                                                refine RunF.go 10 [3, 4, 5, 6, 7, 8, 9, 10, 11, 12, 82, 83] (k' := (pin Go.Proofs.Try.f6 [1, 1, 1, 1, 0, 1, 0, 0, 1, 0, 0, 1, 1, 1, 1, 0] 2)) (L' := [(3, .slice (some ⟨g267, 0, none⟩) 4 4), (4, .int .i64 x4_0), (5, .int .u32 t276.1), (6, .bool t276.2), (7, .int .u32 t281.1), (8, .bool t281.2), (9, .int .u32 t286.1), (10, .bool t286.2), (11, .int .u32 t291.1), (12, .bool t291.2), (82, .slice (some ⟨g267, 0, none⟩) 4 4), (83, .int .i64 x4_0)]) (w' := W290) (by kernel_rfl) ?_
                                                rcases two (decide (0 ≤ x4_0)) with c293 | c293
                                                · replace h := of_true h c293
                                                  rcases two (decide (x4_0 < (4 : Int))) with c294 | c294
                                                  · replace h := of_true h c294
                                                    obtain ⟨uq292, huq292, hvq292⟩ := Each2.at hqq266 ([] : List Int) (i := x4_0) (of_decide_eq_true c293) (by have h_ : x4_0 < (4 : Int) := (of_decide_eq_true c294); first | exact h_ | (simpa using h_))
                                                    obtain ⟨Aq292, cq292, rfl, hq292⟩ := hvq292
                                                    obtain ⟨q292, hAq292, hcq292⟩ := RdF.elem hfq270 (Mem.oks (hM.as (H' := Gs [] [Fq270, Fq265, Fq264, Fq263]) rfl) 0 rfl) huq292
                                                    refine RunF.y (idx_y (d := some 84) (A := (some ⟨g267, 0, none⟩)) (m := 4) (i := x4_0) (k2 := (pin Go.Proofs.Try.f6 [1, 1, 1, 1, 0, 1, 0, 0, 1, 0, 0, 1, 1, 1, 1, 0] 3)) (by kernel_rfl) (of_decide_eq_true c293) (of_decide_eq_true c294) hAq292) trivial ?_
                                                    refine RunF.y (ld_y (d := some 85) (p := (q292.add (x4_0 : Int).toNat)) (k2 := (pin Go.Proofs.Try.f6 [1, 1, 1, 1, 0, 1, 0, 0, 1, 0, 0, 1, 1, 1, 1, 0] 4)) (.slice Aq292 ((rdr ([] : List Int) ([a0, (([] : List Int) ++ ((a0.take (mn (a0.length : Int) 4 : Int).toNat).drop (0 : Int).toNat)), (([] : List Int) ++ ((a0.take (mn (a0.length : Int) 8 : Int).toNat).drop (0 : Int).toNat)), ((([] : List Int) ++ a0) ++ ([1, 2, 3, 4] : List Int))] : List (List Int)) x4_0).length) cq292) (by kernel_rfl)) hcq292 ?_
                                                    obtain ⟨t296, ht296, h⟩ := Option.bind_eq_some_iff.mp h
                                                    refine RunF.call (d := some 86) (g := 24) (args := #[.slice Aq292 ((rdr ([] : List Int) ([a0, (([] : List Int) ++ ((a0.take (mn (a0.length : Int) 4 : Int).toNat).drop (0 : Int).toNat)), (([] : List Int) ++ ((a0.take (mn (a0.length : Int) 8 : Int).toNat).drop (0 : Int).toNat)), ((([] : List Int) ++ a0) ++ ([1, 2, 3, 4] : List Int))] : List (List Int)) x4_0).length) cq292]) (k2 := (pin Go.Proofs.Try.f6 [1, 1, 1, 1, 0, 1, 0, 0, 1, 0, 0, 1, 1, 1, 1, 0] 5)) (by kernel_rfl) (words_Be64.calls k Aq292 ((rdr ([] : List Int) ([a0, (([] : List Int) ++ ((a0.take (mn (a0.length : Int) 4 : Int).toNat).drop (0 : Int).toNat)), (([] : List Int) ++ ((a0.take (mn (a0.length : Int) 8 : Int).toNat).drop (0 : Int).toNat)), ((([] : List Int) ++ a0) ++ ([1, 2, 3, 4] : List Int))] : List (List Int)) x4_0).length) cq292 (rdr ([] : List Int) ([a0, (([] : List Int) ++ ((a0.take (mn (a0.length : Int) 4 : Int).toNat).drop (0 : Int).toNat)), (([] : List Int) ++ ((a0.take (mn (a0.length : Int) 8 : Int).toNat).drop (0 : Int).toNat)), ((([] : List Int) ++ a0) ++ ([1, 2, 3, 4] : List Int))] : List (List Int)) x4_0) t296 _ (hq292 _ (And.intro hM.kept (And.intro (Mem.oks (hM.as (H' := Gs [] [Fq270, Fq265, Fq264, Fq263]) rfl) 3 rfl) (And.intro (Mem.oks (hM.as (H' := Gs [] [Fq270, Fq265, Fq264, Fq263]) rfl) 2 rfl) (Mem.oks (hM.as (H' := Gs [] [Fq270, Fq265, Fq264, Fq263]) rfl) 1 rfl))))) ht296) ?_
                                                    rintro _ W295 ⟨rfl, hM_⟩
                                                    replace hM : Mem w W295 (Gs [] [Fq270, Fq265, Fq264, Fq263]) := (Mem.callG (hM.as (H' := Gs [] [Fq270, Fq265, Fq264, Fq263]) rfl) hM_.grp).as rfl
                                                    clear hM_ ht296
                                                    refine RunF.go 10 [3, 4, 5, 6, 7, 8, 9, 10, 11, 12, 13, 14, 90, 91] (k' := (pin Go.Proofs.Try.f6 [1, 1, 1, 1, 0, 1, 0, 0, 1, 0, 0, 1, 1, 1, 1, 1, 0] 2)) (L' := [(3, .slice (some ⟨g267, 0, none⟩) 4 4), (4, .int .i64 x4_0), (5, .int .u32 t276.1), (6, .bool t276.2), (7, .int .u32 t281.1), (8, .bool t281.2), (9, .int .u32 t286.1), (10, .bool t286.2), (11, .int .u32 t291.1), (12, .bool t291.2), (13, .int .u64 t296.1), (14, .bool t296.2), (90, .slice (some ⟨g267, 0, none⟩) 4 4), (91, .int .i64 x4_0)]) (w' := W295) (by kernel_rfl) ?_
                                                    rcases two (decide (0 ≤ x4_0)) with c298 | c298
                                                    · replace h := of_true h c298
                                                      rcases two (decide (x4_0 < (4 : Int))) with c299 | c299
                                                      · replace h := of_true h c299
                                                        obtain ⟨uq297, huq297, hvq297⟩ := Each2.at hqq266 ([] : List Int) (i := x4_0) (of_decide_eq_true c298) (by have h_ : x4_0 < (4 : Int) := (of_decide_eq_true c299); first | exact h_ | (simpa using h_))
                                                        obtain ⟨Aq297, cq297, rfl, hq297⟩ := hvq297
                                                        obtain ⟨q297, hAq297, hcq297⟩ := RdF.elem hfq270 (Mem.oks (hM.as (H' := Gs [] [Fq270, Fq265, Fq264, Fq263]) rfl) 0 rfl) huq297
                                                        refine RunF.y (idx_y (d := some 92) (A := (some ⟨g267, 0, none⟩)) (m := 4) (i := x4_0) (k2 := (pin Go.Proofs.Try.f6 [1, 1, 1, 1, 0, 1, 0, 0, 1, 0, 0, 1, 1, 1, 1, 1, 0] 3)) (by kernel_rfl) (of_decide_eq_true c298) (of_decide_eq_true c299) hAq297) trivial ?_
                                                        refine RunF.y (ld_y (d := some 93) (p := (q297.add (x4_0 : Int).toNat)) (k2 := (pin Go.Proofs.Try.f6 [1, 1, 1, 1, 0, 1, 0, 0, 1, 0, 0, 1, 1, 1, 1, 1, 0] 4)) (.slice Aq297 ((rdr ([] : List Int) ([a0, (([] : List Int) ++ ((a0.take (mn (a0.length : Int) 4 : Int).toNat).drop (0 : Int).toNat)), (([] : List Int) ++ ((a0.take (mn (a0.length : Int) 8 : Int).toNat).drop (0 : Int).toNat)), ((([] : List Int) ++ a0) ++ ([1, 2, 3, 4] : List Int))] : List (List Int)) x4_0).length) cq297) (by kernel_rfl)) hcq297 ?_
                                                        obtain ⟨t301, ht301, h⟩ := Option.bind_eq_some_iff.mp h
                                                        refine RunF.call (d := some 94) (g := 25) (args := #[.slice Aq297 ((rdr ([] : List Int) ([a0, (([] : List Int) ++ ((a0.take (mn (a0.length : Int) 4 : Int).toNat).drop (0 : Int).toNat)), (([] : List Int) ++ ((a0.take (mn (a0.length : Int) 8 : Int).toNat).drop (0 : Int).toNat)), ((([] : List Int) ++ a0) ++ ([1, 2, 3, 4] : List Int))] : List (List Int)) x4_0).length) cq297]) (k2 := (pin Go.Proofs.Try.f6 [1, 1, 1, 1, 0, 1, 0, 0, 1, 0, 0, 1, 1, 1, 1, 1, 0] 5)) (by kernel_rfl) (scrimref1_Be64.calls k Aq297 ((rdr ([] : List Int) ([a0, (([] : List Int) ++ ((a0.take (mn (a0.length : Int) 4 : Int).toNat).drop (0 : Int).toNat)), (([] : List Int) ++ ((a0.take (mn (a0.length : Int) 8 : Int).toNat).drop (0 : Int).toNat)), ((([] : List Int) ++ a0) ++ ([1, 2, 3, 4] : List Int))] : List (List Int)) x4_0).length) cq297 (rdr ([] : List Int) ([a0, (([] : List Int) ++ ((a0.take (mn (a0.length : Int) 4 : Int).toNat).drop (0 : Int).toNat)), (([] : List Int) ++ ((a0.take (mn (a0.length : Int) 8 : Int).toNat).drop (0 : Int).toNat)), ((([] : List Int) ++ a0) ++ ([1, 2, 3, 4] : List Int))] : List (List Int)) x4_0) t301 _ (hq297 _ (And.intro hM.kept (And.intro (Mem.oks (hM.as (H' := Gs [] [Fq270, Fq265, Fq264, Fq263]) rfl) 3 rfl) (And.intro (Mem.oks (hM.as (H' := Gs [] [Fq270, Fq265, Fq264, Fq263]) rfl) 2 rfl) (Mem.oks (hM.as (H' := Gs [] [Fq270, Fq265, Fq264, Fq263]) rfl) 1 rfl))))) ht301) ?_
                                                        rintro _ W300 ⟨rfl, hM_⟩
                                                        replace hM : Mem w W300 (Gs [] [Fq270, Fq265, Fq264, Fq263]) := (Mem.callG (hM.as (H' := Gs [] [Fq270, Fq265, Fq264, Fq263]) rfl) hM_.grp).as rfl
                                                        clear hM_ ht301
                                                        refine RunF.go 12 [3, 4, 6, 8, 9, 10, 11, 12, 13, 14, 15, 16, 100] (k' := (pin Go.Proofs.Try.f6 [1, 1, 1, 1, 0, 1, 0, 0, 1, 0, 0, 1, 1, 1, 1, 1, 1, 0] 4)) (L' := [(3, .slice (some ⟨g267, 0, none⟩) 4 4), (4, .int .i64 x4_0), (6, .bool t276.2), (8, .bool t281.2), (9, .int .u32 t286.1), (10, .bool t286.2), (11, .int .u32 t291.1), (12, .bool t291.2), (13, .int .u64 t296.1), (14, .bool t296.2), (15, .int .u64 t301.1), (16, .bool t301.2), (100, .bool (t276.1 != t281.1))]) (w' := W300) (by kernel_rfl) ?_
                                                        rcases two ((t276.1 != t281.1)) with c302 | c302
                                                        · replace h := of_true h c302
                                                          refine RunF.know 100 (b := true) (by kernel_rfl) c302 ?_
                                                          refine RunF.go 30 [2] (k' := (pl Go.Proofs.Try.f6 [1, 1, 1, 1, 0, 1, 0, 0, 1, 0, 0, 1, 1, 1, 1, 1, 1, 1, 0, 1])) (L' := [(2, .bool false)]) (w' := W300) (by kernel_rfl) ?_
                                                          obtain rfl := Option.some.inj h
                                                          exact RunF.ret1 2 (.bool false) (fn := Go.Proofs.Try.f6) Go.Proofs.Try.func6 (by kernel_rfl) (by kernel_rfl) (by kernel_rfl) ⟨_, rfl, rfl, (Mem.pickF (hM.as (H' := Gs [] [Fq270, Fq265, Fq264, Fq263]) rfl) [] rfl rfl rfl).ungrp⟩
                                                        · replace h := of_false h c302
                                                          refine RunF.know 100 (b := false) (by kernel_rfl) c302 ?_
                                                          refine RunF.go 5 [3, 4, 9, 10, 11, 12, 13, 14, 15, 16, 105] (k' := (pin Go.Proofs.Try.f6 [1, 1, 1, 1, 0, 1, 0, 0, 1, 0, 0, 1, 1, 1, 1, 1, 1, 0] 9)) (L' := [(3, .slice (some ⟨g267, 0, none⟩) 4 4), (4, .int .i64 x4_0), (9, .int .u32 t286.1), (10, .bool t286.2), (11, .int .u32 t291.1), (12, .bool t291.2), (13, .int .u64 t296.1), (14, .bool t296.2), (15, .int .u64 t301.1), (16, .bool t301.2), (105, .bool (!(t276.2 == t281.2)))]) (w' := W300) (by kernel_rfl) ?_
                                                          rcases two (!(t276.2 == t281.2)) with c303 | c303
                                                          · replace h := of_true h c303
                                                            refine RunF.know 105 (b := true) (by kernel_rfl) c303 ?_
                                                            refine RunF.go 25 [2] (k' := (pl Go.Proofs.Try.f6 [1, 1, 1, 1, 0, 1, 0, 0, 1, 0, 0, 1, 1, 1, 1, 1, 1, 1, 0, 1])) (L' := [(2, .bool false)]) (w' := W300) (by kernel_rfl) ?_
                                                            obtain rfl := Option.some.inj h
                                                            exact RunF.ret1 2 (.bool false) (fn := Go.Proofs.Try.f6) Go.Proofs.Try.func6 (by kernel_rfl) (by kernel_rfl) (by kernel_rfl) ⟨_, rfl, rfl, (Mem.pickF (hM.as (H' := Gs [] [Fq270, Fq265, Fq264, Fq263]) rfl) [] rfl rfl rfl).ungrp⟩
                                                          · replace h := of_false h c303
                                                            refine RunF.know 105 (b := false) (by kernel_rfl) c303 ?_
                                                            refine RunF.go 5 [3, 4, 10, 12, 13, 14, 15, 16, 110] (k' := (pin Go.Proofs.Try.f6 [1, 1, 1, 1, 0, 1, 0, 0, 1, 0, 0, 1, 1, 1, 1, 1, 1, 0] 14)) (L' := [(3, .slice (some ⟨g267, 0, none⟩) 4 4), (4, .int .i64 x4_0), (10, .bool t286.2), (12, .bool t291.2), (13, .int .u64 t296.1), (14, .bool t296.2), (15, .int .u64 t301.1), (16, .bool t301.2), (110, .bool (t286.1 != t291.1))]) (w' := W300) (by kernel_rfl) ?_
                                                            rcases two ((t286.1 != t291.1)) with c304 | c304
                                                            · replace h := of_true h c304
                                                              refine RunF.know 110 (b := true) (by kernel_rfl) c304 ?_
                                                              refine RunF.go 20 [2] (k' := (pl Go.Proofs.Try.f6 [1, 1, 1, 1, 0, 1, 0, 0, 1, 0, 0, 1, 1, 1, 1, 1, 1, 1, 0, 1])) (L' := [(2, .bool false)]) (w' := W300) (by kernel_rfl) ?_
                                                              obtain rfl := Option.some.inj h
                                                              exact RunF.ret1 2 (.bool false) (fn := Go.Proofs.Try.f6) Go.Proofs.Try.func6 (by kernel_rfl) (by kernel_rfl) (by kernel_rfl) ⟨_, rfl, rfl, (Mem.pickF (hM.as (H' := Gs [] [Fq270, Fq265, Fq264, Fq263]) rfl) [] rfl rfl rfl).ungrp⟩
                                                            · replace h := of_false h c304
                                                              refine RunF.know 110 (b := false) (by kernel_rfl) c304 ?_
                                                              refine RunF.go 5 [3, 4, 13, 14, 15, 16, 115] (k' := (pin Go.Proofs.Try.f6 [1, 1, 1, 1, 0, 1, 0, 0, 1, 0, 0, 1, 1, 1, 1, 1, 1, 0] 19)) (L' := [(3, .slice (some ⟨g267, 0, none⟩) 4 4), (4, .int .i64 x4_0), (13, .int .u64 t296.1), (14, .bool t296.2), (15, .int .u64 t301.1), (16, .bool t301.2), (115, .bool (!(t286.2 == t291.2)))]) (w' := W300) (by kernel_rfl) ?_
                                                              rcases two (!(t286.2 == t291.2)) with c305 | c305
                                                              · replace h := of_true h c305
                                                                refine RunF.know 115 (b := true) (by kernel_rfl) c305 ?_
                                                                refine RunF.go 15 [2] (k' := (pl Go.Proofs.Try.f6 [1, 1, 1, 1, 0, 1, 0, 0, 1, 0, 0, 1, 1, 1, 1, 1, 1, 1, 0, 1])) (L' := [(2, .bool false)]) (w' := W300) (by kernel_rfl) ?_
                                                                obtain rfl := Option.some.inj h
                                                                exact RunF.ret1 2 (.bool false) (fn := Go.Proofs.Try.f6) Go.Proofs.Try.func6 (by kernel_rfl) (by kernel_rfl) (by kernel_rfl) ⟨_, rfl, rfl, (Mem.pickF (hM.as (H' := Gs [] [Fq270, Fq265, Fq264, Fq263]) rfl) [] rfl rfl rfl).ungrp⟩
                                                              · replace h := of_false h c305
                                                                refine RunF.know 115 (b := false) (by kernel_rfl) c305 ?_
                                                                refine RunF.go 5 [3, 4, 14, 16, 120] (k' := (pin Go.Proofs.Try.f6 [1, 1, 1, 1, 0, 1, 0, 0, 1, 0, 0, 1, 1, 1, 1, 1, 1, 0] 24)) (L' := [(3, .slice (some ⟨g267, 0, none⟩) 4 4), (4, .int .i64 x4_0), (14, .bool t296.2), (16, .bool t301.2), (120, .bool (t296.1 != t301.1))]) (w' := W300) (by kernel_rfl) ?_
                                                                rcases two ((t296.1 != t301.1)) with c306 | c306
                                                                · replace h := of_true h c306
                                                                  refine RunF.know 120 (b := true) (by kernel_rfl) c306 ?_
                                                                  refine RunF.go 10 [2] (k' := (pl Go.Proofs.Try.f6 [1, 1, 1, 1, 0, 1, 0, 0, 1, 0, 0, 1, 1, 1, 1, 1, 1, 1, 0, 1])) (L' := [(2, .bool false)]) (w' := W300) (by kernel_rfl) ?_
                                                                  obtain rfl := Option.some.inj h
                                                                  exact RunF.ret1 2 (.bool false) (fn := Go.Proofs.Try.f6) Go.Proofs.Try.func6 (by kernel_rfl) (by kernel_rfl) (by kernel_rfl) ⟨_, rfl, rfl, (Mem.pickF (hM.as (H' := Gs [] [Fq270, Fq265, Fq264, Fq263]) rfl) [] rfl rfl rfl).ungrp⟩
                                                                · replace h := of_false h c306
                                                                  refine RunF.know 120 (b := false) (by kernel_rfl) c306 ?_
                                                                  refine RunF.go 5 [3, 4, 124] (k' := (pl Go.Proofs.Try.f6 [1, 1, 1, 1, 0, 1, 0, 0, 1, 0, 0, 1, 1, 1, 1, 1, 1, 1])) (L' := [(3, .slice (some ⟨g267, 0, none⟩) 4 4), (4, .int .i64 x4_0), (124, .bool (!(t296.2 == t301.2)))]) (w' := W300) (by kernel_rfl) ?_
                                                                  rcases two (!(t296.2 == t301.2)) with c307 | c307
                                                                  · replace h := of_true h c307
                                                                    refine RunF.know 124 (b := true) (by kernel_rfl) c307 ?_
                                                                    refine RunF.go 5 [2] (k' := (pl Go.Proofs.Try.f6 [1, 1, 1, 1, 0, 1, 0, 0, 1, 0, 0, 1, 1, 1, 1, 1, 1, 1, 0, 1])) (L' := [(2, .bool false)]) (w' := W300) (by kernel_rfl) ?_
                                                                    obtain rfl := Option.some.inj h
                                                                    exact RunF.ret1 2 (.bool false) (fn := Go.Proofs.Try.f6) Go.Proofs.Try.func6 (by kernel_rfl) (by kernel_rfl) (by kernel_rfl) ⟨_, rfl, rfl, (Mem.pickF (hM.as (H' := Gs [] [Fq270, Fq265, Fq264, Fq263]) rfl) [] rfl rfl rfl).ungrp⟩
                                                                  · replace h := of_false h c307
                                                                    refine RunF.know 124 (b := false) (by kernel_rfl) c307 ?_
                                                                    refine RunF.go 9 [3, 4] (k' := (pl Go.Proofs.Try.f6 [1, 1, 1, 1, 0, 1, 0, 0])) (L' := [(3, .slice (some ⟨g267, 0, none⟩) 4 4), (4, .int .i64 (I64 (x4_0 + 1)))]) (w' := W300) (by kernel_rfl) ?_
                                                                    exact ih0 k (by omega) (I64 (x4_0 + 1)) _ (Mem.pickF (hM.as (H' := Gs [] [Fq270, Fq265, Fq264, Fq263]) rfl) [0, 1, 2, 3] rfl rfl rfl) h
                                                      · replace h := of_false h c299
                                                        cases h
                                                    · replace h := of_false h c298
                                                      cases h
                                                  · replace h := of_false h c294
                                                    cases h
                                                · replace h := of_false h c293
                                                  cases h
                                              · replace h := of_false h c289
                                                cases h
                                            · replace h := of_false h c288
                                              cases h
                                          · replace h := of_false h c284
                                            cases h
                                        · replace h := of_false h c283
                                          cases h
                                      · replace h := of_false h c279
                                        cases h
                                    · replace h := of_false h c278
                                      cases h
                                  · replace h := of_false h c274
                                    cases h
                                · replace h := of_false h c273
                                  cases h
                              · replace h := of_false h c271
                                refine RunF.know 46 (b := false) (by kernel_rfl) c271 ?_
                                refine RunF.go 6 [2] (k' := (pl Go.Proofs.Try.f6 [1, 1, 1, 1, 1, 1])) (L' := [(2, .bool true)]) (w' := W) (by kernel_rfl) ?_
                                obtain rfl := Option.some.inj h
                                exact RunF.ret1 2 (.bool true) (fn := Go.Proofs.Try.f6) Go.Proofs.Try.func6 (by kernel_rfl) (by kernel_rfl) (by kernel_rfl) ⟨_, rfl, rfl, (Mem.pickF (hM.as (H' := Gs [] [Fq270, Fq265, Fq264, Fq263]) rfl) [] rfl rfl rfl).ungrp⟩
                        exact l0 k (Nat.le_refl _) 0 _ (Mem.pickF (hM.as (H' := Gs [⟨.slice (some ⟨g243, 0, none⟩) 4 4, 5, 1, nums .u8 [1, 2, 3, 4]⟩] [Fq270, Fq265, Fq264, Fq263]) rfl) [1, 2, 3, 4] rfl rfl rfl) h
                      · replace h := of_false h c261
                        cases h
                    have J308 : ∀ (A33 : Option Addr) (c35 : Nat) (A138 : Option Addr) (c140 : Nat) (g192 : Nat) (g231 : Nat) (W309 : World) (hS : Still W309 [.slice (some ⟨g192, 0, none⟩) 0 0] W309) (hM : Mem w W309 [⟨.slice A33 ((([] : List Int) ++ ((a0.take (mn (a0.length : Int) 4 : Int).toNat).drop (0 : Int).toNat)).length) c35, 5, 1, nums .u8 (([] : List Int) ++ ((a0.take (mn (a0.length : Int) 4 : Int).toNat).drop (0 : Int).toNat))⟩, ⟨.slice A138 ((([] : List Int) ++ ((a0.take (mn (a0.length : Int) 8 : Int).toNat).drop (0 : Int).toNat)).length) c140, 5, 1, nums .u8 (([] : List Int) ++ ((a0.take (mn (a0.length : Int) 8 : Int).toNat).drop (0 : Int).toNat))⟩, ⟨.slice (some ⟨g192, 0, none⟩) 0 0, 5, 1, nums .u8 []⟩, ⟨.slice (some ⟨g231, 0, none⟩) 4 4, 5, 1, nums .u8 [1, 2, 3, 4]⟩]) , RunAny Go.Proofs.Try.prog (Ret fun v w' => v = .bool r ∧ Mem w w' []) 6 (rest1 (pl Go.Proofs.Try.f6 [1, 1, 1, 0])) 125 (opsOf (pl Go.Proofs.Try.f6 [1, 1, 1, 0])) (Still W309 [.slice (some ⟨g192, 0, none⟩) 0 0]) 4 [0, 2, 3, 4, 5, 6, 9, 10, 11, 12, 13, 16, 1, 7, 8, 14, 15, 18] [(0, .slice Ap0 a0.length cp0), (22, .slice Ap0 a0.length cp0), (29, .slice A33 ((([] : List Int) ++ ((a0.take (mn (a0.length : Int) 4 : Int).toNat).drop (0 : Int).toNat)).length) c35), (36, .slice A138 ((([] : List Int) ++ ((a0.take (mn (a0.length : Int) 8 : Int).toNat).drop (0 : Int).toNat)).length) c140), (37, .slice (some ⟨g192, 0, none⟩) 0 0), (38, .slice Ap0 a0.length cp0), (40, .slice (some ⟨g231, 0, none⟩) 4 4)] W309 := by
                      intro A33 c35 A138 c140 g192 g231 W309 hS hM 
                      have h_ := of_decide_eq_true c254
                      obtain ⟨A310, n311, c312, W313, hD, hM', hS_, hApp_⟩ := app_does2 (P := Go.Proofs.Try.prog) (n := 125) (k := (one (opsOf (pl Go.Proofs.Try.f6 [1, 1, 1, 0])) 17)) (L := [(0, .slice Ap0 a0.length cp0), (22, .slice Ap0 a0.length cp0), (29, .slice A33 ((([] : List Int) ++ ((a0.take (mn (a0.length : Int) 4 : Int).toNat).drop (0 : Int).toNat)).length) c35), (36, .slice A138 ((([] : List Int) ++ ((a0.take (mn (a0.length : Int) 8 : Int).toNat).drop (0 : Int).toNat)).length) c140), (37, .slice (some ⟨g192, 0, none⟩) 0 0), (38, .slice Ap0 a0.length cp0), (40, .slice (some ⟨g231, 0, none⟩) 4 4)]) (d := some 39) (e := 5) (A := (some ⟨g192, 0, none⟩)) (m := 0) (c := 0) (A2 := Ap0) (m2 := a0.length) (c2 := cp0) (cs := nums .u8 ([] : List Int)) (ys := nums .u8 a0) (k2 := [.inRegion (opsOf (pl Go.Proofs.Try.f6 [1, 1, 1, 0])) []]) [⟨.slice A33 ((([] : List Int) ++ ((a0.take (mn (a0.length : Int) 4 : Int).toNat).drop (0 : Int).toNat)).length) c35, 5, 1, nums .u8 (([] : List Int) ++ ((a0.take (mn (a0.length : Int) 4 : Int).toNat).drop (0 : Int).toNat))⟩, ⟨.slice A138 ((([] : List Int) ++ ((a0.take (mn (a0.length : Int) 8 : Int).toNat).drop (0 : Int).toNat)).length) c140, 5, 1, nums .u8 (([] : List Int) ++ ((a0.take (mn (a0.length : Int) 8 : Int).toNat).drop (0 : Int).toNat))⟩] [⟨.slice (some ⟨g231, 0, none⟩) 4 4, 5, 1, nums .u8 [1, 2, 3, 4]⟩] (by kernel_rfl) (hM.pick [0, 1, 2, 3] rfl rfl) (hr0.mono hM.below) (one_nums _ _) (by omega)
                      rw [nums_append] at hM'
                      replace hM := hM'; clear h_ hM'
                      obtain rfl : (([] : List Int) ++ a0).length = n311 := by have h_ := (hM.rd 2 rfl).1; simpa only [nums_length, bools_length, strs_length] using h_
                      refine RunAny.does 17 (by kernel_rfl) hD (hS.app hS_ (by simp)) ?_
                      clear hD
                      replace hS := (hS.app hS_ (by simp)); clear hS_
                      refine RunAny.rebase3 (G2 := [.slice A310 ((([] : List Int) ++ a0).length) c312]) hS (by intro v_ hv_ b_ hb_; simp only [List.mem_cons, List.not_mem_nil, or_false] at hv_; subst hv_; (rcases hApp_ with h_ | h_; exact .inl ⟨_, by simp, h_.symm.trans hb_⟩; exact .inr (h_ b_ hb_))) ?_
                      replace hS := Still.refl W313 [.slice A310 ((([] : List Int) ++ a0).length) c312]
                      exact RunAny.same [0, 2, 3, 4, 5, 6, 9, 10, 11, 12, 13, 16, 1, 7, 8, 14, 15, 17, 18] (by kernel_rfl) [0, 22, 29, 36, 39, 40] (by kernel_rfl) (J255 A33 c35 A138 c140 A310 c312 g231 _ hS (hM.pick [0, 1, 2, 3] rfl rfl))
                    have J316 : ∀ (A33 : Option Addr) (c35 : Nat) (A138 : Option Addr) (c140 : Nat) (A225 : Option Addr) (c227 : Nat) (W317 : World) (hS : Still W317 [.slice A225 ((([] : List Int) ++ a0).length) c227] W317) (hM : Mem w W317 [⟨.slice A33 ((([] : List Int) ++ ((a0.take (mn (a0.length : Int) 4 : Int).toNat).drop (0 : Int).toNat)).length) c35, 5, 1, nums .u8 (([] : List Int) ++ ((a0.take (mn (a0.length : Int) 4 : Int).toNat).drop (0 : Int).toNat))⟩, ⟨.slice A138 ((([] : List Int) ++ ((a0.take (mn (a0.length : Int) 8 : Int).toNat).drop (0 : Int).toNat)).length) c140, 5, 1, nums .u8 (([] : List Int) ++ ((a0.take (mn (a0.length : Int) 8 : Int).toNat).drop (0 : Int).toNat))⟩, ⟨.slice A225 ((([] : List Int) ++ a0).length) c227, 5, 1, nums .u8 (([] : List Int) ++ a0)⟩]) , RunAny Go.Proofs.Try.prog (Ret fun v w' => v = .bool r ∧ Mem w w' []) 6 (rest1 (pl Go.Proofs.Try.f6 [1, 1, 1, 0])) 125 (opsOf (pl Go.Proofs.Try.f6 [1, 1, 1, 0])) (Still W317 [.slice A225 ((([] : List Int) ++ a0).length) c227]) 4 [0, 2, 3, 4, 5, 6, 9, 10, 11, 12, 13, 16, 1, 7, 8, 14, 15, 17] [(0, .slice Ap0 a0.length cp0), (22, .slice Ap0 a0.length cp0), (29, .slice A33 ((([] : List Int) ++ ((a0.take (mn (a0.length : Int) 4 : Int).toNat).drop (0 : Int).toNat)).length) c35), (36, .slice A138 ((([] : List Int) ++ ((a0.take (mn (a0.length : Int) 8 : Int).toNat).drop (0 : Int).toNat)).length) c140), (39, .slice A225 ((([] : List Int) ++ a0).length) c227)] W317 := by
                      intro A33 c35 A138 c140 A225 c227 W317 hS hM 
                      refine RunAny.new 18 5 1 4 (nums .u8 [1, 2, 3, 4]) (d := some 40) (k2 := [.inRegion (opsOf (pl Go.Proofs.Try.f6 [1, 1, 1, 0])) []]) (by kernel_rfl) hM (by simp [nums, bools, strs]) (by kernel_rfl) (by kernel_rfl) hS ?_
                      intro g318 W319 hS hM
                      refine RunAny.rebase hS ?_
                      replace hS := Still.refl W319 [.slice A225 ((([] : List Int) ++ a0).length) c227]
                      exact RunAny.same [0, 2, 3, 4, 5, 6, 9, 10, 11, 12, 13, 16, 1, 7, 8, 14, 15, 17, 18] (by kernel_rfl) [0, 22, 29, 36, 39, 40] (by kernel_rfl) (J255 A33 c35 A138 c140 A225 c227 g318 _ hS (hM.pick [1, 2, 3, 0] rfl rfl))
                    have J321 : ∀ (A33 : Option Addr) (c35 : Nat) (g75 : Nat) (g144 : Nat) (g204 : Nat) (W322 : World) (hS : Still W322 [.slice (some ⟨g75, 0, none⟩) 0 0, .slice (some ⟨g144, 0, none⟩) 0 0] W322) (hM : Mem w W322 [⟨.slice A33 ((([] : List Int) ++ ((a0.take (mn (a0.length : Int) 4 : Int).toNat).drop (0 : Int).toNat)).length) c35, 5, 1, nums .u8 (([] : List Int) ++ ((a0.take (mn (a0.length : Int) 4 : Int).toNat).drop (0 : Int).toNat))⟩, ⟨.slice (some ⟨g75, 0, none⟩) 0 0, 5, 1, nums .u8 []⟩, ⟨.slice (some ⟨g144, 0, none⟩) 0 0, 5, 1, nums .u8 []⟩, ⟨.slice (some ⟨g204, 0, none⟩) 4 4, 5, 1, nums .u8 [1, 2, 3, 4]⟩]) , RunAny Go.Proofs.Try.prog (Ret fun v w' => v = .bool r ∧ Mem w w' []) 6 (rest1 (pl Go.Proofs.Try.f6 [1, 1, 1, 0])) 125 (opsOf (pl Go.Proofs.Try.f6 [1, 1, 1, 0])) (Still W322 [.slice (some ⟨g75, 0, none⟩) 0 0, .slice (some ⟨g144, 0, none⟩) 0 0]) 5 [0, 2, 3, 4, 5, 6, 9, 10, 11, 12, 13, 16, 1, 7, 8, 15, 18] [(0, .slice Ap0 a0.length cp0), (22, .slice Ap0 a0.length cp0), (29, .slice A33 ((([] : List Int) ++ ((a0.take (mn (a0.length : Int) 4 : Int).toNat).drop (0 : Int).toNat)).length) c35), (30, .slice (some ⟨g75, 0, none⟩) 0 0), (35, .slice A16 (((a0.take (mn (a0.length : Int) 8 : Int).toNat).drop (0 : Int).toNat).length) c18), (37, .slice (some ⟨g144, 0, none⟩) 0 0), (38, .slice Ap0 a0.length cp0), (40, .slice (some ⟨g204, 0, none⟩) 4 4)] W322 := by
                      intro A33 c35 g75 g144 g204 W322 hS hM 
                      have h_ := of_decide_eq_true c253
                      obtain ⟨A323, n324, c325, W326, hD, hM', hS_⟩ := app_does (P := Go.Proofs.Try.prog) (n := 125) (k := (one (opsOf (pl Go.Proofs.Try.f6 [1, 1, 1, 0])) 14)) (L := [(0, .slice Ap0 a0.length cp0), (22, .slice Ap0 a0.length cp0), (29, .slice A33 ((([] : List Int) ++ ((a0.take (mn (a0.length : Int) 4 : Int).toNat).drop (0 : Int).toNat)).length) c35), (30, .slice (some ⟨g75, 0, none⟩) 0 0), (35, .slice A16 (((a0.take (mn (a0.length : Int) 8 : Int).toNat).drop (0 : Int).toNat).length) c18), (37, .slice (some ⟨g144, 0, none⟩) 0 0), (38, .slice Ap0 a0.length cp0), (40, .slice (some ⟨g204, 0, none⟩) 4 4)]) (d := some 36) (e := 5) (A := (some ⟨g75, 0, none⟩)) (m := 0) (c := 0) (A2 := A16) (m2 := ((a0.take (mn (a0.length : Int) 8 : Int).toNat).drop (0 : Int).toNat).length) (c2 := c18) (cs := nums .u8 ([] : List Int)) (ys := nums .u8 ((a0.take (mn (a0.length : Int) 8 : Int).toNat).drop (0 : Int).toNat)) (k2 := [.inRegion (opsOf (pl Go.Proofs.Try.f6 [1, 1, 1, 0])) []]) [⟨.slice A33 ((([] : List Int) ++ ((a0.take (mn (a0.length : Int) 4 : Int).toNat).drop (0 : Int).toNat)).length) c35, 5, 1, nums .u8 (([] : List Int) ++ ((a0.take (mn (a0.length : Int) 4 : Int).toNat).drop (0 : Int).toNat))⟩] [⟨.slice (some ⟨g144, 0, none⟩) 0 0, 5, 1, nums .u8 []⟩, ⟨.slice (some ⟨g204, 0, none⟩) 4 4, 5, 1, nums .u8 [1, 2, 3, 4]⟩] (by kernel_rfl) (hM.pick [0, 1, 2, 3] rfl rfl) (hs20 _ (hr0.mono hM.below)) (one_nums _ _) (by omega)
                      rw [nums_append] at hM'
                      replace hM := hM'; clear h_ hM'
                      obtain rfl : (([] : List Int) ++ ((a0.take (mn (a0.length : Int) 8 : Int).toNat).drop (0 : Int).toNat)).length = n324 := by have h_ := (hM.rd 1 rfl).1; simpa only [nums_length, bools_length, strs_length] using h_
                      refine RunAny.does 14 (by kernel_rfl) hD (hS.app hS_ (by simp)) ?_
                      clear hD
                      replace hS := (hS.app hS_ (by simp)); clear hS_
                      refine RunAny.rebase3 (G2 := [.slice (some ⟨g144, 0, none⟩) 0 0]) hS (by intro v_ hv_ b_ hb_; simp only [List.mem_cons, List.not_mem_nil, or_false] at hv_; subst hv_; exact .inl ⟨_, by simp, hb_⟩) ?_
                      replace hS := Still.refl W326 [.slice (some ⟨g144, 0, none⟩) 0 0]
                      exact RunAny.same [0, 2, 3, 4, 5, 6, 9, 10, 11, 12, 13, 16, 1, 7, 8, 14, 15, 18] (by kernel_rfl) [0, 22, 29, 36, 37, 38, 40] (by kernel_rfl) (J308 A33 c35 A323 c325 g144 g204 _ hS (hM.pick [0, 1, 2, 3] rfl rfl))
                    have J329 : ∀ (A33 : Option Addr) (c35 : Nat) (A138 : Option Addr) (c140 : Nat) (g195 : Nat) (W330 : World) (hS : Still W330 [] W330) (hM : Mem w W330 [⟨.slice A33 ((([] : List Int) ++ ((a0.take (mn (a0.length : Int) 4 : Int).toNat).drop (0 : Int).toNat)).length) c35, 5, 1, nums .u8 (([] : List Int) ++ ((a0.take (mn (a0.length : Int) 4 : Int).toNat).drop (0 : Int).toNat))⟩, ⟨.slice A138 ((([] : List Int) ++ ((a0.take (mn (a0.length : Int) 8 : Int).toNat).drop (0 : Int).toNat)).length) c140, 5, 1, nums .u8 (([] : List Int) ++ ((a0.take (mn (a0.length : Int) 8 : Int).toNat).drop (0 : Int).toNat))⟩, ⟨.slice (some ⟨g195, 0, none⟩) 4 4, 5, 1, nums .u8 [1, 2, 3, 4]⟩]) , RunAny Go.Proofs.Try.prog (Ret fun v w' => v = .bool r ∧ Mem w w' []) 6 (rest1 (pl Go.Proofs.Try.f6 [1, 1, 1, 0])) 125 (opsOf (pl Go.Proofs.Try.f6 [1, 1, 1, 0])) (Still W330 []) 5 [0, 2, 3, 4, 5, 6, 9, 10, 11, 12, 13, 16, 1, 7, 8, 14, 18] [(0, .slice Ap0 a0.length cp0), (22, .slice Ap0 a0.length cp0), (29, .slice A33 ((([] : List Int) ++ ((a0.take (mn (a0.length : Int) 4 : Int).toNat).drop (0 : Int).toNat)).length) c35), (36, .slice A138 ((([] : List Int) ++ ((a0.take (mn (a0.length : Int) 8 : Int).toNat).drop (0 : Int).toNat)).length) c140), (38, .slice Ap0 a0.length cp0), (40, .slice (some ⟨g195, 0, none⟩) 4 4)] W330 := by
                      intro A33 c35 A138 c140 g195 W330 hS hM 
                      refine RunAny.new2 15 5 1 0 (nums .u8 []) (d := some 37) (k2 := [.inRegion (opsOf (pl Go.Proofs.Try.f6 [1, 1, 1, 0])) []]) (by kernel_rfl) hM (by simp [nums, bools, strs]) (by kernel_rfl) (by kernel_rfl) hS ?_
                      intro g331 W332 hN_ hS hM
                      have hNew_ : ∀ b_, blk (.slice (some ⟨g331, 0, none⟩) 0 0) = some b_ → W330.heap.size ≤ b_ := fun b_ hb_ => by injection hb_ with hb_; subst hb_; exact hN_
                      refine RunAny.rebase3 (G2 := [.slice (some ⟨g331, 0, none⟩) 0 0]) hS (by intro v_ hv_ b_ hb_; simp only [List.mem_cons, List.not_mem_nil, or_false] at hv_; subst hv_; exact .inr (hNew_ b_ hb_)) ?_
                      replace hS := Still.refl W332 [.slice (some ⟨g331, 0, none⟩) 0 0]
                      exact RunAny.same [0, 2, 3, 4, 5, 6, 9, 10, 11, 12, 13, 16, 1, 7, 8, 14, 15, 18] (by kernel_rfl) [0, 22, 29, 36, 37, 38, 40] (by kernel_rfl) (J308 A33 c35 A138 c140 g331 g195 _ hS (hM.pick [1, 2, 0, 3] rfl rfl))
                    have J334 : ∀ (A33 : Option Addr) (c35 : Nat) (A138 : Option Addr) (c140 : Nat) (g192 : Nat) (W335 : World) (hS : Still W335 [.slice (some ⟨g192, 0, none⟩) 0 0] W335) (hM : Mem w W335 [⟨.slice A33 ((([] : List Int) ++ ((a0.take (mn (a0.length : Int) 4 : Int).toNat).drop (0 : Int).toNat)).length) c35, 5, 1, nums .u8 (([] : List Int) ++ ((a0.take (mn (a0.length : Int) 4 : Int).toNat).drop (0 : Int).toNat))⟩, ⟨.slice A138 ((([] : List Int) ++ ((a0.take (mn (a0.length : Int) 8 : Int).toNat).drop (0 : Int).toNat)).length) c140, 5, 1, nums .u8 (([] : List Int) ++ ((a0.take (mn (a0.length : Int) 8 : Int).toNat).drop (0 : Int).toNat))⟩, ⟨.slice (some ⟨g192, 0, none⟩) 0 0, 5, 1, nums .u8 []⟩]) , RunAny Go.Proofs.Try.prog (Ret fun v w' => v = .bool r ∧ Mem w w' []) 6 (rest1 (pl Go.Proofs.Try.f6 [1, 1, 1, 0])) 125 (opsOf (pl Go.Proofs.Try.f6 [1, 1, 1, 0])) (Still W335 [.slice (some ⟨g192, 0, none⟩) 0 0]) 5 [0, 2, 3, 4, 5, 6, 9, 10, 11, 12, 13, 16, 1, 7, 8, 14, 15] [(0, .slice Ap0 a0.length cp0), (22, .slice Ap0 a0.length cp0), (29, .slice A33 ((([] : List Int) ++ ((a0.take (mn (a0.length : Int) 4 : Int).toNat).drop (0 : Int).toNat)).length) c35), (36, .slice A138 ((([] : List Int) ++ ((a0.take (mn (a0.length : Int) 8 : Int).toNat).drop (0 : Int).toNat)).length) c140), (37, .slice (some ⟨g192, 0, none⟩) 0 0), (38, .slice Ap0 a0.length cp0)] W335 := by
                      intro A33 c35 A138 c140 g192 W335 hS hM 
                      refine RunAny.all [17, 18] (by kernel_rfl) (by simp) ?_
                      refine ⟨?_, ?_, trivial⟩
                      · have h_ := of_decide_eq_true c254
                        obtain ⟨A336, n337, c338, W339, hD, hM', hS_, hApp_⟩ := app_does2 (P := Go.Proofs.Try.prog) (n := 125) (k := (one (opsOf (pl Go.Proofs.Try.f6 [1, 1, 1, 0])) 17)) (L := [(0, .slice Ap0 a0.length cp0), (22, .slice Ap0 a0.length cp0), (29, .slice A33 ((([] : List Int) ++ ((a0.take (mn (a0.length : Int) 4 : Int).toNat).drop (0 : Int).toNat)).length) c35), (36, .slice A138 ((([] : List Int) ++ ((a0.take (mn (a0.length : Int) 8 : Int).toNat).drop (0 : Int).toNat)).length) c140), (37, .slice (some ⟨g192, 0, none⟩) 0 0), (38, .slice Ap0 a0.length cp0)]) (d := some 39) (e := 5) (A := (some ⟨g192, 0, none⟩)) (m := 0) (c := 0) (A2 := Ap0) (m2 := a0.length) (c2 := cp0) (cs := nums .u8 ([] : List Int)) (ys := nums .u8 a0) (k2 := [.inRegion (opsOf (pl Go.Proofs.Try.f6 [1, 1, 1, 0])) []]) [⟨.slice A33 ((([] : List Int) ++ ((a0.take (mn (a0.length : Int) 4 : Int).toNat).drop (0 : Int).toNat)).length) c35, 5, 1, nums .u8 (([] : List Int) ++ ((a0.take (mn (a0.length : Int) 4 : Int).toNat).drop (0 : Int).toNat))⟩, ⟨.slice A138 ((([] : List Int) ++ ((a0.take (mn (a0.length : Int) 8 : Int).toNat).drop (0 : Int).toNat)).length) c140, 5, 1, nums .u8 (([] : List Int) ++ ((a0.take (mn (a0.length : Int) 8 : Int).toNat).drop (0 : Int).toNat))⟩] [] (by kernel_rfl) (hM.pick [0, 1, 2] rfl rfl) (hr0.mono hM.below) (one_nums _ _) (by omega)
                        rw [nums_append] at hM'
                        replace hM := hM'; clear h_ hM'
                        obtain rfl : (([] : List Int) ++ a0).length = n337 := by have h_ := (hM.rd 2 rfl).1; simpa only [nums_length, bools_length, strs_length] using h_
                        refine Stepped.does 17 hD (hS.app hS_ (by simp)) ?_
                        clear hD
                        replace hS := (hS.app hS_ (by simp)); clear hS_
                        refine RunAny.rebase3 (G2 := [.slice A336 ((([] : List Int) ++ a0).length) c338]) hS (by intro v_ hv_ b_ hb_; simp only [List.mem_cons, List.not_mem_nil, or_false] at hv_; subst hv_; (rcases hApp_ with h_ | h_; exact .inl ⟨_, by simp, h_.symm.trans hb_⟩; exact .inr (h_ b_ hb_))) ?_
                        replace hS := Still.refl W339 [.slice A336 ((([] : List Int) ++ a0).length) c338]
                        exact RunAny.same [0, 2, 3, 4, 5, 6, 9, 10, 11, 12, 13, 16, 1, 7, 8, 14, 15, 17] (by kernel_rfl) [0, 22, 29, 36, 39] (by kernel_rfl) (J316 A33 c35 A138 c140 A336 c338 _ hS (hM.pick [0, 1, 2] rfl rfl))
                      · refine Stepped.new 18 5 1 4 (nums .u8 [1, 2, 3, 4]) (d := some 40) (k2 := [.inRegion (opsOf (pl Go.Proofs.Try.f6 [1, 1, 1, 0])) []]) hM (by simp [nums, bools, strs]) (by kernel_rfl) (by kernel_rfl) hS ?_
                        intro g342 W343 hS hM
                        refine RunAny.rebase hS ?_
                        replace hS := Still.refl W343 [.slice (some ⟨g192, 0, none⟩) 0 0]
                        exact RunAny.same [0, 2, 3, 4, 5, 6, 9, 10, 11, 12, 13, 16, 1, 7, 8, 14, 15, 18] (by kernel_rfl) [0, 22, 29, 36, 37, 38, 40] (by kernel_rfl) (J308 A33 c35 A138 c140 g192 g342 _ hS (hM.pick [1, 2, 3, 0] rfl rfl))
                    have J345 : ∀ (g21 : Nat) (g39 : Nat) (g90 : Nat) (g168 : Nat) (W346 : World) (hS : Still W346 [.slice (some ⟨g21, 0, none⟩) 0 0, .slice (some ⟨g39, 0, none⟩) 0 0, .slice (some ⟨g90, 0, none⟩) 0 0] W346) (hM : Mem w W346 [⟨.slice (some ⟨g21, 0, none⟩) 0 0, 5, 1, nums .u8 []⟩, ⟨.slice (some ⟨g39, 0, none⟩) 0 0, 5, 1, nums .u8 []⟩, ⟨.slice (some ⟨g90, 0, none⟩) 0 0, 5, 1, nums .u8 []⟩, ⟨.slice (some ⟨g168, 0, none⟩) 4 4, 5, 1, nums .u8 [1, 2, 3, 4]⟩]) , RunAny Go.Proofs.Try.prog (Ret fun v w' => v = .bool r ∧ Mem w w' []) 6 (rest1 (pl Go.Proofs.Try.f6 [1, 1, 1, 0])) 125 (opsOf (pl Go.Proofs.Try.f6 [1, 1, 1, 0])) (Still W346 [.slice (some ⟨g21, 0, none⟩) 0 0, .slice (some ⟨g39, 0, none⟩) 0 0, .slice (some ⟨g90, 0, none⟩) 0 0]) 6 [0, 2, 3, 4, 5, 6, 9, 10, 11, 12, 13, 16, 1, 8, 15, 18] [(0, .slice Ap0 a0.length cp0), (22, .slice Ap0 a0.length cp0), (23, .slice (some ⟨g21, 0, none⟩) 0 0), (28, .slice A9 (((a0.take (mn (a0.length : Int) 4 : Int).toNat).drop (0 : Int).toNat).length) c11), (30, .slice (some ⟨g39, 0, none⟩) 0 0), (35, .slice A16 (((a0.take (mn (a0.length : Int) 8 : Int).toNat).drop (0 : Int).toNat).length) c18), (37, .slice (some ⟨g90, 0, none⟩) 0 0), (38, .slice Ap0 a0.length cp0), (40, .slice (some ⟨g168, 0, none⟩) 4 4)] W346 := by
                      intro g21 g39 g90 g168 W346 hS hM 
                      have h_ := of_decide_eq_true c252
                      obtain ⟨A347, n348, c349, W350, hD, hM', hS_⟩ := app_does (P := Go.Proofs.Try.prog) (n := 125) (k := (one (opsOf (pl Go.Proofs.Try.f6 [1, 1, 1, 0])) 7)) (L := [(0, .slice Ap0 a0.length cp0), (22, .slice Ap0 a0.length cp0), (23, .slice (some ⟨g21, 0, none⟩) 0 0), (28, .slice A9 (((a0.take (mn (a0.length : Int) 4 : Int).toNat).drop (0 : Int).toNat).length) c11), (30, .slice (some ⟨g39, 0, none⟩) 0 0), (35, .slice A16 (((a0.take (mn (a0.length : Int) 8 : Int).toNat).drop (0 : Int).toNat).length) c18), (37, .slice (some ⟨g90, 0, none⟩) 0 0), (38, .slice Ap0 a0.length cp0), (40, .slice (some ⟨g168, 0, none⟩) 4 4)]) (d := some 29) (e := 5) (A := (some ⟨g21, 0, none⟩)) (m := 0) (c := 0) (A2 := A9) (m2 := ((a0.take (mn (a0.length : Int) 4 : Int).toNat).drop (0 : Int).toNat).length) (c2 := c11) (cs := nums .u8 ([] : List Int)) (ys := nums .u8 ((a0.take (mn (a0.length : Int) 4 : Int).toNat).drop (0 : Int).toNat)) (k2 := [.inRegion (opsOf (pl Go.Proofs.Try.f6 [1, 1, 1, 0])) []]) [] [⟨.slice (some ⟨g39, 0, none⟩) 0 0, 5, 1, nums .u8 []⟩, ⟨.slice (some ⟨g90, 0, none⟩) 0 0, 5, 1, nums .u8 []⟩, ⟨.slice (some ⟨g168, 0, none⟩) 4 4, 5, 1, nums .u8 [1, 2, 3, 4]⟩] (by kernel_rfl) (hM.pick [0, 1, 2, 3] rfl rfl) (hs13 _ (hr0.mono hM.below)) (one_nums _ _) (by omega)
                      rw [nums_append] at hM'
                      replace hM := hM'; clear h_ hM'
                      obtain rfl : (([] : List Int) ++ ((a0.take (mn (a0.length : Int) 4 : Int).toNat).drop (0 : Int).toNat)).length = n348 := by have h_ := (hM.rd 0 rfl).1; simpa only [nums_length, bools_length, strs_length] using h_
                      refine RunAny.does 7 (by kernel_rfl) hD (hS.app hS_ (by simp)) ?_
                      clear hD
                      replace hS := (hS.app hS_ (by simp)); clear hS_
                      refine RunAny.rebase3 (G2 := [.slice (some ⟨g39, 0, none⟩) 0 0, .slice (some ⟨g90, 0, none⟩) 0 0]) hS (by intro v_ hv_ b_ hb_; simp only [List.mem_cons, List.not_mem_nil, or_false] at hv_; rcases hv_ with rfl | rfl; exact .inl ⟨_, by simp, hb_⟩; exact .inl ⟨_, by simp, hb_⟩) ?_
                      replace hS := Still.refl W350 [.slice (some ⟨g39, 0, none⟩) 0 0, .slice (some ⟨g90, 0, none⟩) 0 0]
                      exact RunAny.same [0, 2, 3, 4, 5, 6, 9, 10, 11, 12, 13, 16, 1, 7, 8, 15, 18] (by kernel_rfl) [0, 22, 29, 30, 35, 37, 38, 40] (by kernel_rfl) (J321 A347 c349 g39 g90 g168 _ hS (hM.pick [0, 1, 2, 3] rfl rfl))
                    have J353 : ∀ (A33 : Option Addr) (c35 : Nat) (g78 : Nat) (g153 : Nat) (W354 : World) (hS : Still W354 [.slice (some ⟨g78, 0, none⟩) 0 0] W354) (hM : Mem w W354 [⟨.slice A33 ((([] : List Int) ++ ((a0.take (mn (a0.length : Int) 4 : Int).toNat).drop (0 : Int).toNat)).length) c35, 5, 1, nums .u8 (([] : List Int) ++ ((a0.take (mn (a0.length : Int) 4 : Int).toNat).drop (0 : Int).toNat))⟩, ⟨.slice (some ⟨g78, 0, none⟩) 0 0, 5, 1, nums .u8 []⟩, ⟨.slice (some ⟨g153, 0, none⟩) 4 4, 5, 1, nums .u8 [1, 2, 3, 4]⟩]) , RunAny Go.Proofs.Try.prog (Ret fun v w' => v = .bool r ∧ Mem w w' []) 6 (rest1 (pl Go.Proofs.Try.f6 [1, 1, 1, 0])) 125 (opsOf (pl Go.Proofs.Try.f6 [1, 1, 1, 0])) (Still W354 [.slice (some ⟨g78, 0, none⟩) 0 0]) 6 [0, 2, 3, 4, 5, 6, 9, 10, 11, 12, 13, 16, 1, 7, 15, 18] [(0, .slice Ap0 a0.length cp0), (22, .slice Ap0 a0.length cp0), (29, .slice A33 ((([] : List Int) ++ ((a0.take (mn (a0.length : Int) 4 : Int).toNat).drop (0 : Int).toNat)).length) c35), (35, .slice A16 (((a0.take (mn (a0.length : Int) 8 : Int).toNat).drop (0 : Int).toNat).length) c18), (37, .slice (some ⟨g78, 0, none⟩) 0 0), (38, .slice Ap0 a0.length cp0), (40, .slice (some ⟨g153, 0, none⟩) 4 4)] W354 := by
                      intro A33 c35 g78 g153 W354 hS hM 
                      refine RunAny.new2 8 5 1 0 (nums .u8 []) (d := some 30) (k2 := [.inRegion (opsOf (pl Go.Proofs.Try.f6 [1, 1, 1, 0])) []]) (by kernel_rfl) hM (by simp [nums, bools, strs]) (by kernel_rfl) (by kernel_rfl) hS ?_
                      intro g355 W356 hN_ hS hM
                      have hNew_ : ∀ b_, blk (.slice (some ⟨g355, 0, none⟩) 0 0) = some b_ → W354.heap.size ≤ b_ := fun b_ hb_ => by injection hb_ with hb_; subst hb_; exact hN_
                      refine RunAny.rebase3 (G2 := [.slice (some ⟨g355, 0, none⟩) 0 0, .slice (some ⟨g78, 0, none⟩) 0 0]) hS (by intro v_ hv_ b_ hb_; simp only [List.mem_cons, List.not_mem_nil, or_false] at hv_; rcases hv_ with rfl | rfl; exact .inr (hNew_ b_ hb_); exact .inl ⟨_, by simp, hb_⟩) ?_
                      replace hS := Still.refl W356 [.slice (some ⟨g355, 0, none⟩) 0 0, .slice (some ⟨g78, 0, none⟩) 0 0]
                      exact RunAny.same [0, 2, 3, 4, 5, 6, 9, 10, 11, 12, 13, 16, 1, 7, 8, 15, 18] (by kernel_rfl) [0, 22, 29, 30, 35, 37, 38, 40] (by kernel_rfl) (J321 A33 c35 g355 g78 g153 _ hS (hM.pick [1, 0, 2, 3] rfl rfl))
                    have J358 : ∀ (A33 : Option Addr) (c35 : Nat) (g75 : Nat) (g147 : Nat) (W359 : World) (hS : Still W359 [.slice (some ⟨g75, 0, none⟩) 0 0] W359) (hM : Mem w W359 [⟨.slice A33 ((([] : List Int) ++ ((a0.take (mn (a0.length : Int) 4 : Int).toNat).drop (0 : Int).toNat)).length) c35, 5, 1, nums .u8 (([] : List Int) ++ ((a0.take (mn (a0.length : Int) 4 : Int).toNat).drop (0 : Int).toNat))⟩, ⟨.slice (some ⟨g75, 0, none⟩) 0 0, 5, 1, nums .u8 []⟩, ⟨.slice (some ⟨g147, 0, none⟩) 4 4, 5, 1, nums .u8 [1, 2, 3, 4]⟩]) , RunAny Go.Proofs.Try.prog (Ret fun v w' => v = .bool r ∧ Mem w w' []) 6 (rest1 (pl Go.Proofs.Try.f6 [1, 1, 1, 0])) 125 (opsOf (pl Go.Proofs.Try.f6 [1, 1, 1, 0])) (Still W359 [.slice (some ⟨g75, 0, none⟩) 0 0]) 6 [0, 2, 3, 4, 5, 6, 9, 10, 11, 12, 13, 16, 1, 7, 8, 18] [(0, .slice Ap0 a0.length cp0), (22, .slice Ap0 a0.length cp0), (29, .slice A33 ((([] : List Int) ++ ((a0.take (mn (a0.length : Int) 4 : Int).toNat).drop (0 : Int).toNat)).length) c35), (30, .slice (some ⟨g75, 0, none⟩) 0 0), (35, .slice A16 (((a0.take (mn (a0.length : Int) 8 : Int).toNat).drop (0 : Int).toNat).length) c18), (38, .slice Ap0 a0.length cp0), (40, .slice (some ⟨g147, 0, none⟩) 4 4)] W359 := by
                      intro A33 c35 g75 g147 W359 hS hM 
                      refine RunAny.all [14, 15] (by kernel_rfl) (by simp) ?_
                      refine ⟨?_, ?_, trivial⟩
                      · have h_ := of_decide_eq_true c253
                        obtain ⟨A360, n361, c362, W363, hD, hM', hS_⟩ := app_does (P := Go.Proofs.Try.prog) (n := 125) (k := (one (opsOf (pl Go.Proofs.Try.f6 [1, 1, 1, 0])) 14)) (L := [(0, .slice Ap0 a0.length cp0), (22, .slice Ap0 a0.length cp0), (29, .slice A33 ((([] : List Int) ++ ((a0.take (mn (a0.length : Int) 4 : Int).toNat).drop (0 : Int).toNat)).length) c35), (30, .slice (some ⟨g75, 0, none⟩) 0 0), (35, .slice A16 (((a0.take (mn (a0.length : Int) 8 : Int).toNat).drop (0 : Int).toNat).length) c18), (38, .slice Ap0 a0.length cp0), (40, .slice (some ⟨g147, 0, none⟩) 4 4)]) (d := some 36) (e := 5) (A := (some ⟨g75, 0, none⟩)) (m := 0) (c := 0) (A2 := A16) (m2 := ((a0.take (mn (a0.length : Int) 8 : Int).toNat).drop (0 : Int).toNat).length) (c2 := c18) (cs := nums .u8 ([] : List Int)) (ys := nums .u8 ((a0.take (mn (a0.length : Int) 8 : Int).toNat).drop (0 : Int).toNat)) (k2 := [.inRegion (opsOf (pl Go.Proofs.Try.f6 [1, 1, 1, 0])) []]) [⟨.slice A33 ((([] : List Int) ++ ((a0.take (mn (a0.length : Int) 4 : Int).toNat).drop (0 : Int).toNat)).length) c35, 5, 1, nums .u8 (([] : List Int) ++ ((a0.take (mn (a0.length : Int) 4 : Int).toNat).drop (0 : Int).toNat))⟩] [⟨.slice (some ⟨g147, 0, none⟩) 4 4, 5, 1, nums .u8 [1, 2, 3, 4]⟩] (by kernel_rfl) (hM.pick [0, 1, 2] rfl rfl) (hs20 _ (hr0.mono hM.below)) (one_nums _ _) (by omega)
                        rw [nums_append] at hM'
                        replace hM := hM'; clear h_ hM'
                        obtain rfl : (([] : List Int) ++ ((a0.take (mn (a0.length : Int) 8 : Int).toNat).drop (0 : Int).toNat)).length = n361 := by have h_ := (hM.rd 1 rfl).1; simpa only [nums_length, bools_length, strs_length] using h_
                        refine Stepped.does 14 hD (hS.app hS_ (by simp)) ?_
                        clear hD
                        replace hS := (hS.app hS_ (by simp)); clear hS_
                        refine RunAny.rebase3 (G2 := []) hS (by intro v_ hv_ b_ hb_; simp only [List.mem_cons, List.not_mem_nil, or_false] at hv_) ?_
                        replace hS := Still.refl W363 []
                        exact RunAny.same [0, 2, 3, 4, 5, 6, 9, 10, 11, 12, 13, 16, 1, 7, 8, 14, 18] (by kernel_rfl) [0, 22, 29, 36, 38, 40] (by kernel_rfl) (J329 A33 c35 A360 c362 g147 _ hS (hM.pick [0, 1, 2] rfl rfl))
                      · refine Stepped.new2 15 5 1 0 (nums .u8 []) (d := some 37) (k2 := [.inRegion (opsOf (pl Go.Proofs.Try.f6 [1, 1, 1, 0])) []]) hM (by simp [nums, bools, strs]) (by kernel_rfl) (by kernel_rfl) hS ?_
                        intro g366 W367 hN_ hS hM
                        have hNew_ : ∀ b_, blk (.slice (some ⟨g366, 0, none⟩) 0 0) = some b_ → W359.heap.size ≤ b_ := fun b_ hb_ => by injection hb_ with hb_; subst hb_; exact hN_
                        refine RunAny.rebase3 (G2 := [.slice (some ⟨g75, 0, none⟩) 0 0, .slice (some ⟨g366, 0, none⟩) 0 0]) hS (by intro v_ hv_ b_ hb_; simp only [List.mem_cons, List.not_mem_nil, or_false] at hv_; rcases hv_ with rfl | rfl; exact .inl ⟨_, by simp, hb_⟩; exact .inr (hNew_ b_ hb_)) ?_
                        replace hS := Still.refl W367 [.slice (some ⟨g75, 0, none⟩) 0 0, .slice (some ⟨g366, 0, none⟩) 0 0]
                        exact RunAny.same [0, 2, 3, 4, 5, 6, 9, 10, 11, 12, 13, 16, 1, 7, 8, 15, 18] (by kernel_rfl) [0, 22, 29, 30, 35, 37, 38, 40] (by kernel_rfl) (J321 A33 c35 g75 g366 g147 _ hS (hM.pick [1, 2, 0, 3] rfl rfl))
                    have J369 : ∀ (A33 : Option Addr) (c35 : Nat) (g75 : Nat) (g144 : Nat) (W370 : World) (hS : Still W370 [.slice (some ⟨g75, 0, none⟩) 0 0, .slice (some ⟨g144, 0, none⟩) 0 0] W370) (hM : Mem w W370 [⟨.slice A33 ((([] : List Int) ++ ((a0.take (mn (a0.length : Int) 4 : Int).toNat).drop (0 : Int).toNat)).length) c35, 5, 1, nums .u8 (([] : List Int) ++ ((a0.take (mn (a0.length : Int) 4 : Int).toNat).drop (0 : Int).toNat))⟩, ⟨.slice (some ⟨g75, 0, none⟩) 0 0, 5, 1, nums .u8 []⟩, ⟨.slice (some ⟨g144, 0, none⟩) 0 0, 5, 1, nums .u8 []⟩]) , RunAny Go.Proofs.Try.prog (Ret fun v w' => v = .bool r ∧ Mem w w' []) 6 (rest1 (pl Go.Proofs.Try.f6 [1, 1, 1, 0])) 125 (opsOf (pl Go.Proofs.Try.f6 [1, 1, 1, 0])) (Still W370 [.slice (some ⟨g75, 0, none⟩) 0 0, .slice (some ⟨g144, 0, none⟩) 0 0]) 6 [0, 2, 3, 4, 5, 6, 9, 10, 11, 12, 13, 16, 1, 7, 8, 15] [(0, .slice Ap0 a0.length cp0), (22, .slice Ap0 a0.length cp0), (29, .slice A33 ((([] : List Int) ++ ((a0.take (mn (a0.length : Int) 4 : Int).toNat).drop (0 : Int).toNat)).length) c35), (30, .slice (some ⟨g75, 0, none⟩) 0 0), (35, .slice A16 (((a0.take (mn (a0.length : Int) 8 : Int).toNat).drop (0 : Int).toNat).length) c18), (37, .slice (some ⟨g144, 0, none⟩) 0 0), (38, .slice Ap0 a0.length cp0)] W370 := by
                      intro A33 c35 g75 g144 W370 hS hM 
                      refine RunAny.all [14, 18] (by kernel_rfl) (by simp) ?_
                      refine ⟨?_, ?_, trivial⟩
                      · have h_ := of_decide_eq_true c253
                        obtain ⟨A371, n372, c373, W374, hD, hM', hS_⟩ := app_does (P := Go.Proofs.Try.prog) (n := 125) (k := (one (opsOf (pl Go.Proofs.Try.f6 [1, 1, 1, 0])) 14)) (L := [(0, .slice Ap0 a0.length cp0), (22, .slice Ap0 a0.length cp0), (29, .slice A33 ((([] : List Int) ++ ((a0.take (mn (a0.length : Int) 4 : Int).toNat).drop (0 : Int).toNat)).length) c35), (30, .slice (some ⟨g75, 0, none⟩) 0 0), (35, .slice A16 (((a0.take (mn (a0.length : Int) 8 : Int).toNat).drop (0 : Int).toNat).length) c18), (37, .slice (some ⟨g144, 0, none⟩) 0 0), (38, .slice Ap0 a0.length cp0)]) (d := some 36) (e := 5) (A := (some ⟨g75, 0, none⟩)) (m := 0) (c := 0) (A2 := A16) (m2 := ((a0.take (mn (a0.length : Int) 8 : Int).toNat).drop (0 : Int).toNat).length) (c2 := c18) (cs := nums .u8 ([] : List Int)) (ys := nums .u8 ((a0.take (mn (a0.length : Int) 8 : Int).toNat).drop (0 : Int).toNat)) (k2 := [.inRegion (opsOf (pl Go.Proofs.Try.f6 [1, 1, 1, 0])) []]) [⟨.slice A33 ((([] : List Int) ++ ((a0.take (mn (a0.length : Int) 4 : Int).toNat).drop (0 : Int).toNat)).length) c35, 5, 1, nums .u8 (([] : List Int) ++ ((a0.take (mn (a0.length : Int) 4 : Int).toNat).drop (0 : Int).toNat))⟩] [⟨.slice (some ⟨g144, 0, none⟩) 0 0, 5, 1, nums .u8 []⟩] (by kernel_rfl) (hM.pick [0, 1, 2] rfl rfl) (hs20 _ (hr0.mono hM.below)) (one_nums _ _) (by omega)
                        rw [nums_append] at hM'
                        replace hM := hM'; clear h_ hM'
                        obtain rfl : (([] : List Int) ++ ((a0.take (mn (a0.length : Int) 8 : Int).toNat).drop (0 : Int).toNat)).length = n372 := by have h_ := (hM.rd 1 rfl).1; simpa only [nums_length, bools_length, strs_length] using h_
                        refine Stepped.does 14 hD (hS.app hS_ (by simp)) ?_
                        clear hD
                        replace hS := (hS.app hS_ (by simp)); clear hS_
                        refine RunAny.rebase3 (G2 := [.slice (some ⟨g144, 0, none⟩) 0 0]) hS (by intro v_ hv_ b_ hb_; simp only [List.mem_cons, List.not_mem_nil, or_false] at hv_; subst hv_; exact .inl ⟨_, by simp, hb_⟩) ?_
                        replace hS := Still.refl W374 [.slice (some ⟨g144, 0, none⟩) 0 0]
                        exact RunAny.same [0, 2, 3, 4, 5, 6, 9, 10, 11, 12, 13, 16, 1, 7, 8, 14, 15] (by kernel_rfl) [0, 22, 29, 36, 37, 38] (by kernel_rfl) (J334 A33 c35 A371 c373 g144 _ hS (hM.pick [0, 1, 2] rfl rfl))
                      · refine Stepped.new 18 5 1 4 (nums .u8 [1, 2, 3, 4]) (d := some 40) (k2 := [.inRegion (opsOf (pl Go.Proofs.Try.f6 [1, 1, 1, 0])) []]) hM (by simp [nums, bools, strs]) (by kernel_rfl) (by kernel_rfl) hS ?_
                        intro g377 W378 hS hM
                        refine RunAny.rebase hS ?_
                        replace hS := Still.refl W378 [.slice (some ⟨g75, 0, none⟩) 0 0, .slice (some ⟨g144, 0, none⟩) 0 0]
                        exact RunAny.same [0, 2, 3, 4, 5, 6, 9, 10, 11, 12, 13, 16, 1, 7, 8, 15, 18] (by kernel_rfl) [0, 22, 29, 30, 35, 37, 38, 40] (by kernel_rfl) (J321 A33 c35 g75 g144 g377 _ hS (hM.pick [1, 2, 3, 0] rfl rfl))
                    have J380 : ∀ (A33 : Option Addr) (c35 : Nat) (A138 : Option Addr) (c140 : Nat) (W381 : World) (hS : Still W381 [] W381) (hM : Mem w W381 [⟨.slice A33 ((([] : List Int) ++ ((a0.take (mn (a0.length : Int) 4 : Int).toNat).drop (0 : Int).toNat)).length) c35, 5, 1, nums .u8 (([] : List Int) ++ ((a0.take (mn (a0.length : Int) 4 : Int).toNat).drop (0 : Int).toNat))⟩, ⟨.slice A138 ((([] : List Int) ++ ((a0.take (mn (a0.length : Int) 8 : Int).toNat).drop (0 : Int).toNat)).length) c140, 5, 1, nums .u8 (([] : List Int) ++ ((a0.take (mn (a0.length : Int) 8 : Int).toNat).drop (0 : Int).toNat))⟩]) , RunAny Go.Proofs.Try.prog (Ret fun v w' => v = .bool r ∧ Mem w w' []) 6 (rest1 (pl Go.Proofs.Try.f6 [1, 1, 1, 0])) 125 (opsOf (pl Go.Proofs.Try.f6 [1, 1, 1, 0])) (Still W381 []) 6 [0, 2, 3, 4, 5, 6, 9, 10, 11, 12, 13, 16, 1, 7, 8, 14] [(0, .slice Ap0 a0.length cp0), (22, .slice Ap0 a0.length cp0), (29, .slice A33 ((([] : List Int) ++ ((a0.take (mn (a0.length : Int) 4 : Int).toNat).drop (0 : Int).toNat)).length) c35), (36, .slice A138 ((([] : List Int) ++ ((a0.take (mn (a0.length : Int) 8 : Int).toNat).drop (0 : Int).toNat)).length) c140), (38, .slice Ap0 a0.length cp0)] W381 := by
                      intro A33 c35 A138 c140 W381 hS hM 
                      refine RunAny.all [15, 18] (by kernel_rfl) (by simp) ?_
                      refine ⟨?_, ?_, trivial⟩
                      · refine Stepped.new2 15 5 1 0 (nums .u8 []) (d := some 37) (k2 := [.inRegion (opsOf (pl Go.Proofs.Try.f6 [1, 1, 1, 0])) []]) hM (by simp [nums, bools, strs]) (by kernel_rfl) (by kernel_rfl) hS ?_
                        intro g382 W383 hN_ hS hM
                        have hNew_ : ∀ b_, blk (.slice (some ⟨g382, 0, none⟩) 0 0) = some b_ → W381.heap.size ≤ b_ := fun b_ hb_ => by injection hb_ with hb_; subst hb_; exact hN_
                        refine RunAny.rebase3 (G2 := [.slice (some ⟨g382, 0, none⟩) 0 0]) hS (by intro v_ hv_ b_ hb_; simp only [List.mem_cons, List.not_mem_nil, or_false] at hv_; subst hv_; exact .inr (hNew_ b_ hb_)) ?_
                        replace hS := Still.refl W383 [.slice (some ⟨g382, 0, none⟩) 0 0]
                        exact RunAny.same [0, 2, 3, 4, 5, 6, 9, 10, 11, 12, 13, 16, 1, 7, 8, 14, 15] (by kernel_rfl) [0, 22, 29, 36, 37, 38] (by kernel_rfl) (J334 A33 c35 A138 c140 g382 _ hS (hM.pick [1, 2, 0] rfl rfl))
                      · refine Stepped.new 18 5 1 4 (nums .u8 [1, 2, 3, 4]) (d := some 40) (k2 := [.inRegion (opsOf (pl Go.Proofs.Try.f6 [1, 1, 1, 0])) []]) hM (by simp [nums, bools, strs]) (by kernel_rfl) (by kernel_rfl) hS ?_
                        intro g385 W386 hS hM
                        refine RunAny.rebase hS ?_
                        replace hS := Still.refl W386 []
                        exact RunAny.same [0, 2, 3, 4, 5, 6, 9, 10, 11, 12, 13, 16, 1, 7, 8, 14, 18] (by kernel_rfl) [0, 22, 29, 36, 38, 40] (by kernel_rfl) (J329 A33 c35 A138 c140 g385 _ hS (hM.pick [1, 2, 0] rfl rfl))
                    have J388 : ∀ (g24 : Nat) (g51 : Nat) (g123 : Nat) (W389 : World) (hS : Still W389 [.slice (some ⟨g24, 0, none⟩) 0 0, .slice (some ⟨g51, 0, none⟩) 0 0] W389) (hM : Mem w W389 [⟨.slice (some ⟨g24, 0, none⟩) 0 0, 5, 1, nums .u8 []⟩, ⟨.slice (some ⟨g51, 0, none⟩) 0 0, 5, 1, nums .u8 []⟩, ⟨.slice (some ⟨g123, 0, none⟩) 4 4, 5, 1, nums .u8 [1, 2, 3, 4]⟩]) , RunAny Go.Proofs.Try.prog (Ret fun v w' => v = .bool r ∧ Mem w w' []) 6 (rest1 (pl Go.Proofs.Try.f6 [1, 1, 1, 0])) 125 (opsOf (pl Go.Proofs.Try.f6 [1, 1, 1, 0])) (Still W389 [.slice (some ⟨g24, 0, none⟩) 0 0, .slice (some ⟨g51, 0, none⟩) 0 0]) 7 [0, 2, 3, 4, 5, 6, 9, 10, 11, 12, 13, 16, 8, 15, 18] [(0, .slice Ap0 a0.length cp0), (22, .slice Ap0 a0.length cp0), (28, .slice A9 (((a0.take (mn (a0.length : Int) 4 : Int).toNat).drop (0 : Int).toNat).length) c11), (30, .slice (some ⟨g24, 0, none⟩) 0 0), (35, .slice A16 (((a0.take (mn (a0.length : Int) 8 : Int).toNat).drop (0 : Int).toNat).length) c18), (37, .slice (some ⟨g51, 0, none⟩) 0 0), (38, .slice Ap0 a0.length cp0), (40, .slice (some ⟨g123, 0, none⟩) 4 4)] W389 := by
                      intro g24 g51 g123 W389 hS hM 
                      refine RunAny.new2 1 5 1 0 (nums .u8 []) (d := some 23) (k2 := [.inRegion (opsOf (pl Go.Proofs.Try.f6 [1, 1, 1, 0])) []]) (by kernel_rfl) hM (by simp [nums, bools, strs]) (by kernel_rfl) (by kernel_rfl) hS ?_
                      intro g390 W391 hN_ hS hM
                      have hNew_ : ∀ b_, blk (.slice (some ⟨g390, 0, none⟩) 0 0) = some b_ → W389.heap.size ≤ b_ := fun b_ hb_ => by injection hb_ with hb_; subst hb_; exact hN_
                      refine RunAny.rebase3 (G2 := [.slice (some ⟨g390, 0, none⟩) 0 0, .slice (some ⟨g24, 0, none⟩) 0 0, .slice (some ⟨g51, 0, none⟩) 0 0]) hS (by intro v_ hv_ b_ hb_; simp only [List.mem_cons, List.not_mem_nil, or_false] at hv_; rcases hv_ with rfl | rfl | rfl; exact .inr (hNew_ b_ hb_); exact .inl ⟨_, by simp, hb_⟩; exact .inl ⟨_, by simp, hb_⟩) ?_
                      replace hS := Still.refl W391 [.slice (some ⟨g390, 0, none⟩) 0 0, .slice (some ⟨g24, 0, none⟩) 0 0, .slice (some ⟨g51, 0, none⟩) 0 0]
                      exact RunAny.same [0, 2, 3, 4, 5, 6, 9, 10, 11, 12, 13, 16, 1, 8, 15, 18] (by kernel_rfl) [0, 22, 23, 28, 30, 35, 37, 38, 40] (by kernel_rfl) (J345 g390 g24 g51 g123 _ hS (hM.pick [0, 1, 2, 3] rfl rfl))
                    have J393 : ∀ (g21 : Nat) (g42 : Nat) (g105 : Nat) (W394 : World) (hS : Still W394 [.slice (some ⟨g21, 0, none⟩) 0 0, .slice (some ⟨g42, 0, none⟩) 0 0] W394) (hM : Mem w W394 [⟨.slice (some ⟨g21, 0, none⟩) 0 0, 5, 1, nums .u8 []⟩, ⟨.slice (some ⟨g42, 0, none⟩) 0 0, 5, 1, nums .u8 []⟩, ⟨.slice (some ⟨g105, 0, none⟩) 4 4, 5, 1, nums .u8 [1, 2, 3, 4]⟩]) , RunAny Go.Proofs.Try.prog (Ret fun v w' => v = .bool r ∧ Mem w w' []) 6 (rest1 (pl Go.Proofs.Try.f6 [1, 1, 1, 0])) 125 (opsOf (pl Go.Proofs.Try.f6 [1, 1, 1, 0])) (Still W394 [.slice (some ⟨g21, 0, none⟩) 0 0, .slice (some ⟨g42, 0, none⟩) 0 0]) 7 [0, 2, 3, 4, 5, 6, 9, 10, 11, 12, 13, 16, 1, 15, 18] [(0, .slice Ap0 a0.length cp0), (22, .slice Ap0 a0.length cp0), (23, .slice (some ⟨g21, 0, none⟩) 0 0), (28, .slice A9 (((a0.take (mn (a0.length : Int) 4 : Int).toNat).drop (0 : Int).toNat).length) c11), (35, .slice A16 (((a0.take (mn (a0.length : Int) 8 : Int).toNat).drop (0 : Int).toNat).length) c18), (37, .slice (some ⟨g42, 0, none⟩) 0 0), (38, .slice Ap0 a0.length cp0), (40, .slice (some ⟨g105, 0, none⟩) 4 4)] W394 := by
                      intro g21 g42 g105 W394 hS hM 
                      refine RunAny.all [7, 8] (by kernel_rfl) (by simp) ?_
                      refine ⟨?_, ?_, trivial⟩
                      · have h_ := of_decide_eq_true c252
                        obtain ⟨A395, n396, c397, W398, hD, hM', hS_⟩ := app_does (P := Go.Proofs.Try.prog) (n := 125) (k := (one (opsOf (pl Go.Proofs.Try.f6 [1, 1, 1, 0])) 7)) (L := [(0, .slice Ap0 a0.length cp0), (22, .slice Ap0 a0.length cp0), (23, .slice (some ⟨g21, 0, none⟩) 0 0), (28, .slice A9 (((a0.take (mn (a0.length : Int) 4 : Int).toNat).drop (0 : Int).toNat).length) c11), (35, .slice A16 (((a0.take (mn (a0.length : Int) 8 : Int).toNat).drop (0 : Int).toNat).length) c18), (37, .slice (some ⟨g42, 0, none⟩) 0 0), (38, .slice Ap0 a0.length cp0), (40, .slice (some ⟨g105, 0, none⟩) 4 4)]) (d := some 29) (e := 5) (A := (some ⟨g21, 0, none⟩)) (m := 0) (c := 0) (A2 := A9) (m2 := ((a0.take (mn (a0.length : Int) 4 : Int).toNat).drop (0 : Int).toNat).length) (c2 := c11) (cs := nums .u8 ([] : List Int)) (ys := nums .u8 ((a0.take (mn (a0.length : Int) 4 : Int).toNat).drop (0 : Int).toNat)) (k2 := [.inRegion (opsOf (pl Go.Proofs.Try.f6 [1, 1, 1, 0])) []]) [] [⟨.slice (some ⟨g42, 0, none⟩) 0 0, 5, 1, nums .u8 []⟩, ⟨.slice (some ⟨g105, 0, none⟩) 4 4, 5, 1, nums .u8 [1, 2, 3, 4]⟩] (by kernel_rfl) (hM.pick [0, 1, 2] rfl rfl) (hs13 _ (hr0.mono hM.below)) (one_nums _ _) (by omega)
                        rw [nums_append] at hM'
                        replace hM := hM'; clear h_ hM'
                        obtain rfl : (([] : List Int) ++ ((a0.take (mn (a0.length : Int) 4 : Int).toNat).drop (0 : Int).toNat)).length = n396 := by have h_ := (hM.rd 0 rfl).1; simpa only [nums_length, bools_length, strs_length] using h_
                        refine Stepped.does 7 hD (hS.app hS_ (by simp)) ?_
                        clear hD
                        replace hS := (hS.app hS_ (by simp)); clear hS_
                        refine RunAny.rebase3 (G2 := [.slice (some ⟨g42, 0, none⟩) 0 0]) hS (by intro v_ hv_ b_ hb_; simp only [List.mem_cons, List.not_mem_nil, or_false] at hv_; subst hv_; exact .inl ⟨_, by simp, hb_⟩) ?_
                        replace hS := Still.refl W398 [.slice (some ⟨g42, 0, none⟩) 0 0]
                        exact RunAny.same [0, 2, 3, 4, 5, 6, 9, 10, 11, 12, 13, 16, 1, 7, 15, 18] (by kernel_rfl) [0, 22, 29, 35, 37, 38, 40] (by kernel_rfl) (J353 A395 c397 g42 g105 _ hS (hM.pick [0, 1, 2] rfl rfl))
                      · refine Stepped.new2 8 5 1 0 (nums .u8 []) (d := some 30) (k2 := [.inRegion (opsOf (pl Go.Proofs.Try.f6 [1, 1, 1, 0])) []]) hM (by simp [nums, bools, strs]) (by kernel_rfl) (by kernel_rfl) hS ?_
                        intro g401 W402 hN_ hS hM
                        have hNew_ : ∀ b_, blk (.slice (some ⟨g401, 0, none⟩) 0 0) = some b_ → W394.heap.size ≤ b_ := fun b_ hb_ => by injection hb_ with hb_; subst hb_; exact hN_
                        refine RunAny.rebase3 (G2 := [.slice (some ⟨g21, 0, none⟩) 0 0, .slice (some ⟨g401, 0, none⟩) 0 0, .slice (some ⟨g42, 0, none⟩) 0 0]) hS (by intro v_ hv_ b_ hb_; simp only [List.mem_cons, List.not_mem_nil, or_false] at hv_; rcases hv_ with rfl | rfl | rfl; exact .inl ⟨_, by simp, hb_⟩; exact .inr (hNew_ b_ hb_); exact .inl ⟨_, by simp, hb_⟩) ?_
                        replace hS := Still.refl W402 [.slice (some ⟨g21, 0, none⟩) 0 0, .slice (some ⟨g401, 0, none⟩) 0 0, .slice (some ⟨g42, 0, none⟩) 0 0]
                        exact RunAny.same [0, 2, 3, 4, 5, 6, 9, 10, 11, 12, 13, 16, 1, 8, 15, 18] (by kernel_rfl) [0, 22, 23, 28, 30, 35, 37, 38, 40] (by kernel_rfl) (J345 g21 g401 g42 g105 _ hS (hM.pick [1, 0, 2, 3] rfl rfl))
                    have J404 : ∀ (g21 : Nat) (g39 : Nat) (g93 : Nat) (W405 : World) (hS : Still W405 [.slice (some ⟨g21, 0, none⟩) 0 0, .slice (some ⟨g39, 0, none⟩) 0 0] W405) (hM : Mem w W405 [⟨.slice (some ⟨g21, 0, none⟩) 0 0, 5, 1, nums .u8 []⟩, ⟨.slice (some ⟨g39, 0, none⟩) 0 0, 5, 1, nums .u8 []⟩, ⟨.slice (some ⟨g93, 0, none⟩) 4 4, 5, 1, nums .u8 [1, 2, 3, 4]⟩]) , RunAny Go.Proofs.Try.prog (Ret fun v w' => v = .bool r ∧ Mem w w' []) 6 (rest1 (pl Go.Proofs.Try.f6 [1, 1, 1, 0])) 125 (opsOf (pl Go.Proofs.Try.f6 [1, 1, 1, 0])) (Still W405 [.slice (some ⟨g21, 0, none⟩) 0 0, .slice (some ⟨g39, 0, none⟩) 0 0]) 7 [0, 2, 3, 4, 5, 6, 9, 10, 11, 12, 13, 16, 1, 8, 18] [(0, .slice Ap0 a0.length cp0), (22, .slice Ap0 a0.length cp0), (23, .slice (some ⟨g21, 0, none⟩) 0 0), (28, .slice A9 (((a0.take (mn (a0.length : Int) 4 : Int).toNat).drop (0 : Int).toNat).length) c11), (30, .slice (some ⟨g39, 0, none⟩) 0 0), (35, .slice A16 (((a0.take (mn (a0.length : Int) 8 : Int).toNat).drop (0 : Int).toNat).length) c18), (38, .slice Ap0 a0.length cp0), (40, .slice (some ⟨g93, 0, none⟩) 4 4)] W405 := by
                      intro g21 g39 g93 W405 hS hM 
                      refine RunAny.all [7, 15] (by kernel_rfl) (by simp) ?_
                      refine ⟨?_, ?_, trivial⟩
                      · have h_ := of_decide_eq_true c252
                        obtain ⟨A406, n407, c408, W409, hD, hM', hS_⟩ := app_does (P := Go.Proofs.Try.prog) (n := 125) (k := (one (opsOf (pl Go.Proofs.Try.f6 [1, 1, 1, 0])) 7)) (L := [(0, .slice Ap0 a0.length cp0), (22, .slice Ap0 a0.length cp0), (23, .slice (some ⟨g21, 0, none⟩) 0 0), (28, .slice A9 (((a0.take (mn (a0.length : Int) 4 : Int).toNat).drop (0 : Int).toNat).length) c11), (30, .slice (some ⟨g39, 0, none⟩) 0 0), (35, .slice A16 (((a0.take (mn (a0.length : Int) 8 : Int).toNat).drop (0 : Int).toNat).length) c18), (38, .slice Ap0 a0.length cp0), (40, .slice (some ⟨g93, 0, none⟩) 4 4)]) (d := some 29) (e := 5) (A := (some ⟨g21, 0, none⟩)) (m := 0) (c := 0) (A2 := A9) (m2 := ((a0.take (mn (a0.length : Int) 4 : Int).toNat).drop (0 : Int).toNat).length) (c2 := c11) (cs := nums .u8 ([] : List Int)) (ys := nums .u8 ((a0.take (mn (a0.length : Int) 4 : Int).toNat).drop (0 : Int).toNat)) (k2 := [.inRegion (opsOf (pl Go.Proofs.Try.f6 [1, 1, 1, 0])) []]) [] [⟨.slice (some ⟨g39, 0, none⟩) 0 0, 5, 1, nums .u8 []⟩, ⟨.slice (some ⟨g93, 0, none⟩) 4 4, 5, 1, nums .u8 [1, 2, 3, 4]⟩] (by kernel_rfl) (hM.pick [0, 1, 2] rfl rfl) (hs13 _ (hr0.mono hM.below)) (one_nums _ _) (by omega)
                        rw [nums_append] at hM'
                        replace hM := hM'; clear h_ hM'
                        obtain rfl : (([] : List Int) ++ ((a0.take (mn (a0.length : Int) 4 : Int).toNat).drop (0 : Int).toNat)).length = n407 := by have h_ := (hM.rd 0 rfl).1; simpa only [nums_length, bools_length, strs_length] using h_
                        refine Stepped.does 7 hD (hS.app hS_ (by simp)) ?_
                        clear hD
                        replace hS := (hS.app hS_ (by simp)); clear hS_
                        refine RunAny.rebase3 (G2 := [.slice (some ⟨g39, 0, none⟩) 0 0]) hS (by intro v_ hv_ b_ hb_; simp only [List.mem_cons, List.not_mem_nil, or_false] at hv_; subst hv_; exact .inl ⟨_, by simp, hb_⟩) ?_
                        replace hS := Still.refl W409 [.slice (some ⟨g39, 0, none⟩) 0 0]
                        exact RunAny.same [0, 2, 3, 4, 5, 6, 9, 10, 11, 12, 13, 16, 1, 7, 8, 18] (by kernel_rfl) [0, 22, 29, 30, 35, 38, 40] (by kernel_rfl) (J358 A406 c408 g39 g93 _ hS (hM.pick [0, 1, 2] rfl rfl))
                      · refine Stepped.new2 15 5 1 0 (nums .u8 []) (d := some 37) (k2 := [.inRegion (opsOf (pl Go.Proofs.Try.f6 [1, 1, 1, 0])) []]) hM (by simp [nums, bools, strs]) (by kernel_rfl) (by kernel_rfl) hS ?_
                        intro g412 W413 hN_ hS hM
                        have hNew_ : ∀ b_, blk (.slice (some ⟨g412, 0, none⟩) 0 0) = some b_ → W405.heap.size ≤ b_ := fun b_ hb_ => by injection hb_ with hb_; subst hb_; exact hN_
                        refine RunAny.rebase3 (G2 := [.slice (some ⟨g21, 0, none⟩) 0 0, .slice (some ⟨g39, 0, none⟩) 0 0, .slice (some ⟨g412, 0, none⟩) 0 0]) hS (by intro v_ hv_ b_ hb_; simp only [List.mem_cons, List.not_mem_nil, or_false] at hv_; rcases hv_ with rfl | rfl | rfl; exact .inl ⟨_, by simp, hb_⟩; exact .inl ⟨_, by simp, hb_⟩; exact .inr (hNew_ b_ hb_)) ?_
                        replace hS := Still.refl W413 [.slice (some ⟨g21, 0, none⟩) 0 0, .slice (some ⟨g39, 0, none⟩) 0 0, .slice (some ⟨g412, 0, none⟩) 0 0]
                        exact RunAny.same [0, 2, 3, 4, 5, 6, 9, 10, 11, 12, 13, 16, 1, 8, 15, 18] (by kernel_rfl) [0, 22, 23, 28, 30, 35, 37, 38, 40] (by kernel_rfl) (J345 g21 g39 g412 g93 _ hS (hM.pick [1, 2, 0, 3] rfl rfl))
                    have J415 : ∀ (g21 : Nat) (g39 : Nat) (g90 : Nat) (W416 : World) (hS : Still W416 [.slice (some ⟨g21, 0, none⟩) 0 0, .slice (some ⟨g39, 0, none⟩) 0 0, .slice (some ⟨g90, 0, none⟩) 0 0] W416) (hM : Mem w W416 [⟨.slice (some ⟨g21, 0, none⟩) 0 0, 5, 1, nums .u8 []⟩, ⟨.slice (some ⟨g39, 0, none⟩) 0 0, 5, 1, nums .u8 []⟩, ⟨.slice (some ⟨g90, 0, none⟩) 0 0, 5, 1, nums .u8 []⟩]) , RunAny Go.Proofs.Try.prog (Ret fun v w' => v = .bool r ∧ Mem w w' []) 6 (rest1 (pl Go.Proofs.Try.f6 [1, 1, 1, 0])) 125 (opsOf (pl Go.Proofs.Try.f6 [1, 1, 1, 0])) (Still W416 [.slice (some ⟨g21, 0, none⟩) 0 0, .slice (some ⟨g39, 0, none⟩) 0 0, .slice (some ⟨g90, 0, none⟩) 0 0]) 7 [0, 2, 3, 4, 5, 6, 9, 10, 11, 12, 13, 16, 1, 8, 15] [(0, .slice Ap0 a0.length cp0), (22, .slice Ap0 a0.length cp0), (23, .slice (some ⟨g21, 0, none⟩) 0 0), (28, .slice A9 (((a0.take (mn (a0.length : Int) 4 : Int).toNat).drop (0 : Int).toNat).length) c11), (30, .slice (some ⟨g39, 0, none⟩) 0 0), (35, .slice A16 (((a0.take (mn (a0.length : Int) 8 : Int).toNat).drop (0 : Int).toNat).length) c18), (37, .slice (some ⟨g90, 0, none⟩) 0 0), (38, .slice Ap0 a0.length cp0)] W416 := by
                      intro g21 g39 g90 W416 hS hM 
                      refine RunAny.all [7, 18] (by kernel_rfl) (by simp) ?_
                      refine ⟨?_, ?_, trivial⟩
                      · have h_ := of_decide_eq_true c252
                        obtain ⟨A417, n418, c419, W420, hD, hM', hS_⟩ := app_does (P := Go.Proofs.Try.prog) (n := 125) (k := (one (opsOf (pl Go.Proofs.Try.f6 [1, 1, 1, 0])) 7)) (L := [(0, .slice Ap0 a0.length cp0), (22, .slice Ap0 a0.length cp0), (23, .slice (some ⟨g21, 0, none⟩) 0 0), (28, .slice A9 (((a0.take (mn (a0.length : Int) 4 : Int).toNat).drop (0 : Int).toNat).length) c11), (30, .slice (some ⟨g39, 0, none⟩) 0 0), (35, .slice A16 (((a0.take (mn (a0.length : Int) 8 : Int).toNat).drop (0 : Int).toNat).length) c18), (37, .slice (some ⟨g90, 0, none⟩) 0 0), (38, .slice Ap0 a0.length cp0)]) (d := some 29) (e := 5) (A := (some ⟨g21, 0, none⟩)) (m := 0) (c := 0) (A2 := A9) (m2 := ((a0.take (mn (a0.length : Int) 4 : Int).toNat).drop (0 : Int).toNat).length) (c2 := c11) (cs := nums .u8 ([] : List Int)) (ys := nums .u8 ((a0.take (mn (a0.length : Int) 4 : Int).toNat).drop (0 : Int).toNat)) (k2 := [.inRegion (opsOf (pl Go.Proofs.Try.f6 [1, 1, 1, 0])) []]) [] [⟨.slice (some ⟨g39, 0, none⟩) 0 0, 5, 1, nums .u8 []⟩, ⟨.slice (some ⟨g90, 0, none⟩) 0 0, 5, 1, nums .u8 []⟩] (by kernel_rfl) (hM.pick [0, 1, 2] rfl rfl) (hs13 _ (hr0.mono hM.below)) (one_nums _ _) (by omega)
                        rw [nums_append] at hM'
                        replace hM := hM'; clear h_ hM'
                        obtain rfl : (([] : List Int) ++ ((a0.take (mn (a0.length : Int) 4 : Int).toNat).drop (0 : Int).toNat)).length = n418 := by have h_ := (hM.rd 0 rfl).1; simpa only [nums_length, bools_length, strs_length] using h_
                        refine Stepped.does 7 hD (hS.app hS_ (by simp)) ?_
                        clear hD
                        replace hS := (hS.app hS_ (by simp)); clear hS_
                        refine RunAny.rebase3 (G2 := [.slice (some ⟨g39, 0, none⟩) 0 0, .slice (some ⟨g90, 0, none⟩) 0 0]) hS (by intro v_ hv_ b_ hb_; simp only [List.mem_cons, List.not_mem_nil, or_false] at hv_; rcases hv_ with rfl | rfl; exact .inl ⟨_, by simp, hb_⟩; exact .inl ⟨_, by simp, hb_⟩) ?_
                        replace hS := Still.refl W420 [.slice (some ⟨g39, 0, none⟩) 0 0, .slice (some ⟨g90, 0, none⟩) 0 0]
                        exact RunAny.same [0, 2, 3, 4, 5, 6, 9, 10, 11, 12, 13, 16, 1, 7, 8, 15] (by kernel_rfl) [0, 22, 29, 30, 35, 37, 38] (by kernel_rfl) (J369 A417 c419 g39 g90 _ hS (hM.pick [0, 1, 2] rfl rfl))
                      · refine Stepped.new 18 5 1 4 (nums .u8 [1, 2, 3, 4]) (d := some 40) (k2 := [.inRegion (opsOf (pl Go.Proofs.Try.f6 [1, 1, 1, 0])) []]) hM (by simp [nums, bools, strs]) (by kernel_rfl) (by kernel_rfl) hS ?_
                        intro g423 W424 hS hM
                        refine RunAny.rebase hS ?_
                        replace hS := Still.refl W424 [.slice (some ⟨g21, 0, none⟩) 0 0, .slice (some ⟨g39, 0, none⟩) 0 0, .slice (some ⟨g90, 0, none⟩) 0 0]
                        exact RunAny.same [0, 2, 3, 4, 5, 6, 9, 10, 11, 12, 13, 16, 1, 8, 15, 18] (by kernel_rfl) [0, 22, 23, 28, 30, 35, 37, 38, 40] (by kernel_rfl) (J345 g21 g39 g90 g423 _ hS (hM.pick [1, 2, 3, 0] rfl rfl))
                    have J426 : ∀ (A33 : Option Addr) (c35 : Nat) (g81 : Nat) (W427 : World) (hS : Still W427 [] W427) (hM : Mem w W427 [⟨.slice A33 ((([] : List Int) ++ ((a0.take (mn (a0.length : Int) 4 : Int).toNat).drop (0 : Int).toNat)).length) c35, 5, 1, nums .u8 (([] : List Int) ++ ((a0.take (mn (a0.length : Int) 4 : Int).toNat).drop (0 : Int).toNat))⟩, ⟨.slice (some ⟨g81, 0, none⟩) 4 4, 5, 1, nums .u8 [1, 2, 3, 4]⟩]) , RunAny Go.Proofs.Try.prog (Ret fun v w' => v = .bool r ∧ Mem w w' []) 6 (rest1 (pl Go.Proofs.Try.f6 [1, 1, 1, 0])) 125 (opsOf (pl Go.Proofs.Try.f6 [1, 1, 1, 0])) (Still W427 []) 7 [0, 2, 3, 4, 5, 6, 9, 10, 11, 12, 13, 16, 1, 7, 18] [(0, .slice Ap0 a0.length cp0), (22, .slice Ap0 a0.length cp0), (29, .slice A33 ((([] : List Int) ++ ((a0.take (mn (a0.length : Int) 4 : Int).toNat).drop (0 : Int).toNat)).length) c35), (35, .slice A16 (((a0.take (mn (a0.length : Int) 8 : Int).toNat).drop (0 : Int).toNat).length) c18), (38, .slice Ap0 a0.length cp0), (40, .slice (some ⟨g81, 0, none⟩) 4 4)] W427 := by
                      intro A33 c35 g81 W427 hS hM 
                      refine RunAny.all [8, 15] (by kernel_rfl) (by simp) ?_
                      refine ⟨?_, ?_, trivial⟩
                      · refine Stepped.new2 8 5 1 0 (nums .u8 []) (d := some 30) (k2 := [.inRegion (opsOf (pl Go.Proofs.Try.f6 [1, 1, 1, 0])) []]) hM (by simp [nums, bools, strs]) (by kernel_rfl) (by kernel_rfl) hS ?_
                        intro g428 W429 hN_ hS hM
                        have hNew_ : ∀ b_, blk (.slice (some ⟨g428, 0, none⟩) 0 0) = some b_ → W427.heap.size ≤ b_ := fun b_ hb_ => by injection hb_ with hb_; subst hb_; exact hN_
                        refine RunAny.rebase3 (G2 := [.slice (some ⟨g428, 0, none⟩) 0 0]) hS (by intro v_ hv_ b_ hb_; simp only [List.mem_cons, List.not_mem_nil, or_false] at hv_; subst hv_; exact .inr (hNew_ b_ hb_)) ?_
                        replace hS := Still.refl W429 [.slice (some ⟨g428, 0, none⟩) 0 0]
                        exact RunAny.same [0, 2, 3, 4, 5, 6, 9, 10, 11, 12, 13, 16, 1, 7, 8, 18] (by kernel_rfl) [0, 22, 29, 30, 35, 38, 40] (by kernel_rfl) (J358 A33 c35 g428 g81 _ hS (hM.pick [1, 0, 2] rfl rfl))
                      · refine Stepped.new2 15 5 1 0 (nums .u8 []) (d := some 37) (k2 := [.inRegion (opsOf (pl Go.Proofs.Try.f6 [1, 1, 1, 0])) []]) hM (by simp [nums, bools, strs]) (by kernel_rfl) (by kernel_rfl) hS ?_
                        intro g431 W432 hN_ hS hM
                        have hNew_ : ∀ b_, blk (.slice (some ⟨g431, 0, none⟩) 0 0) = some b_ → W427.heap.size ≤ b_ := fun b_ hb_ => by injection hb_ with hb_; subst hb_; exact hN_
                        refine RunAny.rebase3 (G2 := [.slice (some ⟨g431, 0, none⟩) 0 0]) hS (by intro v_ hv_ b_ hb_; simp only [List.mem_cons, List.not_mem_nil, or_false] at hv_; subst hv_; exact .inr (hNew_ b_ hb_)) ?_
                        replace hS := Still.refl W432 [.slice (some ⟨g431, 0, none⟩) 0 0]
                        exact RunAny.same [0, 2, 3, 4, 5, 6, 9, 10, 11, 12, 13, 16, 1, 7, 15, 18] (by kernel_rfl) [0, 22, 29, 35, 37, 38, 40] (by kernel_rfl) (J353 A33 c35 g431 g81 _ hS (hM.pick [1, 0, 2] rfl rfl))
                    have J434 : ∀ (A33 : Option Addr) (c35 : Nat) (g78 : Nat) (W435 : World) (hS : Still W435 [.slice (some ⟨g78, 0, none⟩) 0 0] W435) (hM : Mem w W435 [⟨.slice A33 ((([] : List Int) ++ ((a0.take (mn (a0.length : Int) 4 : Int).toNat).drop (0 : Int).toNat)).length) c35, 5, 1, nums .u8 (([] : List Int) ++ ((a0.take (mn (a0.length : Int) 4 : Int).toNat).drop (0 : Int).toNat))⟩, ⟨.slice (some ⟨g78, 0, none⟩) 0 0, 5, 1, nums .u8 []⟩]) , RunAny Go.Proofs.Try.prog (Ret fun v w' => v = .bool r ∧ Mem w w' []) 6 (rest1 (pl Go.Proofs.Try.f6 [1, 1, 1, 0])) 125 (opsOf (pl Go.Proofs.Try.f6 [1, 1, 1, 0])) (Still W435 [.slice (some ⟨g78, 0, none⟩) 0 0]) 7 [0, 2, 3, 4, 5, 6, 9, 10, 11, 12, 13, 16, 1, 7, 15] [(0, .slice Ap0 a0.length cp0), (22, .slice Ap0 a0.length cp0), (29, .slice A33 ((([] : List Int) ++ ((a0.take (mn (a0.length : Int) 4 : Int).toNat).drop (0 : Int).toNat)).length) c35), (35, .slice A16 (((a0.take (mn (a0.length : Int) 8 : Int).toNat).drop (0 : Int).toNat).length) c18), (37, .slice (some ⟨g78, 0, none⟩) 0 0), (38, .slice Ap0 a0.length cp0)] W435 := by
                      intro A33 c35 g78 W435 hS hM 
                      refine RunAny.all [8, 18] (by kernel_rfl) (by simp) ?_
                      refine ⟨?_, ?_, trivial⟩
                      · refine Stepped.new2 8 5 1 0 (nums .u8 []) (d := some 30) (k2 := [.inRegion (opsOf (pl Go.Proofs.Try.f6 [1, 1, 1, 0])) []]) hM (by simp [nums, bools, strs]) (by kernel_rfl) (by kernel_rfl) hS ?_
                        intro g436 W437 hN_ hS hM
                        have hNew_ : ∀ b_, blk (.slice (some ⟨g436, 0, none⟩) 0 0) = some b_ → W435.heap.size ≤ b_ := fun b_ hb_ => by injection hb_ with hb_; subst hb_; exact hN_
                        refine RunAny.rebase3 (G2 := [.slice (some ⟨g436, 0, none⟩) 0 0, .slice (some ⟨g78, 0, none⟩) 0 0]) hS (by intro v_ hv_ b_ hb_; simp only [List.mem_cons, List.not_mem_nil, or_false] at hv_; rcases hv_ with rfl | rfl; exact .inr (hNew_ b_ hb_); exact .inl ⟨_, by simp, hb_⟩) ?_
                        replace hS := Still.refl W437 [.slice (some ⟨g436, 0, none⟩) 0 0, .slice (some ⟨g78, 0, none⟩) 0 0]
                        exact RunAny.same [0, 2, 3, 4, 5, 6, 9, 10, 11, 12, 13, 16, 1, 7, 8, 15] (by kernel_rfl) [0, 22, 29, 30, 35, 37, 38] (by kernel_rfl) (J369 A33 c35 g436 g78 _ hS (hM.pick [1, 0, 2] rfl rfl))
                      · refine Stepped.new 18 5 1 4 (nums .u8 [1, 2, 3, 4]) (d := some 40) (k2 := [.inRegion (opsOf (pl Go.Proofs.Try.f6 [1, 1, 1, 0])) []]) hM (by simp [nums, bools, strs]) (by kernel_rfl) (by kernel_rfl) hS ?_
                        intro g439 W440 hS hM
                        refine RunAny.rebase hS ?_
                        replace hS := Still.refl W440 [.slice (some ⟨g78, 0, none⟩) 0 0]
                        exact RunAny.same [0, 2, 3, 4, 5, 6, 9, 10, 11, 12, 13, 16, 1, 7, 15, 18] (by kernel_rfl) [0, 22, 29, 35, 37, 38, 40] (by kernel_rfl) (J353 A33 c35 g78 g439 _ hS (hM.pick [1, 2, 0] rfl rfl))
                    have J442 : ∀ (A33 : Option Addr) (c35 : Nat) (g75 : Nat) (W443 : World) (hS : Still W443 [.slice (some ⟨g75, 0, none⟩) 0 0] W443) (hM : Mem w W443 [⟨.slice A33 ((([] : List Int) ++ ((a0.take (mn (a0.length : Int) 4 : Int).toNat).drop (0 : Int).toNat)).length) c35, 5, 1, nums .u8 (([] : List Int) ++ ((a0.take (mn (a0.length : Int) 4 : Int).toNat).drop (0 : Int).toNat))⟩, ⟨.slice (some ⟨g75, 0, none⟩) 0 0, 5, 1, nums .u8 []⟩]) , RunAny Go.Proofs.Try.prog (Ret fun v w' => v = .bool r ∧ Mem w w' []) 6 (rest1 (pl Go.Proofs.Try.f6 [1, 1, 1, 0])) 125 (opsOf (pl Go.Proofs.Try.f6 [1, 1, 1, 0])) (Still W443 [.slice (some ⟨g75, 0, none⟩) 0 0]) 7 [0, 2, 3, 4, 5, 6, 9, 10, 11, 12, 13, 16, 1, 7, 8] [(0, .slice Ap0 a0.length cp0), (22, .slice Ap0 a0.length cp0), (29, .slice A33 ((([] : List Int) ++ ((a0.take (mn (a0.length : Int) 4 : Int).toNat).drop (0 : Int).toNat)).length) c35), (30, .slice (some ⟨g75, 0, none⟩) 0 0), (35, .slice A16 (((a0.take (mn (a0.length : Int) 8 : Int).toNat).drop (0 : Int).toNat).length) c18), (38, .slice Ap0 a0.length cp0)] W443 := by
                      intro A33 c35 g75 W443 hS hM 
                      refine RunAny.all [14, 15, 18] (by kernel_rfl) (by simp) ?_
                      refine ⟨?_, ?_, ?_, trivial⟩
                      · have h_ := of_decide_eq_true c253
                        obtain ⟨A444, n445, c446, W447, hD, hM', hS_⟩ := app_does (P := Go.Proofs.Try.prog) (n := 125) (k := (one (opsOf (pl Go.Proofs.Try.f6 [1, 1, 1, 0])) 14)) (L := [(0, .slice Ap0 a0.length cp0), (22, .slice Ap0 a0.length cp0), (29, .slice A33 ((([] : List Int) ++ ((a0.take (mn (a0.length : Int) 4 : Int).toNat).drop (0 : Int).toNat)).length) c35), (30, .slice (some ⟨g75, 0, none⟩) 0 0), (35, .slice A16 (((a0.take (mn (a0.length : Int) 8 : Int).toNat).drop (0 : Int).toNat).length) c18), (38, .slice Ap0 a0.length cp0)]) (d := some 36) (e := 5) (A := (some ⟨g75, 0, none⟩)) (m := 0) (c := 0) (A2 := A16) (m2 := ((a0.take (mn (a0.length : Int) 8 : Int).toNat).drop (0 : Int).toNat).length) (c2 := c18) (cs := nums .u8 ([] : List Int)) (ys := nums .u8 ((a0.take (mn (a0.length : Int) 8 : Int).toNat).drop (0 : Int).toNat)) (k2 := [.inRegion (opsOf (pl Go.Proofs.Try.f6 [1, 1, 1, 0])) []]) [⟨.slice A33 ((([] : List Int) ++ ((a0.take (mn (a0.length : Int) 4 : Int).toNat).drop (0 : Int).toNat)).length) c35, 5, 1, nums .u8 (([] : List Int) ++ ((a0.take (mn (a0.length : Int) 4 : Int).toNat).drop (0 : Int).toNat))⟩] [] (by kernel_rfl) (hM.pick [0, 1] rfl rfl) (hs20 _ (hr0.mono hM.below)) (one_nums _ _) (by omega)
                        rw [nums_append] at hM'
                        replace hM := hM'; clear h_ hM'
                        obtain rfl : (([] : List Int) ++ ((a0.take (mn (a0.length : Int) 8 : Int).toNat).drop (0 : Int).toNat)).length = n445 := by have h_ := (hM.rd 1 rfl).1; simpa only [nums_length, bools_length, strs_length] using h_
                        refine Stepped.does 14 hD (hS.app hS_ (by simp)) ?_
                        clear hD
                        replace hS := (hS.app hS_ (by simp)); clear hS_
                        refine RunAny.rebase3 (G2 := []) hS (by intro v_ hv_ b_ hb_; simp only [List.mem_cons, List.not_mem_nil, or_false] at hv_) ?_
                        replace hS := Still.refl W447 []
                        exact RunAny.same [0, 2, 3, 4, 5, 6, 9, 10, 11, 12, 13, 16, 1, 7, 8, 14] (by kernel_rfl) [0, 22, 29, 36, 38] (by kernel_rfl) (J380 A33 c35 A444 c446 _ hS (hM.pick [0, 1] rfl rfl))
                      · refine Stepped.new2 15 5 1 0 (nums .u8 []) (d := some 37) (k2 := [.inRegion (opsOf (pl Go.Proofs.Try.f6 [1, 1, 1, 0])) []]) hM (by simp [nums, bools, strs]) (by kernel_rfl) (by kernel_rfl) hS ?_
                        intro g450 W451 hN_ hS hM
                        have hNew_ : ∀ b_, blk (.slice (some ⟨g450, 0, none⟩) 0 0) = some b_ → W443.heap.size ≤ b_ := fun b_ hb_ => by injection hb_ with hb_; subst hb_; exact hN_
                        refine RunAny.rebase3 (G2 := [.slice (some ⟨g75, 0, none⟩) 0 0, .slice (some ⟨g450, 0, none⟩) 0 0]) hS (by intro v_ hv_ b_ hb_; simp only [List.mem_cons, List.not_mem_nil, or_false] at hv_; rcases hv_ with rfl | rfl; exact .inl ⟨_, by simp, hb_⟩; exact .inr (hNew_ b_ hb_)) ?_
                        replace hS := Still.refl W451 [.slice (some ⟨g75, 0, none⟩) 0 0, .slice (some ⟨g450, 0, none⟩) 0 0]
                        exact RunAny.same [0, 2, 3, 4, 5, 6, 9, 10, 11, 12, 13, 16, 1, 7, 8, 15] (by kernel_rfl) [0, 22, 29, 30, 35, 37, 38] (by kernel_rfl) (J369 A33 c35 g75 g450 _ hS (hM.pick [1, 2, 0] rfl rfl))
                      · refine Stepped.new 18 5 1 4 (nums .u8 [1, 2, 3, 4]) (d := some 40) (k2 := [.inRegion (opsOf (pl Go.Proofs.Try.f6 [1, 1, 1, 0])) []]) hM (by simp [nums, bools, strs]) (by kernel_rfl) (by kernel_rfl) hS ?_
                        intro g453 W454 hS hM
                        refine RunAny.rebase hS ?_
                        replace hS := Still.refl W454 [.slice (some ⟨g75, 0, none⟩) 0 0]
                        exact RunAny.same [0, 2, 3, 4, 5, 6, 9, 10, 11, 12, 13, 16, 1, 7, 8, 18] (by kernel_rfl) [0, 22, 29, 30, 35, 38, 40] (by kernel_rfl) (J358 A33 c35 g75 g453 _ hS (hM.pick [1, 2, 0] rfl rfl))
                    have J456 : ∀ (g27 : Nat) (g63 : Nat) (W457 : World) (hS : Still W457 [.slice (some ⟨g27, 0, none⟩) 0 0] W457) (hM : Mem w W457 [⟨.slice (some ⟨g27, 0, none⟩) 0 0, 5, 1, nums .u8 []⟩, ⟨.slice (some ⟨g63, 0, none⟩) 4 4, 5, 1, nums .u8 [1, 2, 3, 4]⟩]) , RunAny Go.Proofs.Try.prog (Ret fun v w' => v = .bool r ∧ Mem w w' []) 6 (rest1 (pl Go.Proofs.Try.f6 [1, 1, 1, 0])) 125 (opsOf (pl Go.Proofs.Try.f6 [1, 1, 1, 0])) (Still W457 [.slice (some ⟨g27, 0, none⟩) 0 0]) 8 [0, 2, 3, 4, 5, 6, 9, 10, 11, 12, 13, 16, 15, 18] [(0, .slice Ap0 a0.length cp0), (22, .slice Ap0 a0.length cp0), (28, .slice A9 (((a0.take (mn (a0.length : Int) 4 : Int).toNat).drop (0 : Int).toNat).length) c11), (35, .slice A16 (((a0.take (mn (a0.length : Int) 8 : Int).toNat).drop (0 : Int).toNat).length) c18), (37, .slice (some ⟨g27, 0, none⟩) 0 0), (38, .slice Ap0 a0.length cp0), (40, .slice (some ⟨g63, 0, none⟩) 4 4)] W457 := by
                      intro g27 g63 W457 hS hM 
                      refine RunAny.all [1, 8] (by kernel_rfl) (by simp) ?_
                      refine ⟨?_, ?_, trivial⟩
                      · refine Stepped.new2 1 5 1 0 (nums .u8 []) (d := some 23) (k2 := [.inRegion (opsOf (pl Go.Proofs.Try.f6 [1, 1, 1, 0])) []]) hM (by simp [nums, bools, strs]) (by kernel_rfl) (by kernel_rfl) hS ?_
                        intro g458 W459 hN_ hS hM
                        have hNew_ : ∀ b_, blk (.slice (some ⟨g458, 0, none⟩) 0 0) = some b_ → W457.heap.size ≤ b_ := fun b_ hb_ => by injection hb_ with hb_; subst hb_; exact hN_
                        refine RunAny.rebase3 (G2 := [.slice (some ⟨g458, 0, none⟩) 0 0, .slice (some ⟨g27, 0, none⟩) 0 0]) hS (by intro v_ hv_ b_ hb_; simp only [List.mem_cons, List.not_mem_nil, or_false] at hv_; rcases hv_ with rfl | rfl; exact .inr (hNew_ b_ hb_); exact .inl ⟨_, by simp, hb_⟩) ?_
                        replace hS := Still.refl W459 [.slice (some ⟨g458, 0, none⟩) 0 0, .slice (some ⟨g27, 0, none⟩) 0 0]
                        exact RunAny.same [0, 2, 3, 4, 5, 6, 9, 10, 11, 12, 13, 16, 1, 15, 18] (by kernel_rfl) [0, 22, 23, 28, 35, 37, 38, 40] (by kernel_rfl) (J393 g458 g27 g63 _ hS (hM.pick [0, 1, 2] rfl rfl))
                      · refine Stepped.new2 8 5 1 0 (nums .u8 []) (d := some 30) (k2 := [.inRegion (opsOf (pl Go.Proofs.Try.f6 [1, 1, 1, 0])) []]) hM (by simp [nums, bools, strs]) (by kernel_rfl) (by kernel_rfl) hS ?_
                        intro g461 W462 hN_ hS hM
                        have hNew_ : ∀ b_, blk (.slice (some ⟨g461, 0, none⟩) 0 0) = some b_ → W457.heap.size ≤ b_ := fun b_ hb_ => by injection hb_ with hb_; subst hb_; exact hN_
                        refine RunAny.rebase3 (G2 := [.slice (some ⟨g461, 0, none⟩) 0 0, .slice (some ⟨g27, 0, none⟩) 0 0]) hS (by intro v_ hv_ b_ hb_; simp only [List.mem_cons, List.not_mem_nil, or_false] at hv_; rcases hv_ with rfl | rfl; exact .inr (hNew_ b_ hb_); exact .inl ⟨_, by simp, hb_⟩) ?_
                        replace hS := Still.refl W462 [.slice (some ⟨g461, 0, none⟩) 0 0, .slice (some ⟨g27, 0, none⟩) 0 0]
                        exact RunAny.same [0, 2, 3, 4, 5, 6, 9, 10, 11, 12, 13, 16, 8, 15, 18] (by kernel_rfl) [0, 22, 28, 30, 35, 37, 38, 40] (by kernel_rfl) (J388 g461 g27 g63 _ hS (hM.pick [0, 1, 2] rfl rfl))
                    have J464 : ∀ (g24 : Nat) (g54 : Nat) (W465 : World) (hS : Still W465 [.slice (some ⟨g24, 0, none⟩) 0 0] W465) (hM : Mem w W465 [⟨.slice (some ⟨g24, 0, none⟩) 0 0, 5, 1, nums .u8 []⟩, ⟨.slice (some ⟨g54, 0, none⟩) 4 4, 5, 1, nums .u8 [1, 2, 3, 4]⟩]) , RunAny Go.Proofs.Try.prog (Ret fun v w' => v = .bool r ∧ Mem w w' []) 6 (rest1 (pl Go.Proofs.Try.f6 [1, 1, 1, 0])) 125 (opsOf (pl Go.Proofs.Try.f6 [1, 1, 1, 0])) (Still W465 [.slice (some ⟨g24, 0, none⟩) 0 0]) 8 [0, 2, 3, 4, 5, 6, 9, 10, 11, 12, 13, 16, 8, 18] [(0, .slice Ap0 a0.length cp0), (22, .slice Ap0 a0.length cp0), (28, .slice A9 (((a0.take (mn (a0.length : Int) 4 : Int).toNat).drop (0 : Int).toNat).length) c11), (30, .slice (some ⟨g24, 0, none⟩) 0 0), (35, .slice A16 (((a0.take (mn (a0.length : Int) 8 : Int).toNat).drop (0 : Int).toNat).length) c18), (38, .slice Ap0 a0.length cp0), (40, .slice (some ⟨g54, 0, none⟩) 4 4)] W465 := by
                      intro g24 g54 W465 hS hM 
                      refine RunAny.all [1, 15] (by kernel_rfl) (by simp) ?_
                      refine ⟨?_, ?_, trivial⟩
                      · refine Stepped.new2 1 5 1 0 (nums .u8 []) (d := some 23) (k2 := [.inRegion (opsOf (pl Go.Proofs.Try.f6 [1, 1, 1, 0])) []]) hM (by simp [nums, bools, strs]) (by kernel_rfl) (by kernel_rfl) hS ?_
                        intro g466 W467 hN_ hS hM
                        have hNew_ : ∀ b_, blk (.slice (some ⟨g466, 0, none⟩) 0 0) = some b_ → W465.heap.size ≤ b_ := fun b_ hb_ => by injection hb_ with hb_; subst hb_; exact hN_
                        refine RunAny.rebase3 (G2 := [.slice (some ⟨g466, 0, none⟩) 0 0, .slice (some ⟨g24, 0, none⟩) 0 0]) hS (by intro v_ hv_ b_ hb_; simp only [List.mem_cons, List.not_mem_nil, or_false] at hv_; rcases hv_ with rfl | rfl; exact .inr (hNew_ b_ hb_); exact .inl ⟨_, by simp, hb_⟩) ?_
                        replace hS := Still.refl W467 [.slice (some ⟨g466, 0, none⟩) 0 0, .slice (some ⟨g24, 0, none⟩) 0 0]
                        exact RunAny.same [0, 2, 3, 4, 5, 6, 9, 10, 11, 12, 13, 16, 1, 8, 18] (by kernel_rfl) [0, 22, 23, 28, 30, 35, 38, 40] (by kernel_rfl) (J404 g466 g24 g54 _ hS (hM.pick [0, 1, 2] rfl rfl))
                      · refine Stepped.new2 15 5 1 0 (nums .u8 []) (d := some 37) (k2 := [.inRegion (opsOf (pl Go.Proofs.Try.f6 [1, 1, 1, 0])) []]) hM (by simp [nums, bools, strs]) (by kernel_rfl) (by kernel_rfl) hS ?_
                        intro g469 W470 hN_ hS hM
                        have hNew_ : ∀ b_, blk (.slice (some ⟨g469, 0, none⟩) 0 0) = some b_ → W465.heap.size ≤ b_ := fun b_ hb_ => by injection hb_ with hb_; subst hb_; exact hN_
                        refine RunAny.rebase3 (G2 := [.slice (some ⟨g24, 0, none⟩) 0 0, .slice (some ⟨g469, 0, none⟩) 0 0]) hS (by intro v_ hv_ b_ hb_; simp only [List.mem_cons, List.not_mem_nil, or_false] at hv_; rcases hv_ with rfl | rfl; exact .inl ⟨_, by simp, hb_⟩; exact .inr (hNew_ b_ hb_)) ?_
                        replace hS := Still.refl W470 [.slice (some ⟨g24, 0, none⟩) 0 0, .slice (some ⟨g469, 0, none⟩) 0 0]
                        exact RunAny.same [0, 2, 3, 4, 5, 6, 9, 10, 11, 12, 13, 16, 8, 15, 18] (by kernel_rfl) [0, 22, 28, 30, 35, 37, 38, 40] (by kernel_rfl) (J388 g24 g469 g54 _ hS (hM.pick [1, 0, 2] rfl rfl))
                    have J472 : ∀ (g24 : Nat) (g51 : Nat) (W473 : World) (hS : Still W473 [.slice (some ⟨g24, 0, none⟩) 0 0, .slice (some ⟨g51, 0, none⟩) 0 0] W473) (hM : Mem w W473 [⟨.slice (some ⟨g24, 0, none⟩) 0 0, 5, 1, nums .u8 []⟩, ⟨.slice (some ⟨g51, 0, none⟩) 0 0, 5, 1, nums .u8 []⟩]) , RunAny Go.Proofs.Try.prog (Ret fun v w' => v = .bool r ∧ Mem w w' []) 6 (rest1 (pl Go.Proofs.Try.f6 [1, 1, 1, 0])) 125 (opsOf (pl Go.Proofs.Try.f6 [1, 1, 1, 0])) (Still W473 [.slice (some ⟨g24, 0, none⟩) 0 0, .slice (some ⟨g51, 0, none⟩) 0 0]) 8 [0, 2, 3, 4, 5, 6, 9, 10, 11, 12, 13, 16, 8, 15] [(0, .slice Ap0 a0.length cp0), (22, .slice Ap0 a0.length cp0), (28, .slice A9 (((a0.take (mn (a0.length : Int) 4 : Int).toNat).drop (0 : Int).toNat).length) c11), (30, .slice (some ⟨g24, 0, none⟩) 0 0), (35, .slice A16 (((a0.take (mn (a0.length : Int) 8 : Int).toNat).drop (0 : Int).toNat).length) c18), (37, .slice (some ⟨g51, 0, none⟩) 0 0), (38, .slice Ap0 a0.length cp0)] W473 := by
                      intro g24 g51 W473 hS hM 
                      refine RunAny.all [1, 18] (by kernel_rfl) (by simp) ?_
                      refine ⟨?_, ?_, trivial⟩
                      · refine Stepped.new2 1 5 1 0 (nums .u8 []) (d := some 23) (k2 := [.inRegion (opsOf (pl Go.Proofs.Try.f6 [1, 1, 1, 0])) []]) hM (by simp [nums, bools, strs]) (by kernel_rfl) (by kernel_rfl) hS ?_
                        intro g474 W475 hN_ hS hM
                        have hNew_ : ∀ b_, blk (.slice (some ⟨g474, 0, none⟩) 0 0) = some b_ → W473.heap.size ≤ b_ := fun b_ hb_ => by injection hb_ with hb_; subst hb_; exact hN_
                        refine RunAny.rebase3 (G2 := [.slice (some ⟨g474, 0, none⟩) 0 0, .slice (some ⟨g24, 0, none⟩) 0 0, .slice (some ⟨g51, 0, none⟩) 0 0]) hS (by intro v_ hv_ b_ hb_; simp only [List.mem_cons, List.not_mem_nil, or_false] at hv_; rcases hv_ with rfl | rfl | rfl; exact .inr (hNew_ b_ hb_); exact .inl ⟨_, by simp, hb_⟩; exact .inl ⟨_, by simp, hb_⟩) ?_
                        replace hS := Still.refl W475 [.slice (some ⟨g474, 0, none⟩) 0 0, .slice (some ⟨g24, 0, none⟩) 0 0, .slice (some ⟨g51, 0, none⟩) 0 0]
                        exact RunAny.same [0, 2, 3, 4, 5, 6, 9, 10, 11, 12, 13, 16, 1, 8, 15] (by kernel_rfl) [0, 22, 23, 28, 30, 35, 37, 38] (by kernel_rfl) (J415 g474 g24 g51 _ hS (hM.pick [0, 1, 2] rfl rfl))
                      · refine Stepped.new 18 5 1 4 (nums .u8 [1, 2, 3, 4]) (d := some 40) (k2 := [.inRegion (opsOf (pl Go.Proofs.Try.f6 [1, 1, 1, 0])) []]) hM (by simp [nums, bools, strs]) (by kernel_rfl) (by kernel_rfl) hS ?_
                        intro g477 W478 hS hM
                        refine RunAny.rebase hS ?_
                        replace hS := Still.refl W478 [.slice (some ⟨g24, 0, none⟩) 0 0, .slice (some ⟨g51, 0, none⟩) 0 0]
                        exact RunAny.same [0, 2, 3, 4, 5, 6, 9, 10, 11, 12, 13, 16, 8, 15, 18] (by kernel_rfl) [0, 22, 28, 30, 35, 37, 38, 40] (by kernel_rfl) (J388 g24 g51 g477 _ hS (hM.pick [1, 2, 0] rfl rfl))
                    have J480 : ∀ (g21 : Nat) (g45 : Nat) (W481 : World) (hS : Still W481 [.slice (some ⟨g21, 0, none⟩) 0 0] W481) (hM : Mem w W481 [⟨.slice (some ⟨g21, 0, none⟩) 0 0, 5, 1, nums .u8 []⟩, ⟨.slice (some ⟨g45, 0, none⟩) 4 4, 5, 1, nums .u8 [1, 2, 3, 4]⟩]) , RunAny Go.Proofs.Try.prog (Ret fun v w' => v = .bool r ∧ Mem w w' []) 6 (rest1 (pl Go.Proofs.Try.f6 [1, 1, 1, 0])) 125 (opsOf (pl Go.Proofs.Try.f6 [1, 1, 1, 0])) (Still W481 [.slice (some ⟨g21, 0, none⟩) 0 0]) 8 [0, 2, 3, 4, 5, 6, 9, 10, 11, 12, 13, 16, 1, 18] [(0, .slice Ap0 a0.length cp0), (22, .slice Ap0 a0.length cp0), (23, .slice (some ⟨g21, 0, none⟩) 0 0), (28, .slice A9 (((a0.take (mn (a0.length : Int) 4 : Int).toNat).drop (0 : Int).toNat).length) c11), (35, .slice A16 (((a0.take (mn (a0.length : Int) 8 : Int).toNat).drop (0 : Int).toNat).length) c18), (38, .slice Ap0 a0.length cp0), (40, .slice (some ⟨g45, 0, none⟩) 4 4)] W481 := by
                      intro g21 g45 W481 hS hM 
                      refine RunAny.all [7, 8, 15] (by kernel_rfl) (by simp) ?_
                      refine ⟨?_, ?_, ?_, trivial⟩
                      · have h_ := of_decide_eq_true c252
                        obtain ⟨A482, n483, c484, W485, hD, hM', hS_⟩ := app_does (P := Go.Proofs.Try.prog) (n := 125) (k := (one (opsOf (pl Go.Proofs.Try.f6 [1, 1, 1, 0])) 7)) (L := [(0, .slice Ap0 a0.length cp0), (22, .slice Ap0 a0.length cp0), (23, .slice (some ⟨g21, 0, none⟩) 0 0), (28, .slice A9 (((a0.take (mn (a0.length : Int) 4 : Int).toNat).drop (0 : Int).toNat).length) c11), (35, .slice A16 (((a0.take (mn (a0.length : Int) 8 : Int).toNat).drop (0 : Int).toNat).length) c18), (38, .slice Ap0 a0.length cp0), (40, .slice (some ⟨g45, 0, none⟩) 4 4)]) (d := some 29) (e := 5) (A := (some ⟨g21, 0, none⟩)) (m := 0) (c := 0) (A2 := A9) (m2 := ((a0.take (mn (a0.length : Int) 4 : Int).toNat).drop (0 : Int).toNat).length) (c2 := c11) (cs := nums .u8 ([] : List Int)) (ys := nums .u8 ((a0.take (mn (a0.length : Int) 4 : Int).toNat).drop (0 : Int).toNat)) (k2 := [.inRegion (opsOf (pl Go.Proofs.Try.f6 [1, 1, 1, 0])) []]) [] [⟨.slice (some ⟨g45, 0, none⟩) 4 4, 5, 1, nums .u8 [1, 2, 3, 4]⟩] (by kernel_rfl) (hM.pick [0, 1] rfl rfl) (hs13 _ (hr0.mono hM.below)) (one_nums _ _) (by omega)
                        rw [nums_append] at hM'
                        replace hM := hM'; clear h_ hM'
                        obtain rfl : (([] : List Int) ++ ((a0.take (mn (a0.length : Int) 4 : Int).toNat).drop (0 : Int).toNat)).length = n483 := by have h_ := (hM.rd 0 rfl).1; simpa only [nums_length, bools_length, strs_length] using h_
                        refine Stepped.does 7 hD (hS.app hS_ (by simp)) ?_
                        clear hD
                        replace hS := (hS.app hS_ (by simp)); clear hS_
                        refine RunAny.rebase3 (G2 := []) hS (by intro v_ hv_ b_ hb_; simp only [List.mem_cons, List.not_mem_nil, or_false] at hv_) ?_
                        replace hS := Still.refl W485 []
                        exact RunAny.same [0, 2, 3, 4, 5, 6, 9, 10, 11, 12, 13, 16, 1, 7, 18] (by kernel_rfl) [0, 22, 29, 35, 38, 40] (by kernel_rfl) (J426 A482 c484 g45 _ hS (hM.pick [0, 1] rfl rfl))
                      · refine Stepped.new2 8 5 1 0 (nums .u8 []) (d := some 30) (k2 := [.inRegion (opsOf (pl Go.Proofs.Try.f6 [1, 1, 1, 0])) []]) hM (by simp [nums, bools, strs]) (by kernel_rfl) (by kernel_rfl) hS ?_
                        intro g488 W489 hN_ hS hM
                        have hNew_ : ∀ b_, blk (.slice (some ⟨g488, 0, none⟩) 0 0) = some b_ → W481.heap.size ≤ b_ := fun b_ hb_ => by injection hb_ with hb_; subst hb_; exact hN_
                        refine RunAny.rebase3 (G2 := [.slice (some ⟨g21, 0, none⟩) 0 0, .slice (some ⟨g488, 0, none⟩) 0 0]) hS (by intro v_ hv_ b_ hb_; simp only [List.mem_cons, List.not_mem_nil, or_false] at hv_; rcases hv_ with rfl | rfl; exact .inl ⟨_, by simp, hb_⟩; exact .inr (hNew_ b_ hb_)) ?_
                        replace hS := Still.refl W489 [.slice (some ⟨g21, 0, none⟩) 0 0, .slice (some ⟨g488, 0, none⟩) 0 0]
                        exact RunAny.same [0, 2, 3, 4, 5, 6, 9, 10, 11, 12, 13, 16, 1, 8, 18] (by kernel_rfl) [0, 22, 23, 28, 30, 35, 38, 40] (by kernel_rfl) (J404 g21 g488 g45 _ hS (hM.pick [1, 0, 2] rfl rfl))
                      · refine Stepped.new2 15 5 1 0 (nums .u8 []) (d := some 37) (k2 := [.inRegion (opsOf (pl Go.Proofs.Try.f6 [1, 1, 1, 0])) []]) hM (by simp [nums, bools, strs]) (by kernel_rfl) (by kernel_rfl) hS ?_
                        intro g491 W492 hN_ hS hM
                        have hNew_ : ∀ b_, blk (.slice (some ⟨g491, 0, none⟩) 0 0) = some b_ → W481.heap.size ≤ b_ := fun b_ hb_ => by injection hb_ with hb_; subst hb_; exact hN_
                        refine RunAny.rebase3 (G2 := [.slice (some ⟨g21, 0, none⟩) 0 0, .slice (some ⟨g491, 0, none⟩) 0 0]) hS (by intro v_ hv_ b_ hb_; simp only [List.mem_cons, List.not_mem_nil, or_false] at hv_; rcases hv_ with rfl | rfl; exact .inl ⟨_, by simp, hb_⟩; exact .inr (hNew_ b_ hb_)) ?_
                        replace hS := Still.refl W492 [.slice (some ⟨g21, 0, none⟩) 0 0, .slice (some ⟨g491, 0, none⟩) 0 0]
                        exact RunAny.same [0, 2, 3, 4, 5, 6, 9, 10, 11, 12, 13, 16, 1, 15, 18] (by kernel_rfl) [0, 22, 23, 28, 35, 37, 38, 40] (by kernel_rfl) (J393 g21 g491 g45 _ hS (hM.pick [1, 0, 2] rfl rfl))
                    have J494 : ∀ (g21 : Nat) (g42 : Nat) (W495 : World) (hS : Still W495 [.slice (some ⟨g21, 0, none⟩) 0 0, .slice (some ⟨g42, 0, none⟩) 0 0] W495) (hM : Mem w W495 [⟨.slice (some ⟨g21, 0, none⟩) 0 0, 5, 1, nums .u8 []⟩, ⟨.slice (some ⟨g42, 0, none⟩) 0 0, 5, 1, nums .u8 []⟩]) , RunAny Go.Proofs.Try.prog (Ret fun v w' => v = .bool r ∧ Mem w w' []) 6 (rest1 (pl Go.Proofs.Try.f6 [1, 1, 1, 0])) 125 (opsOf (pl Go.Proofs.Try.f6 [1, 1, 1, 0])) (Still W495 [.slice (some ⟨g21, 0, none⟩) 0 0, .slice (some ⟨g42, 0, none⟩) 0 0]) 8 [0, 2, 3, 4, 5, 6, 9, 10, 11, 12, 13, 16, 1, 15] [(0, .slice Ap0 a0.length cp0), (22, .slice Ap0 a0.length cp0), (23, .slice (some ⟨g21, 0, none⟩) 0 0), (28, .slice A9 (((a0.take (mn (a0.length : Int) 4 : Int).toNat).drop (0 : Int).toNat).length) c11), (35, .slice A16 (((a0.take (mn (a0.length : Int) 8 : Int).toNat).drop (0 : Int).toNat).length) c18), (37, .slice (some ⟨g42, 0, none⟩) 0 0), (38, .slice Ap0 a0.length cp0)] W495 := by
                      intro g21 g42 W495 hS hM 
                      refine RunAny.all [7, 8, 18] (by kernel_rfl) (by simp) ?_
                      refine ⟨?_, ?_, ?_, trivial⟩
                      · have h_ := of_decide_eq_true c252
                        obtain ⟨A496, n497, c498, W499, hD, hM', hS_⟩ := app_does (P := Go.Proofs.Try.prog) (n := 125) (k := (one (opsOf (pl Go.Proofs.Try.f6 [1, 1, 1, 0])) 7)) (L := [(0, .slice Ap0 a0.length cp0), (22, .slice Ap0 a0.length cp0), (23, .slice (some ⟨g21, 0, none⟩) 0 0), (28, .slice A9 (((a0.take (mn (a0.length : Int) 4 : Int).toNat).drop (0 : Int).toNat).length) c11), (35, .slice A16 (((a0.take (mn (a0.length : Int) 8 : Int).toNat).drop (0 : Int).toNat).length) c18), (37, .slice (some ⟨g42, 0, none⟩) 0 0), (38, .slice Ap0 a0.length cp0)]) (d := some 29) (e := 5) (A := (some ⟨g21, 0, none⟩)) (m := 0) (c := 0) (A2 := A9) (m2 := ((a0.take (mn (a0.length : Int) 4 : Int).toNat).drop (0 : Int).toNat).length) (c2 := c11) (cs := nums .u8 ([] : List Int)) (ys := nums .u8 ((a0.take (mn (a0.length : Int) 4 : Int).toNat).drop (0 : Int).toNat)) (k2 := [.inRegion (opsOf (pl Go.Proofs.Try.f6 [1, 1, 1, 0])) []]) [] [⟨.slice (some ⟨g42, 0, none⟩) 0 0, 5, 1, nums .u8 []⟩] (by kernel_rfl) (hM.pick [0, 1] rfl rfl) (hs13 _ (hr0.mono hM.below)) (one_nums _ _) (by omega)
                        rw [nums_append] at hM'
                        replace hM := hM'; clear h_ hM'
                        obtain rfl : (([] : List Int) ++ ((a0.take (mn (a0.length : Int) 4 : Int).toNat).drop (0 : Int).toNat)).length = n497 := by have h_ := (hM.rd 0 rfl).1; simpa only [nums_length, bools_length, strs_length] using h_
                        refine Stepped.does 7 hD (hS.app hS_ (by simp)) ?_
                        clear hD
                        replace hS := (hS.app hS_ (by simp)); clear hS_
                        refine RunAny.rebase3 (G2 := [.slice (some ⟨g42, 0, none⟩) 0 0]) hS (by intro v_ hv_ b_ hb_; simp only [List.mem_cons, List.not_mem_nil, or_false] at hv_; subst hv_; exact .inl ⟨_, by simp, hb_⟩) ?_
                        replace hS := Still.refl W499 [.slice (some ⟨g42, 0, none⟩) 0 0]
                        exact RunAny.same [0, 2, 3, 4, 5, 6, 9, 10, 11, 12, 13, 16, 1, 7, 15] (by kernel_rfl) [0, 22, 29, 35, 37, 38] (by kernel_rfl) (J434 A496 c498 g42 _ hS (hM.pick [0, 1] rfl rfl))
                      · refine Stepped.new2 8 5 1 0 (nums .u8 []) (d := some 30) (k2 := [.inRegion (opsOf (pl Go.Proofs.Try.f6 [1, 1, 1, 0])) []]) hM (by simp [nums, bools, strs]) (by kernel_rfl) (by kernel_rfl) hS ?_
                        intro g502 W503 hN_ hS hM
                        have hNew_ : ∀ b_, blk (.slice (some ⟨g502, 0, none⟩) 0 0) = some b_ → W495.heap.size ≤ b_ := fun b_ hb_ => by injection hb_ with hb_; subst hb_; exact hN_
                        refine RunAny.rebase3 (G2 := [.slice (some ⟨g21, 0, none⟩) 0 0, .slice (some ⟨g502, 0, none⟩) 0 0, .slice (some ⟨g42, 0, none⟩) 0 0]) hS (by intro v_ hv_ b_ hb_; simp only [List.mem_cons, List.not_mem_nil, or_false] at hv_; rcases hv_ with rfl | rfl | rfl; exact .inl ⟨_, by simp, hb_⟩; exact .inr (hNew_ b_ hb_); exact .inl ⟨_, by simp, hb_⟩) ?_
                        replace hS := Still.refl W503 [.slice (some ⟨g21, 0, none⟩) 0 0, .slice (some ⟨g502, 0, none⟩) 0 0, .slice (some ⟨g42, 0, none⟩) 0 0]
                        exact RunAny.same [0, 2, 3, 4, 5, 6, 9, 10, 11, 12, 13, 16, 1, 8, 15] (by kernel_rfl) [0, 22, 23, 28, 30, 35, 37, 38] (by kernel_rfl) (J415 g21 g502 g42 _ hS (hM.pick [1, 0, 2] rfl rfl))
                      · refine Stepped.new 18 5 1 4 (nums .u8 [1, 2, 3, 4]) (d := some 40) (k2 := [.inRegion (opsOf (pl Go.Proofs.Try.f6 [1, 1, 1, 0])) []]) hM (by simp [nums, bools, strs]) (by kernel_rfl) (by kernel_rfl) hS ?_
                        intro g505 W506 hS hM
                        refine RunAny.rebase hS ?_
                        replace hS := Still.refl W506 [.slice (some ⟨g21, 0, none⟩) 0 0, .slice (some ⟨g42, 0, none⟩) 0 0]
                        exact RunAny.same [0, 2, 3, 4, 5, 6, 9, 10, 11, 12, 13, 16, 1, 15, 18] (by kernel_rfl) [0, 22, 23, 28, 35, 37, 38, 40] (by kernel_rfl) (J393 g21 g42 g505 _ hS (hM.pick [1, 2, 0] rfl rfl))
                    have J508 : ∀ (g21 : Nat) (g39 : Nat) (W509 : World) (hS : Still W509 [.slice (some ⟨g21, 0, none⟩) 0 0, .slice (some ⟨g39, 0, none⟩) 0 0] W509) (hM : Mem w W509 [⟨.slice (some ⟨g21, 0, none⟩) 0 0, 5, 1, nums .u8 []⟩, ⟨.slice (some ⟨g39, 0, none⟩) 0 0, 5, 1, nums .u8 []⟩]) , RunAny Go.Proofs.Try.prog (Ret fun v w' => v = .bool r ∧ Mem w w' []) 6 (rest1 (pl Go.Proofs.Try.f6 [1, 1, 1, 0])) 125 (opsOf (pl Go.Proofs.Try.f6 [1, 1, 1, 0])) (Still W509 [.slice (some ⟨g21, 0, none⟩) 0 0, .slice (some ⟨g39, 0, none⟩) 0 0]) 8 [0, 2, 3, 4, 5, 6, 9, 10, 11, 12, 13, 16, 1, 8] [(0, .slice Ap0 a0.length cp0), (22, .slice Ap0 a0.length cp0), (23, .slice (some ⟨g21, 0, none⟩) 0 0), (28, .slice A9 (((a0.take (mn (a0.length : Int) 4 : Int).toNat).drop (0 : Int).toNat).length) c11), (30, .slice (some ⟨g39, 0, none⟩) 0 0), (35, .slice A16 (((a0.take (mn (a0.length : Int) 8 : Int).toNat).drop (0 : Int).toNat).length) c18), (38, .slice Ap0 a0.length cp0)] W509 := by
                      intro g21 g39 W509 hS hM 
                      refine RunAny.all [7, 15, 18] (by kernel_rfl) (by simp) ?_
                      refine ⟨?_, ?_, ?_, trivial⟩
                      · have h_ := of_decide_eq_true c252
                        obtain ⟨A510, n511, c512, W513, hD, hM', hS_⟩ := app_does (P := Go.Proofs.Try.prog) (n := 125) (k := (one (opsOf (pl Go.Proofs.Try.f6 [1, 1, 1, 0])) 7)) (L := [(0, .slice Ap0 a0.length cp0), (22, .slice Ap0 a0.length cp0), (23, .slice (some ⟨g21, 0, none⟩) 0 0), (28, .slice A9 (((a0.take (mn (a0.length : Int) 4 : Int).toNat).drop (0 : Int).toNat).length) c11), (30, .slice (some ⟨g39, 0, none⟩) 0 0), (35, .slice A16 (((a0.take (mn (a0.length : Int) 8 : Int).toNat).drop (0 : Int).toNat).length) c18), (38, .slice Ap0 a0.length cp0)]) (d := some 29) (e := 5) (A := (some ⟨g21, 0, none⟩)) (m := 0) (c := 0) (A2 := A9) (m2 := ((a0.take (mn (a0.length : Int) 4 : Int).toNat).drop (0 : Int).toNat).length) (c2 := c11) (cs := nums .u8 ([] : List Int)) (ys := nums .u8 ((a0.take (mn (a0.length : Int) 4 : Int).toNat).drop (0 : Int).toNat)) (k2 := [.inRegion (opsOf (pl Go.Proofs.Try.f6 [1, 1, 1, 0])) []]) [] [⟨.slice (some ⟨g39, 0, none⟩) 0 0, 5, 1, nums .u8 []⟩] (by kernel_rfl) (hM.pick [0, 1] rfl rfl) (hs13 _ (hr0.mono hM.below)) (one_nums _ _) (by omega)
                        rw [nums_append] at hM'
                        replace hM := hM'; clear h_ hM'
                        obtain rfl : (([] : List Int) ++ ((a0.take (mn (a0.length : Int) 4 : Int).toNat).drop (0 : Int).toNat)).length = n511 := by have h_ := (hM.rd 0 rfl).1; simpa only [nums_length, bools_length, strs_length] using h_
                        refine Stepped.does 7 hD (hS.app hS_ (by simp)) ?_
                        clear hD
                        replace hS := (hS.app hS_ (by simp)); clear hS_
                        refine RunAny.rebase3 (G2 := [.slice (some ⟨g39, 0, none⟩) 0 0]) hS (by intro v_ hv_ b_ hb_; simp only [List.mem_cons, List.not_mem_nil, or_false] at hv_; subst hv_; exact .inl ⟨_, by simp, hb_⟩) ?_
                        replace hS := Still.refl W513 [.slice (some ⟨g39, 0, none⟩) 0 0]
                        exact RunAny.same [0, 2, 3, 4, 5, 6, 9, 10, 11, 12, 13, 16, 1, 7, 8] (by kernel_rfl) [0, 22, 29, 30, 35, 38] (by kernel_rfl) (J442 A510 c512 g39 _ hS (hM.pick [0, 1] rfl rfl))
                      · refine Stepped.new2 15 5 1 0 (nums .u8 []) (d := some 37) (k2 := [.inRegion (opsOf (pl Go.Proofs.Try.f6 [1, 1, 1, 0])) []]) hM (by simp [nums, bools, strs]) (by kernel_rfl) (by kernel_rfl) hS ?_
                        intro g516 W517 hN_ hS hM
                        have hNew_ : ∀ b_, blk (.slice (some ⟨g516, 0, none⟩) 0 0) = some b_ → W509.heap.size ≤ b_ := fun b_ hb_ => by injection hb_ with hb_; subst hb_; exact hN_
                        refine RunAny.rebase3 (G2 := [.slice (some ⟨g21, 0, none⟩) 0 0, .slice (some ⟨g39, 0, none⟩) 0 0, .slice (some ⟨g516, 0, none⟩) 0 0]) hS (by intro v_ hv_ b_ hb_; simp only [List.mem_cons, List.not_mem_nil, or_false] at hv_; rcases hv_ with rfl | rfl | rfl; exact .inl ⟨_, by simp, hb_⟩; exact .inl ⟨_, by simp, hb_⟩; exact .inr (hNew_ b_ hb_)) ?_
                        replace hS := Still.refl W517 [.slice (some ⟨g21, 0, none⟩) 0 0, .slice (some ⟨g39, 0, none⟩) 0 0, .slice (some ⟨g516, 0, none⟩) 0 0]
                        exact RunAny.same [0, 2, 3, 4, 5, 6, 9, 10, 11, 12, 13, 16, 1, 8, 15] (by kernel_rfl) [0, 22, 23, 28, 30, 35, 37, 38] (by kernel_rfl) (J415 g21 g39 g516 _ hS (hM.pick [1, 2, 0] rfl rfl))
                      · refine Stepped.new 18 5 1 4 (nums .u8 [1, 2, 3, 4]) (d := some 40) (k2 := [.inRegion (opsOf (pl Go.Proofs.Try.f6 [1, 1, 1, 0])) []]) hM (by simp [nums, bools, strs]) (by kernel_rfl) (by kernel_rfl) hS ?_
                        intro g519 W520 hS hM
                        refine RunAny.rebase hS ?_
                        replace hS := Still.refl W520 [.slice (some ⟨g21, 0, none⟩) 0 0, .slice (some ⟨g39, 0, none⟩) 0 0]
                        exact RunAny.same [0, 2, 3, 4, 5, 6, 9, 10, 11, 12, 13, 16, 1, 8, 18] (by kernel_rfl) [0, 22, 23, 28, 30, 35, 38, 40] (by kernel_rfl) (J404 g21 g39 g519 _ hS (hM.pick [1, 2, 0] rfl rfl))
                    have J522 : ∀ (A33 : Option Addr) (c35 : Nat) (W523 : World) (hS : Still W523 [] W523) (hM : Mem w W523 [⟨.slice A33 ((([] : List Int) ++ ((a0.take (mn (a0.length : Int) 4 : Int).toNat).drop (0 : Int).toNat)).length) c35, 5, 1, nums .u8 (([] : List Int) ++ ((a0.take (mn (a0.length : Int) 4 : Int).toNat).drop (0 : Int).toNat))⟩]) , RunAny Go.Proofs.Try.prog (Ret fun v w' => v = .bool r ∧ Mem w w' []) 6 (rest1 (pl Go.Proofs.Try.f6 [1, 1, 1, 0])) 125 (opsOf (pl Go.Proofs.Try.f6 [1, 1, 1, 0])) (Still W523 []) 8 [0, 2, 3, 4, 5, 6, 9, 10, 11, 12, 13, 16, 1, 7] [(0, .slice Ap0 a0.length cp0), (22, .slice Ap0 a0.length cp0), (29, .slice A33 ((([] : List Int) ++ ((a0.take (mn (a0.length : Int) 4 : Int).toNat).drop (0 : Int).toNat)).length) c35), (35, .slice A16 (((a0.take (mn (a0.length : Int) 8 : Int).toNat).drop (0 : Int).toNat).length) c18), (38, .slice Ap0 a0.length cp0)] W523 := by
                      intro A33 c35 W523 hS hM 
                      refine RunAny.all [8, 15, 18] (by kernel_rfl) (by simp) ?_
                      refine ⟨?_, ?_, ?_, trivial⟩
                      · refine Stepped.new2 8 5 1 0 (nums .u8 []) (d := some 30) (k2 := [.inRegion (opsOf (pl Go.Proofs.Try.f6 [1, 1, 1, 0])) []]) hM (by simp [nums, bools, strs]) (by kernel_rfl) (by kernel_rfl) hS ?_
                        intro g524 W525 hN_ hS hM
                        have hNew_ : ∀ b_, blk (.slice (some ⟨g524, 0, none⟩) 0 0) = some b_ → W523.heap.size ≤ b_ := fun b_ hb_ => by injection hb_ with hb_; subst hb_; exact hN_
                        refine RunAny.rebase3 (G2 := [.slice (some ⟨g524, 0, none⟩) 0 0]) hS (by intro v_ hv_ b_ hb_; simp only [List.mem_cons, List.not_mem_nil, or_false] at hv_; subst hv_; exact .inr (hNew_ b_ hb_)) ?_
                        replace hS := Still.refl W525 [.slice (some ⟨g524, 0, none⟩) 0 0]
                        exact RunAny.same [0, 2, 3, 4, 5, 6, 9, 10, 11, 12, 13, 16, 1, 7, 8] (by kernel_rfl) [0, 22, 29, 30, 35, 38] (by kernel_rfl) (J442 A33 c35 g524 _ hS (hM.pick [1, 0] rfl rfl))
                      · refine Stepped.new2 15 5 1 0 (nums .u8 []) (d := some 37) (k2 := [.inRegion (opsOf (pl Go.Proofs.Try.f6 [1, 1, 1, 0])) []]) hM (by simp [nums, bools, strs]) (by kernel_rfl) (by kernel_rfl) hS ?_
                        intro g527 W528 hN_ hS hM
                        have hNew_ : ∀ b_, blk (.slice (some ⟨g527, 0, none⟩) 0 0) = some b_ → W523.heap.size ≤ b_ := fun b_ hb_ => by injection hb_ with hb_; subst hb_; exact hN_
                        refine RunAny.rebase3 (G2 := [.slice (some ⟨g527, 0, none⟩) 0 0]) hS (by intro v_ hv_ b_ hb_; simp only [List.mem_cons, List.not_mem_nil, or_false] at hv_; subst hv_; exact .inr (hNew_ b_ hb_)) ?_
                        replace hS := Still.refl W528 [.slice (some ⟨g527, 0, none⟩) 0 0]
                        exact RunAny.same [0, 2, 3, 4, 5, 6, 9, 10, 11, 12, 13, 16, 1, 7, 15] (by kernel_rfl) [0, 22, 29, 35, 37, 38] (by kernel_rfl) (J434 A33 c35 g527 _ hS (hM.pick [1, 0] rfl rfl))
                      · refine Stepped.new 18 5 1 4 (nums .u8 [1, 2, 3, 4]) (d := some 40) (k2 := [.inRegion (opsOf (pl Go.Proofs.Try.f6 [1, 1, 1, 0])) []]) hM (by simp [nums, bools, strs]) (by kernel_rfl) (by kernel_rfl) hS ?_
                        intro g530 W531 hS hM
                        refine RunAny.rebase hS ?_
                        replace hS := Still.refl W531 []
                        exact RunAny.same [0, 2, 3, 4, 5, 6, 9, 10, 11, 12, 13, 16, 1, 7, 18] (by kernel_rfl) [0, 22, 29, 35, 38, 40] (by kernel_rfl) (J426 A33 c35 g530 _ hS (hM.pick [1, 0] rfl rfl))
                    have J533 : ∀ (g30 : Nat) (W534 : World) (hS : Still W534 [] W534) (hM : Mem w W534 [⟨.slice (some ⟨g30, 0, none⟩) 4 4, 5, 1, nums .u8 [1, 2, 3, 4]⟩]) , RunAny Go.Proofs.Try.prog (Ret fun v w' => v = .bool r ∧ Mem w w' []) 6 (rest1 (pl Go.Proofs.Try.f6 [1, 1, 1, 0])) 125 (opsOf (pl Go.Proofs.Try.f6 [1, 1, 1, 0])) (Still W534 []) 9 [0, 2, 3, 4, 5, 6, 9, 10, 11, 12, 13, 16, 18] [(0, .slice Ap0 a0.length cp0), (22, .slice Ap0 a0.length cp0), (28, .slice A9 (((a0.take (mn (a0.length : Int) 4 : Int).toNat).drop (0 : Int).toNat).length) c11), (35, .slice A16 (((a0.take (mn (a0.length : Int) 8 : Int).toNat).drop (0 : Int).toNat).length) c18), (38, .slice Ap0 a0.length cp0), (40, .slice (some ⟨g30, 0, none⟩) 4 4)] W534 := by
                      intro g30 W534 hS hM 
                      refine RunAny.all [1, 8, 15] (by kernel_rfl) (by simp) ?_
                      refine ⟨?_, ?_, ?_, trivial⟩
                      · refine Stepped.new2 1 5 1 0 (nums .u8 []) (d := some 23) (k2 := [.inRegion (opsOf (pl Go.Proofs.Try.f6 [1, 1, 1, 0])) []]) hM (by simp [nums, bools, strs]) (by kernel_rfl) (by kernel_rfl) hS ?_
                        intro g535 W536 hN_ hS hM
                        have hNew_ : ∀ b_, blk (.slice (some ⟨g535, 0, none⟩) 0 0) = some b_ → W534.heap.size ≤ b_ := fun b_ hb_ => by injection hb_ with hb_; subst hb_; exact hN_
                        refine RunAny.rebase3 (G2 := [.slice (some ⟨g535, 0, none⟩) 0 0]) hS (by intro v_ hv_ b_ hb_; simp only [List.mem_cons, List.not_mem_nil, or_false] at hv_; subst hv_; exact .inr (hNew_ b_ hb_)) ?_
                        replace hS := Still.refl W536 [.slice (some ⟨g535, 0, none⟩) 0 0]
                        exact RunAny.same [0, 2, 3, 4, 5, 6, 9, 10, 11, 12, 13, 16, 1, 18] (by kernel_rfl) [0, 22, 23, 28, 35, 38, 40] (by kernel_rfl) (J480 g535 g30 _ hS (hM.pick [0, 1] rfl rfl))
                      · refine Stepped.new2 8 5 1 0 (nums .u8 []) (d := some 30) (k2 := [.inRegion (opsOf (pl Go.Proofs.Try.f6 [1, 1, 1, 0])) []]) hM (by simp [nums, bools, strs]) (by kernel_rfl) (by kernel_rfl) hS ?_
                        intro g538 W539 hN_ hS hM
                        have hNew_ : ∀ b_, blk (.slice (some ⟨g538, 0, none⟩) 0 0) = some b_ → W534.heap.size ≤ b_ := fun b_ hb_ => by injection hb_ with hb_; subst hb_; exact hN_
                        refine RunAny.rebase3 (G2 := [.slice (some ⟨g538, 0, none⟩) 0 0]) hS (by intro v_ hv_ b_ hb_; simp only [List.mem_cons, List.not_mem_nil, or_false] at hv_; subst hv_; exact .inr (hNew_ b_ hb_)) ?_
                        replace hS := Still.refl W539 [.slice (some ⟨g538, 0, none⟩) 0 0]
                        exact RunAny.same [0, 2, 3, 4, 5, 6, 9, 10, 11, 12, 13, 16, 8, 18] (by kernel_rfl) [0, 22, 28, 30, 35, 38, 40] (by kernel_rfl) (J464 g538 g30 _ hS (hM.pick [0, 1] rfl rfl))
                      · refine Stepped.new2 15 5 1 0 (nums .u8 []) (d := some 37) (k2 := [.inRegion (opsOf (pl Go.Proofs.Try.f6 [1, 1, 1, 0])) []]) hM (by simp [nums, bools, strs]) (by kernel_rfl) (by kernel_rfl) hS ?_
                        intro g541 W542 hN_ hS hM
                        have hNew_ : ∀ b_, blk (.slice (some ⟨g541, 0, none⟩) 0 0) = some b_ → W534.heap.size ≤ b_ := fun b_ hb_ => by injection hb_ with hb_; subst hb_; exact hN_
                        refine RunAny.rebase3 (G2 := [.slice (some ⟨g541, 0, none⟩) 0 0]) hS (by intro v_ hv_ b_ hb_; simp only [List.mem_cons, List.not_mem_nil, or_false] at hv_; subst hv_; exact .inr (hNew_ b_ hb_)) ?_
                        replace hS := Still.refl W542 [.slice (some ⟨g541, 0, none⟩) 0 0]
                        exact RunAny.same [0, 2, 3, 4, 5, 6, 9, 10, 11, 12, 13, 16, 15, 18] (by kernel_rfl) [0, 22, 28, 35, 37, 38, 40] (by kernel_rfl) (J456 g541 g30 _ hS (hM.pick [0, 1] rfl rfl))
                    have J544 : ∀ (g27 : Nat) (W545 : World) (hS : Still W545 [.slice (some ⟨g27, 0, none⟩) 0 0] W545) (hM : Mem w W545 [⟨.slice (some ⟨g27, 0, none⟩) 0 0, 5, 1, nums .u8 []⟩]) , RunAny Go.Proofs.Try.prog (Ret fun v w' => v = .bool r ∧ Mem w w' []) 6 (rest1 (pl Go.Proofs.Try.f6 [1, 1, 1, 0])) 125 (opsOf (pl Go.Proofs.Try.f6 [1, 1, 1, 0])) (Still W545 [.slice (some ⟨g27, 0, none⟩) 0 0]) 9 [0, 2, 3, 4, 5, 6, 9, 10, 11, 12, 13, 16, 15] [(0, .slice Ap0 a0.length cp0), (22, .slice Ap0 a0.length cp0), (28, .slice A9 (((a0.take (mn (a0.length : Int) 4 : Int).toNat).drop (0 : Int).toNat).length) c11), (35, .slice A16 (((a0.take (mn (a0.length : Int) 8 : Int).toNat).drop (0 : Int).toNat).length) c18), (37, .slice (some ⟨g27, 0, none⟩) 0 0), (38, .slice Ap0 a0.length cp0)] W545 := by
                      intro g27 W545 hS hM 
                      refine RunAny.all [1, 8, 18] (by kernel_rfl) (by simp) ?_
                      refine ⟨?_, ?_, ?_, trivial⟩
                      · refine Stepped.new2 1 5 1 0 (nums .u8 []) (d := some 23) (k2 := [.inRegion (opsOf (pl Go.Proofs.Try.f6 [1, 1, 1, 0])) []]) hM (by simp [nums, bools, strs]) (by kernel_rfl) (by kernel_rfl) hS ?_
                        intro g546 W547 hN_ hS hM
                        have hNew_ : ∀ b_, blk (.slice (some ⟨g546, 0, none⟩) 0 0) = some b_ → W545.heap.size ≤ b_ := fun b_ hb_ => by injection hb_ with hb_; subst hb_; exact hN_
                        refine RunAny.rebase3 (G2 := [.slice (some ⟨g546, 0, none⟩) 0 0, .slice (some ⟨g27, 0, none⟩) 0 0]) hS (by intro v_ hv_ b_ hb_; simp only [List.mem_cons, List.not_mem_nil, or_false] at hv_; rcases hv_ with rfl | rfl; exact .inr (hNew_ b_ hb_); exact .inl ⟨_, by simp, hb_⟩) ?_
                        replace hS := Still.refl W547 [.slice (some ⟨g546, 0, none⟩) 0 0, .slice (some ⟨g27, 0, none⟩) 0 0]
                        exact RunAny.same [0, 2, 3, 4, 5, 6, 9, 10, 11, 12, 13, 16, 1, 15] (by kernel_rfl) [0, 22, 23, 28, 35, 37, 38] (by kernel_rfl) (J494 g546 g27 _ hS (hM.pick [0, 1] rfl rfl))
                      · refine Stepped.new2 8 5 1 0 (nums .u8 []) (d := some 30) (k2 := [.inRegion (opsOf (pl Go.Proofs.Try.f6 [1, 1, 1, 0])) []]) hM (by simp [nums, bools, strs]) (by kernel_rfl) (by kernel_rfl) hS ?_
                        intro g549 W550 hN_ hS hM
                        have hNew_ : ∀ b_, blk (.slice (some ⟨g549, 0, none⟩) 0 0) = some b_ → W545.heap.size ≤ b_ := fun b_ hb_ => by injection hb_ with hb_; subst hb_; exact hN_
                        refine RunAny.rebase3 (G2 := [.slice (some ⟨g549, 0, none⟩) 0 0, .slice (some ⟨g27, 0, none⟩) 0 0]) hS (by intro v_ hv_ b_ hb_; simp only [List.mem_cons, List.not_mem_nil, or_false] at hv_; rcases hv_ with rfl | rfl; exact .inr (hNew_ b_ hb_); exact .inl ⟨_, by simp, hb_⟩) ?_
                        replace hS := Still.refl W550 [.slice (some ⟨g549, 0, none⟩) 0 0, .slice (some ⟨g27, 0, none⟩) 0 0]
                        exact RunAny.same [0, 2, 3, 4, 5, 6, 9, 10, 11, 12, 13, 16, 8, 15] (by kernel_rfl) [0, 22, 28, 30, 35, 37, 38] (by kernel_rfl) (J472 g549 g27 _ hS (hM.pick [0, 1] rfl rfl))
                      · refine Stepped.new 18 5 1 4 (nums .u8 [1, 2, 3, 4]) (d := some 40) (k2 := [.inRegion (opsOf (pl Go.Proofs.Try.f6 [1, 1, 1, 0])) []]) hM (by simp [nums, bools, strs]) (by kernel_rfl) (by kernel_rfl) hS ?_
                        intro g552 W553 hS hM
                        refine RunAny.rebase hS ?_
                        replace hS := Still.refl W553 [.slice (some ⟨g27, 0, none⟩) 0 0]
                        exact RunAny.same [0, 2, 3, 4, 5, 6, 9, 10, 11, 12, 13, 16, 15, 18] (by kernel_rfl) [0, 22, 28, 35, 37, 38, 40] (by kernel_rfl) (J456 g27 g552 _ hS (hM.pick [1, 0] rfl rfl))
                    have J555 : ∀ (g24 : Nat) (W556 : World) (hS : Still W556 [.slice (some ⟨g24, 0, none⟩) 0 0] W556) (hM : Mem w W556 [⟨.slice (some ⟨g24, 0, none⟩) 0 0, 5, 1, nums .u8 []⟩]) , RunAny Go.Proofs.Try.prog (Ret fun v w' => v = .bool r ∧ Mem w w' []) 6 (rest1 (pl Go.Proofs.Try.f6 [1, 1, 1, 0])) 125 (opsOf (pl Go.Proofs.Try.f6 [1, 1, 1, 0])) (Still W556 [.slice (some ⟨g24, 0, none⟩) 0 0]) 9 [0, 2, 3, 4, 5, 6, 9, 10, 11, 12, 13, 16, 8] [(0, .slice Ap0 a0.length cp0), (22, .slice Ap0 a0.length cp0), (28, .slice A9 (((a0.take (mn (a0.length : Int) 4 : Int).toNat).drop (0 : Int).toNat).length) c11), (30, .slice (some ⟨g24, 0, none⟩) 0 0), (35, .slice A16 (((a0.take (mn (a0.length : Int) 8 : Int).toNat).drop (0 : Int).toNat).length) c18), (38, .slice Ap0 a0.length cp0)] W556 := by
                      intro g24 W556 hS hM 
                      refine RunAny.all [1, 15, 18] (by kernel_rfl) (by simp) ?_
                      refine ⟨?_, ?_, ?_, trivial⟩
                      · refine Stepped.new2 1 5 1 0 (nums .u8 []) (d := some 23) (k2 := [.inRegion (opsOf (pl Go.Proofs.Try.f6 [1, 1, 1, 0])) []]) hM (by simp [nums, bools, strs]) (by kernel_rfl) (by kernel_rfl) hS ?_
                        intro g557 W558 hN_ hS hM
                        have hNew_ : ∀ b_, blk (.slice (some ⟨g557, 0, none⟩) 0 0) = some b_ → W556.heap.size ≤ b_ := fun b_ hb_ => by injection hb_ with hb_; subst hb_; exact hN_
                        refine RunAny.rebase3 (G2 := [.slice (some ⟨g557, 0, none⟩) 0 0, .slice (some ⟨g24, 0, none⟩) 0 0]) hS (by intro v_ hv_ b_ hb_; simp only [List.mem_cons, List.not_mem_nil, or_false] at hv_; rcases hv_ with rfl | rfl; exact .inr (hNew_ b_ hb_); exact .inl ⟨_, by simp, hb_⟩) ?_
                        replace hS := Still.refl W558 [.slice (some ⟨g557, 0, none⟩) 0 0, .slice (some ⟨g24, 0, none⟩) 0 0]
                        exact RunAny.same [0, 2, 3, 4, 5, 6, 9, 10, 11, 12, 13, 16, 1, 8] (by kernel_rfl) [0, 22, 23, 28, 30, 35, 38] (by kernel_rfl) (J508 g557 g24 _ hS (hM.pick [0, 1] rfl rfl))
                      · refine Stepped.new2 15 5 1 0 (nums .u8 []) (d := some 37) (k2 := [.inRegion (opsOf (pl Go.Proofs.Try.f6 [1, 1, 1, 0])) []]) hM (by simp [nums, bools, strs]) (by kernel_rfl) (by kernel_rfl) hS ?_
                        intro g560 W561 hN_ hS hM
                        have hNew_ : ∀ b_, blk (.slice (some ⟨g560, 0, none⟩) 0 0) = some b_ → W556.heap.size ≤ b_ := fun b_ hb_ => by injection hb_ with hb_; subst hb_; exact hN_
                        refine RunAny.rebase3 (G2 := [.slice (some ⟨g24, 0, none⟩) 0 0, .slice (some ⟨g560, 0, none⟩) 0 0]) hS (by intro v_ hv_ b_ hb_; simp only [List.mem_cons, List.not_mem_nil, or_false] at hv_; rcases hv_ with rfl | rfl; exact .inl ⟨_, by simp, hb_⟩; exact .inr (hNew_ b_ hb_)) ?_
                        replace hS := Still.refl W561 [.slice (some ⟨g24, 0, none⟩) 0 0, .slice (some ⟨g560, 0, none⟩) 0 0]
                        exact RunAny.same [0, 2, 3, 4, 5, 6, 9, 10, 11, 12, 13, 16, 8, 15] (by kernel_rfl) [0, 22, 28, 30, 35, 37, 38] (by kernel_rfl) (J472 g24 g560 _ hS (hM.pick [1, 0] rfl rfl))
                      · refine Stepped.new 18 5 1 4 (nums .u8 [1, 2, 3, 4]) (d := some 40) (k2 := [.inRegion (opsOf (pl Go.Proofs.Try.f6 [1, 1, 1, 0])) []]) hM (by simp [nums, bools, strs]) (by kernel_rfl) (by kernel_rfl) hS ?_
                        intro g563 W564 hS hM
                        refine RunAny.rebase hS ?_
                        replace hS := Still.refl W564 [.slice (some ⟨g24, 0, none⟩) 0 0]
                        exact RunAny.same [0, 2, 3, 4, 5, 6, 9, 10, 11, 12, 13, 16, 8, 18] (by kernel_rfl) [0, 22, 28, 30, 35, 38, 40] (by kernel_rfl) (J464 g24 g563 _ hS (hM.pick [1, 0] rfl rfl))
                    have J566 : ∀ (g21 : Nat) (W567 : World) (hS : Still W567 [.slice (some ⟨g21, 0, none⟩) 0 0] W567) (hM : Mem w W567 [⟨.slice (some ⟨g21, 0, none⟩) 0 0, 5, 1, nums .u8 []⟩]) , RunAny Go.Proofs.Try.prog (Ret fun v w' => v = .bool r ∧ Mem w w' []) 6 (rest1 (pl Go.Proofs.Try.f6 [1, 1, 1, 0])) 125 (opsOf (pl Go.Proofs.Try.f6 [1, 1, 1, 0])) (Still W567 [.slice (some ⟨g21, 0, none⟩) 0 0]) 9 [0, 2, 3, 4, 5, 6, 9, 10, 11, 12, 13, 16, 1] [(0, .slice Ap0 a0.length cp0), (22, .slice Ap0 a0.length cp0), (23, .slice (some ⟨g21, 0, none⟩) 0 0), (28, .slice A9 (((a0.take (mn (a0.length : Int) 4 : Int).toNat).drop (0 : Int).toNat).length) c11), (35, .slice A16 (((a0.take (mn (a0.length : Int) 8 : Int).toNat).drop (0 : Int).toNat).length) c18), (38, .slice Ap0 a0.length cp0)] W567 := by
                      intro g21 W567 hS hM 
                      refine RunAny.all [7, 8, 15, 18] (by kernel_rfl) (by simp) ?_
                      refine ⟨?_, ?_, ?_, ?_, trivial⟩
                      · have h_ := of_decide_eq_true c252
                        obtain ⟨A568, n569, c570, W571, hD, hM', hS_⟩ := app_does (P := Go.Proofs.Try.prog) (n := 125) (k := (one (opsOf (pl Go.Proofs.Try.f6 [1, 1, 1, 0])) 7)) (L := [(0, .slice Ap0 a0.length cp0), (22, .slice Ap0 a0.length cp0), (23, .slice (some ⟨g21, 0, none⟩) 0 0), (28, .slice A9 (((a0.take (mn (a0.length : Int) 4 : Int).toNat).drop (0 : Int).toNat).length) c11), (35, .slice A16 (((a0.take (mn (a0.length : Int) 8 : Int).toNat).drop (0 : Int).toNat).length) c18), (38, .slice Ap0 a0.length cp0)]) (d := some 29) (e := 5) (A := (some ⟨g21, 0, none⟩)) (m := 0) (c := 0) (A2 := A9) (m2 := ((a0.take (mn (a0.length : Int) 4 : Int).toNat).drop (0 : Int).toNat).length) (c2 := c11) (cs := nums .u8 ([] : List Int)) (ys := nums .u8 ((a0.take (mn (a0.length : Int) 4 : Int).toNat).drop (0 : Int).toNat)) (k2 := [.inRegion (opsOf (pl Go.Proofs.Try.f6 [1, 1, 1, 0])) []]) [] [] (by kernel_rfl) (hM.pick [0] rfl rfl) (hs13 _ (hr0.mono hM.below)) (one_nums _ _) (by omega)
                        rw [nums_append] at hM'
                        replace hM := hM'; clear h_ hM'
                        obtain rfl : (([] : List Int) ++ ((a0.take (mn (a0.length : Int) 4 : Int).toNat).drop (0 : Int).toNat)).length = n569 := by have h_ := (hM.rd 0 rfl).1; simpa only [nums_length, bools_length, strs_length] using h_
                        refine Stepped.does 7 hD (hS.app hS_ (by simp)) ?_
                        clear hD
                        replace hS := (hS.app hS_ (by simp)); clear hS_
                        refine RunAny.rebase3 (G2 := []) hS (by intro v_ hv_ b_ hb_; simp only [List.mem_cons, List.not_mem_nil, or_false] at hv_) ?_
                        replace hS := Still.refl W571 []
                        exact RunAny.same [0, 2, 3, 4, 5, 6, 9, 10, 11, 12, 13, 16, 1, 7] (by kernel_rfl) [0, 22, 29, 35, 38] (by kernel_rfl) (J522 A568 c570 _ hS (hM.pick [0] rfl rfl))
                      · refine Stepped.new2 8 5 1 0 (nums .u8 []) (d := some 30) (k2 := [.inRegion (opsOf (pl Go.Proofs.Try.f6 [1, 1, 1, 0])) []]) hM (by simp [nums, bools, strs]) (by kernel_rfl) (by kernel_rfl) hS ?_
                        intro g574 W575 hN_ hS hM
                        have hNew_ : ∀ b_, blk (.slice (some ⟨g574, 0, none⟩) 0 0) = some b_ → W567.heap.size ≤ b_ := fun b_ hb_ => by injection hb_ with hb_; subst hb_; exact hN_
                        refine RunAny.rebase3 (G2 := [.slice (some ⟨g21, 0, none⟩) 0 0, .slice (some ⟨g574, 0, none⟩) 0 0]) hS (by intro v_ hv_ b_ hb_; simp only [List.mem_cons, List.not_mem_nil, or_false] at hv_; rcases hv_ with rfl | rfl; exact .inl ⟨_, by simp, hb_⟩; exact .inr (hNew_ b_ hb_)) ?_
                        replace hS := Still.refl W575 [.slice (some ⟨g21, 0, none⟩) 0 0, .slice (some ⟨g574, 0, none⟩) 0 0]
                        exact RunAny.same [0, 2, 3, 4, 5, 6, 9, 10, 11, 12, 13, 16, 1, 8] (by kernel_rfl) [0, 22, 23, 28, 30, 35, 38] (by kernel_rfl) (J508 g21 g574 _ hS (hM.pick [1, 0] rfl rfl))
                      · refine Stepped.new2 15 5 1 0 (nums .u8 []) (d := some 37) (k2 := [.inRegion (opsOf (pl Go.Proofs.Try.f6 [1, 1, 1, 0])) []]) hM (by simp [nums, bools, strs]) (by kernel_rfl) (by kernel_rfl) hS ?_
                        intro g577 W578 hN_ hS hM
                        have hNew_ : ∀ b_, blk (.slice (some ⟨g577, 0, none⟩) 0 0) = some b_ → W567.heap.size ≤ b_ := fun b_ hb_ => by injection hb_ with hb_; subst hb_; exact hN_
                        refine RunAny.rebase3 (G2 := [.slice (some ⟨g21, 0, none⟩) 0 0, .slice (some ⟨g577, 0, none⟩) 0 0]) hS (by intro v_ hv_ b_ hb_; simp only [List.mem_cons, List.not_mem_nil, or_false] at hv_; rcases hv_ with rfl | rfl; exact .inl ⟨_, by simp, hb_⟩; exact .inr (hNew_ b_ hb_)) ?_
                        replace hS := Still.refl W578 [.slice (some ⟨g21, 0, none⟩) 0 0, .slice (some ⟨g577, 0, none⟩) 0 0]
                        exact RunAny.same [0, 2, 3, 4, 5, 6, 9, 10, 11, 12, 13, 16, 1, 15] (by kernel_rfl) [0, 22, 23, 28, 35, 37, 38] (by kernel_rfl) (J494 g21 g577 _ hS (hM.pick [1, 0] rfl rfl))
                      · refine Stepped.new 18 5 1 4 (nums .u8 [1, 2, 3, 4]) (d := some 40) (k2 := [.inRegion (opsOf (pl Go.Proofs.Try.f6 [1, 1, 1, 0])) []]) hM (by simp [nums, bools, strs]) (by kernel_rfl) (by kernel_rfl) hS ?_
                        intro g580 W581 hS hM
                        refine RunAny.rebase hS ?_
                        replace hS := Still.refl W581 [.slice (some ⟨g21, 0, none⟩) 0 0]
                        exact RunAny.same [0, 2, 3, 4, 5, 6, 9, 10, 11, 12, 13, 16, 1, 18] (by kernel_rfl) [0, 22, 23, 28, 35, 38, 40] (by kernel_rfl) (J480 g21 g580 _ hS (hM.pick [1, 0] rfl rfl))
                    refine RunAny.all [1, 8, 15, 18] (by kernel_rfl) (by simp) ?_
                    refine ⟨?_, ?_, ?_, ?_, trivial⟩
                    · refine Stepped.new2 1 5 1 0 (nums .u8 []) (d := some 23) (k2 := [.inRegion (opsOf (pl Go.Proofs.Try.f6 [1, 1, 1, 0])) []]) hM (by simp [nums, bools, strs]) (by kernel_rfl) (by kernel_rfl) hS ?_
                      intro g583 W584 hN_ hS hM
                      have hNew_ : ∀ b_, blk (.slice (some ⟨g583, 0, none⟩) 0 0) = some b_ → W5.heap.size ≤ b_ := fun b_ hb_ => by injection hb_ with hb_; subst hb_; exact hN_
                      refine RunAny.rebase3 (G2 := [.slice (some ⟨g583, 0, none⟩) 0 0]) hS (by intro v_ hv_ b_ hb_; simp only [List.mem_cons, List.not_mem_nil, or_false] at hv_; subst hv_; exact .inr (hNew_ b_ hb_)) ?_
                      replace hS := Still.refl W584 [.slice (some ⟨g583, 0, none⟩) 0 0]
                      exact RunAny.same [0, 2, 3, 4, 5, 6, 9, 10, 11, 12, 13, 16, 1] (by kernel_rfl) [0, 22, 23, 28, 35, 38] (by kernel_rfl) (J566 g583 _ hS (hM.pick [0] rfl rfl))
                    · refine Stepped.new2 8 5 1 0 (nums .u8 []) (d := some 30) (k2 := [.inRegion (opsOf (pl Go.Proofs.Try.f6 [1, 1, 1, 0])) []]) hM (by simp [nums, bools, strs]) (by kernel_rfl) (by kernel_rfl) hS ?_
                      intro g586 W587 hN_ hS hM
                      have hNew_ : ∀ b_, blk (.slice (some ⟨g586, 0, none⟩) 0 0) = some b_ → W5.heap.size ≤ b_ := fun b_ hb_ => by injection hb_ with hb_; subst hb_; exact hN_
                      refine RunAny.rebase3 (G2 := [.slice (some ⟨g586, 0, none⟩) 0 0]) hS (by intro v_ hv_ b_ hb_; simp only [List.mem_cons, List.not_mem_nil, or_false] at hv_; subst hv_; exact .inr (hNew_ b_ hb_)) ?_
                      replace hS := Still.refl W587 [.slice (some ⟨g586, 0, none⟩) 0 0]
                      exact RunAny.same [0, 2, 3, 4, 5, 6, 9, 10, 11, 12, 13, 16, 8] (by kernel_rfl) [0, 22, 28, 30, 35, 38] (by kernel_rfl) (J555 g586 _ hS (hM.pick [0] rfl rfl))
                    · refine Stepped.new2 15 5 1 0 (nums .u8 []) (d := some 37) (k2 := [.inRegion (opsOf (pl Go.Proofs.Try.f6 [1, 1, 1, 0])) []]) hM (by simp [nums, bools, strs]) (by kernel_rfl) (by kernel_rfl) hS ?_
                      intro g589 W590 hN_ hS hM
                      have hNew_ : ∀ b_, blk (.slice (some ⟨g589, 0, none⟩) 0 0) = some b_ → W5.heap.size ≤ b_ := fun b_ hb_ => by injection hb_ with hb_; subst hb_; exact hN_
                      refine RunAny.rebase3 (G2 := [.slice (some ⟨g589, 0, none⟩) 0 0]) hS (by intro v_ hv_ b_ hb_; simp only [List.mem_cons, List.not_mem_nil, or_false] at hv_; subst hv_; exact .inr (hNew_ b_ hb_)) ?_
                      replace hS := Still.refl W590 [.slice (some ⟨g589, 0, none⟩) 0 0]
                      exact RunAny.same [0, 2, 3, 4, 5, 6, 9, 10, 11, 12, 13, 16, 15] (by kernel_rfl) [0, 22, 28, 35, 37, 38] (by kernel_rfl) (J544 g589 _ hS (hM.pick [0] rfl rfl))
                    · refine Stepped.new 18 5 1 4 (nums .u8 [1, 2, 3, 4]) (d := some 40) (k2 := [.inRegion (opsOf (pl Go.Proofs.Try.f6 [1, 1, 1, 0])) []]) hM (by simp [nums, bools, strs]) (by kernel_rfl) (by kernel_rfl) hS ?_
                      intro g592 W593 hS hM
                      refine RunAny.rebase hS ?_
                      replace hS := Still.refl W593 []
                      exact RunAny.same [0, 2, 3, 4, 5, 6, 9, 10, 11, 12, 13, 16, 18] (by kernel_rfl) [0, 22, 28, 35, 38, 40] (by kernel_rfl) (J533 g592 _ hS (hM.pick [0] rfl rfl))
                  · replace h := of_false h c254
                    cases h
                · replace h := of_false h c253
                  cases h
              · replace h := of_false h c252
                cases h
            · replace h := of_false h c15
              cases h
          · replace h := of_false h c14
            cases h
        · replace h := of_false h c8
          cases h
      · replace h := of_false h c7
        cases h


end Go.Scr.S
