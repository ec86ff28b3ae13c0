/- The functions that the law WordsKnown reaches, as plain functions, and that each call answers so. -/
import Derived.Test.YtjhoigcoijinfaaProg
import Derived.Test.YtjhoigcoijinfaaXDeep3
set_option linter.unusedVariables false
set_option linter.unusedSimpArgs false
set_option linter.unnecessarySimpa false
namespace Go.Scr.S
open Go.RowKit (Below)

/-! ### scrim/words.Inc: function 16 -/
def words_Inc.l0 : Nat → (List Int) → (List Int) → Int → Option (List Int)
  | 0, _, _, _ => none
  | k + 1, a0, x3_0, x4_0 => if (decide (x4_0 > 0)) = true then (if (decide (0 ≤ (I64 (x4_0 - 1)))) = true then (if (decide ((I64 (x4_0 - 1)) < (((List.replicate 0 (0 : Int)) ++ a0).length : Int))) = true then (if (decide (0 ≤ (I64 (x4_0 - 1)))) = true then (if (decide ((I64 (x4_0 - 1)) < (((List.replicate 0 (0 : Int)) ++ a0).length : Int))) = true then (if (decide (0 ≤ (I64 (x4_0 - 1)))) = true then (if (decide ((I64 (x4_0 - 1)) < (((List.replicate 0 (0 : Int)) ++ a0).length : Int))) = true then ((some (((rd (x3_0.set (I64 (x4_0 - 1) : Int).toNat (U8 ((rd x3_0 (I64 (x4_0 - 1))) + 1))) (I64 (x4_0 - 1))) == 0) : Bool)).bind fun y24 => (if y24 = true then (words_Inc.l0 k a0 (x3_0.set (I64 (x4_0 - 1) : Int).toNat (U8 ((rd x3_0 (I64 (x4_0 - 1))) + 1))) (I64 (x4_0 - 1))) else (some (x3_0.set (I64 (x4_0 - 1) : Int).toNat (U8 ((rd x3_0 (I64 (x4_0 - 1))) + 1)))))) else (none)) else (none)) else (none)) else (none)) else (none)) else (none)) else (some x3_0)
def words_Inc.f (k : Nat) (a0 : List Int) : Option (List Int) := if (decide (0 ≤ (a0.length : Int))) = true then (if (decide ((a0.length : Int) ≤ 1000000000)) = true then (if (decide ((List.replicate 0 (0 : Int)).length + a0.length ≤ 1000000000)) = true then ((some ((((List.replicate 0 (0 : Int)) ++ a0).length : Int) : Int)).bind fun y12 => (words_Inc.l0 k a0 ((List.replicate 0 (0 : Int)) ++ a0) y12)) else (none)) else (none)) else (none)
set_option maxRecDepth 100000 in
theorem words_Inc.calls (k : Nat) (Ap0 : Option Addr) (np0 cp0 : Nat) (a0 : List Int) (r : List Int) (w : World) (hr0 : Rd w (.slice Ap0 np0 cp0) (nums .u8 a0)) (h : words_Inc.f k a0 = some r) :
    Calls Go.Proofs.Try.prog 16 #[(.slice Ap0 np0 cp0)] w (Ret fun v w' => ∃ A0' n0' c0', v = .slice A0' n0' c0' ∧ Mem w w' [⟨.slice A0' n0' c0', 5, 1, nums .u8 r⟩]) := by
  obtain rfl : a0.length = np0 := by have h_ := hr0.1; simpa [nums_length, bools_length, strs_length] using h_
  unfold words_Inc.f at h
  refine calls_of [.slice Ap0 a0.length cp0] (fn := Go.Proofs.Try.f16) Go.Proofs.Try.func16 (by kernel_rfl) (by kernel_rfl) ?_
  have hM := Mem.refl w
  refine RunF.go 9 [0, 6] (k' := (pin Go.Proofs.Try.f16 [1, 0, 0] 2)) (L' := [(0, .slice Ap0 a0.length cp0), (6, .int .i64 (a0.length : Int))]) (w' := w) (by kernel_rfl) ?_
  rcases two (decide (0 ≤ (a0.length : Int))) with c3 | c3
  · replace h := of_true h c3
    rcases two (decide ((a0.length : Int) ≤ 1000000000)) with c4 | c4
    · replace h := of_true h c4
      have := of_decide_eq_true c3
      have := of_decide_eq_true c4
      obtain ⟨W1, hD, hM', hB_⟩ := mk_does (P := Go.Proofs.Try.prog) (n := 28) (k := (pin Go.Proofs.Try.f16 [1, 0, 0] 2)) (L := [(0, .slice Ap0 a0.length cp0), (6, .int .i64 (a0.length : Int))]) (d := some 7) (e := 5) (z := .int .u8 0) (l := 0) (c := (a0.length : Int)) (k2 := (pin Go.Proofs.Try.f16 [1, 0, 0] 3)) (by kernel_rfl) (by omega) (by omega) (by omega) hM
      rw [rep_nums] at hM'
      refine RunF.does hD ?_
      replace hM := hM'; clear hD hM'
      generalize w.heap.size = g2 at hM ⊢
      refine RunF.go 1 [7, 8] (k' := (pin Go.Proofs.Try.f16 [1, 0, 0] 4)) (L' := [(7, .slice (some ⟨g2, 0, none⟩) 0 (((a0.length : Int) : Int).toNat)), (8, .slice Ap0 a0.length cp0)]) (w' := W1) (by kernel_rfl) ?_
      rcases two (decide ((List.replicate 0 (0 : Int)).length + a0.length ≤ 1000000000)) with c10 | c10
      · replace h := of_true h c10
        have h_ := of_decide_eq_true c10
        obtain ⟨A6, n7, c8, W9, hD, hM', hS_⟩ := app_does (P := Go.Proofs.Try.prog) (n := 28) (k := (pin Go.Proofs.Try.f16 [1, 0, 0] 4)) (L := [(7, .slice (some ⟨g2, 0, none⟩) 0 (((a0.length : Int) : Int).toNat)), (8, .slice Ap0 a0.length cp0)]) (d := some 9) (e := 5) (A := (some ⟨g2, 0, none⟩)) (m := 0) (c := ((a0.length : Int) : Int).toNat) (A2 := Ap0) (m2 := a0.length) (c2 := cp0) (cs := nums .u8 (List.replicate 0 (0 : Int))) (ys := nums .u8 a0) (k2 := (pin Go.Proofs.Try.f16 [1, 0, 0] 5)) [] [] (by kernel_rfl) (hM.pick [0] rfl rfl) (hr0.mono hM.below) (one_nums _ _) (by omega)
        rw [nums_append] at hM'
        replace hM := hM'; clear h_ hM'
        obtain rfl : ((List.replicate 0 (0 : Int)) ++ a0).length = n7 := by have h_ := (hM.rd 0 rfl).1; simpa only [nums_length, bools_length, strs_length] using h_
        refine RunF.does hD ?_
        clear hD hS_
        refine RunF.go 10 [3, 4] (k' := (pl Go.Proofs.Try.f16 [1, 0, 1, 1, 1])) (L' := [(3, .slice A6 (((List.replicate 0 (0 : Int)) ++ a0).length) c8), (4, .int .i64 (((List.replicate 0 (0 : Int)) ++ a0).length : Int))]) (w' := W9) (by kernel_rfl) ?_
        obtain ⟨y12, hy, h⟩ := Option.bind_eq_some_iff.mp h
        rw [show ((((List.replicate 0 (0 : Int)) ++ a0).length : Int)) = y12 from Option.some.inj hy]
        clear hy
        have l0 : ∀ (k_ : Nat), k_ ≤ k → ∀ (x3_0 : List Int) (x4_0 : Int) (W : World) (hM : Mem w W [⟨.slice A6 (((List.replicate 0 (0 : Int)) ++ a0).length) c8, 5, 1, nums .u8 x3_0⟩]) (h : words_Inc.l0 k_ a0 x3_0 x4_0 = some r), RunF Go.Proofs.Try.prog (Ret fun v w' => ∃ A0' n0' c0', v = .slice A0' n0' c0' ∧ Mem w w' [⟨.slice A0' n0' c0', 5, 1, nums .u8 r⟩]) 16 (pl Go.Proofs.Try.f16 [1, 0, 1, 1, 1]) 28 [(3, .slice A6 (((List.replicate 0 (0 : Int)) ++ a0).length) c8), (4, .int .i64 x4_0)] W := by
          intro k_
          induction k_ using Nat.strongRecOn with
          | _ k_ ih0 =>
            intro hk x3_0 x4_0 W hM h
            cases k_ with
            | zero => exact absurd h (by simp [words_Inc.l0])
            | succ k =>
              simp only [words_Inc.l0] at h
              replace ih0 : ∀ m, m ≤ k → _ := fun m hm => ih0 m (by omega) (by omega)
              refine RunF.go 6 [3, 4, 13] (k' := (pl Go.Proofs.Try.f16 [1, 0, 1, 1, 1, 0, 1])) (L' := [(3, .slice A6 (((List.replicate 0 (0 : Int)) ++ a0).length) c8), (4, .int .i64 x4_0), (13, .bool (decide (x4_0 > 0)))]) (w' := W) (by kernel_rfl) ?_
              rcases two (decide (x4_0 > 0)) with c13 | c13
              · replace h := of_true h c13
                refine RunF.know 13 (b := true) (by kernel_rfl) c13 ?_
                refine RunF.go 11 [3, 4, 16, 17] (k' := (pin Go.Proofs.Try.f16 [1, 0, 1, 1, 1, 0, 1, 0, 1, 0] 2)) (L' := [(3, .slice A6 (((List.replicate 0 (0 : Int)) ++ a0).length) c8), (4, .int .i64 (I64 (x4_0 - 1))), (16, .slice A6 (((List.replicate 0 (0 : Int)) ++ a0).length) c8), (17, .int .i64 (I64 (x4_0 - 1)))]) (w' := W) (by kernel_rfl) ?_
                rcases two (decide (0 ≤ (I64 (x4_0 - 1)))) with c15 | c15
                · replace h := of_true h c15
                  rcases two (decide ((I64 (x4_0 - 1)) < (((List.replicate 0 (0 : Int)) ++ a0).length : Int))) with c16 | c16
                  · replace h := of_true h c16
                    obtain ⟨q14, hAq14, hcq14, hfq14, hlq14⟩ := hM.num_at 0 rfl (i := I64 (x4_0 - 1)) (of_decide_eq_true c15) (by have h_ := of_decide_eq_true c16; omega)
                    refine RunF.y (idx_own (d := some 18) (A := A6) (m := ((List.replicate 0 (0 : Int)) ++ a0).length) (i := I64 (x4_0 - 1)) (k2 := (pin Go.Proofs.Try.f16 [1, 0, 1, 1, 1, 0, 1, 0, 1, 0] 3)) (by kernel_rfl) (of_decide_eq_true c15) (by have h_ := of_decide_eq_true c16; omega) hAq14) trivial ?_
                    refine RunF.y (ld_y (d := some 19) (p := ⟨q14, (I64 (x4_0 - 1) : Int).toNat, none⟩) (k2 := (pin Go.Proofs.Try.f16 [1, 0, 1, 1, 1, 0, 1, 0, 1, 0] 4)) (.int .u8 (rd x3_0 (I64 (x4_0 - 1)))) (by kernel_rfl)) hcq14 ?_
                    refine RunF.go 1 [3, 4, 16, 17, 20] (k' := (pin Go.Proofs.Try.f16 [1, 0, 1, 1, 1, 0, 1, 0, 1, 0] 5)) (L' := [(3, .slice A6 (((List.replicate 0 (0 : Int)) ++ a0).length) c8), (4, .int .i64 (I64 (x4_0 - 1))), (16, .slice A6 (((List.replicate 0 (0 : Int)) ++ a0).length) c8), (17, .int .i64 (I64 (x4_0 - 1))), (20, .int .u8 (U8 ((rd x3_0 (I64 (x4_0 - 1))) + 1)))]) (w' := W) (by kernel_rfl) ?_
                    rcases two (decide (0 ≤ (I64 (x4_0 - 1)))) with c18 | c18
                    · replace h := of_true h c18
                      rcases two (decide ((I64 (x4_0 - 1)) < (((List.replicate 0 (0 : Int)) ++ a0).length : Int))) with c19 | c19
                      · replace h := of_true h c19
                        obtain ⟨q17, hAq17, hcq17, hfq17, hlq17⟩ := hM.num_at 0 rfl (i := I64 (x4_0 - 1)) (of_decide_eq_true c18) (by have h_ := of_decide_eq_true c19; omega)
                        refine RunF.y (idx_own (d := some 21) (A := A6) (m := ((List.replicate 0 (0 : Int)) ++ a0).length) (i := I64 (x4_0 - 1)) (k2 := (pin Go.Proofs.Try.f16 [1, 0, 1, 1, 1, 0, 1, 0, 1, 0] 6)) (by kernel_rfl) (of_decide_eq_true c18) (by have h_ := of_decide_eq_true c19; omega) hAq17) trivial ?_
                        obtain ⟨g_, hA_, hc_, hf_, hl_⟩ := hM.num_at 0 rfl (i := I64 (x4_0 - 1)) (of_decide_eq_true c18) (by have h_ := of_decide_eq_true c19; omega)
                        obtain rfl : q17 = g_ := by rw [hAq17] at hA_; injection hA_ with hA_; injection hA_
                        refine RunF.doesU (st_u (p := (⟨q17, (I64 (x4_0 - 1) : Int).toNat, none⟩ : Addr)) (v := .int .u8 (U8 ((rd x3_0 (I64 (x4_0 - 1))) + 1))) (k2 := (pin Go.Proofs.Try.f16 [1, 0, 1, 1, 1, 0, 1, 0, 1, 0] 7)) (by kernel_rfl) hc_ hf_) ?_
                        replace hM : Mem w (W.setCell (⟨q17, (I64 (x4_0 - 1) : Int).toNat, none⟩ : Addr) (.int .u8 (U8 ((rd x3_0 (I64 (x4_0 - 1))) + 1)))) [⟨.slice A6 (((List.replicate 0 (0 : Int)) ++ a0).length) c8, 5, 1, nums .u8 (x3_0.set (I64 (x4_0 - 1) : Int).toNat (U8 ((rd x3_0 (I64 (x4_0 - 1))) + 1)))⟩] := Mem.put_num [] [] (hM.pick [0] rfl rfl) hAq17 _ hl_ _
                        generalize W.setCell (⟨q17, (I64 (x4_0 - 1) : Int).toNat, none⟩ : Addr) (.int .u8 (U8 ((rd x3_0 (I64 (x4_0 - 1))) + 1))) = W20 at hM ⊢
                        clear hc_ hf_ hl_ hA_ hcq17
                        refine RunF.go 5 [3, 4, 22, 23] (k' := (pin Go.Proofs.Try.f16 [1, 0, 1, 1, 1, 0, 1, 0, 1, 1, 0] 2)) (L' := [(3, .slice A6 (((List.replicate 0 (0 : Int)) ++ a0).length) c8), (4, .int .i64 (I64 (x4_0 - 1))), (22, .slice A6 (((List.replicate 0 (0 : Int)) ++ a0).length) c8), (23, .int .i64 (I64 (x4_0 - 1)))]) (w' := W20) (by kernel_rfl) ?_
                        rcases two (decide (0 ≤ (I64 (x4_0 - 1)))) with c22 | c22
                        · replace h := of_true h c22
                          rcases two (decide ((I64 (x4_0 - 1)) < (((List.replicate 0 (0 : Int)) ++ a0).length : Int))) with c23 | c23
                          · replace h := of_true h c23
                            obtain ⟨q21, hAq21, hcq21, hfq21, hlq21⟩ := hM.num_at 0 rfl (i := I64 (x4_0 - 1)) (of_decide_eq_true c22) (by have h_ := of_decide_eq_true c23; omega)
                            refine RunF.y (idx_own (d := some 24) (A := A6) (m := ((List.replicate 0 (0 : Int)) ++ a0).length) (i := I64 (x4_0 - 1)) (k2 := (pin Go.Proofs.Try.f16 [1, 0, 1, 1, 1, 0, 1, 0, 1, 1, 0] 3)) (by kernel_rfl) (of_decide_eq_true c22) (by have h_ := of_decide_eq_true c23; omega) hAq21) trivial ?_
                            refine RunF.y (ld_y (d := some 25) (p := ⟨q21, (I64 (x4_0 - 1) : Int).toNat, none⟩) (k2 := (pin Go.Proofs.Try.f16 [1, 0, 1, 1, 1, 0, 1, 0, 1, 1, 0] 4)) (.int .u8 (rd (x3_0.set (I64 (x4_0 - 1) : Int).toNat (U8 ((rd x3_0 (I64 (x4_0 - 1))) + 1))) (I64 (x4_0 - 1)))) (by kernel_rfl)) hcq21 ?_
                            refine RunF.go 2 [3, 4, 26] (k' := (pl Go.Proofs.Try.f16 [1, 0, 1, 1, 1, 0, 1, 0, 1, 1, 1])) (L' := [(3, .slice A6 (((List.replicate 0 (0 : Int)) ++ a0).length) c8), (4, .int .i64 (I64 (x4_0 - 1))), (26, .bool ((rd (x3_0.set (I64 (x4_0 - 1) : Int).toNat (U8 ((rd x3_0 (I64 (x4_0 - 1))) + 1))) (I64 (x4_0 - 1))) == 0))]) (w' := W20) (by kernel_rfl) ?_
                            obtain ⟨y24, hy, h⟩ := Option.bind_eq_some_iff.mp h
                            rw [show (((rd (x3_0.set (I64 (x4_0 - 1) : Int).toNat (U8 ((rd x3_0 (I64 (x4_0 - 1))) + 1))) (I64 (x4_0 - 1))) == 0)) = y24 from Option.some.inj hy]
                            clear hy
                            rcases two (y24) with c25 | c25
                            · replace h := of_true h c25
                              refine RunF.know 26 (b := true) (by kernel_rfl) c25 ?_
                              refine RunF.go 4 [3, 4] (k' := (pl Go.Proofs.Try.f16 [1, 0, 1, 1, 1])) (L' := [(3, .slice A6 (((List.replicate 0 (0 : Int)) ++ a0).length) c8), (4, .int .i64 (I64 (x4_0 - 1)))]) (w' := W20) (by kernel_rfl) ?_
                              exact ih0 k (by omega) (x3_0.set (I64 (x4_0 - 1) : Int).toNat (U8 ((rd x3_0 (I64 (x4_0 - 1))) + 1))) (I64 (x4_0 - 1)) _ (hM.pick [0] rfl rfl) h
                            · replace h := of_false h c25
                              refine RunF.know 26 (b := false) (by kernel_rfl) c25 ?_
                              refine RunF.go 7 [2] (k' := (pl Go.Proofs.Try.f16 [1, 0, 1, 1, 1, 1, 1])) (L' := [(2, .slice A6 (((List.replicate 0 (0 : Int)) ++ a0).length) c8)]) (w' := W20) (by kernel_rfl) ?_
                              obtain rfl := Option.some.inj h
                              exact RunF.ret1 2 (.slice A6 (((List.replicate 0 (0 : Int)) ++ a0).length) c8) (fn := Go.Proofs.Try.f16) Go.Proofs.Try.func16 (by kernel_rfl) (by kernel_rfl) (by kernel_rfl) ⟨_, rfl, A6, ((List.replicate 0 (0 : Int)) ++ a0).length, c8, rfl, (hM.pick [0] rfl rfl)⟩
                          · replace h := of_false h c23
                            cases h
                        · replace h := of_false h c22
                          cases h
                      · replace h := of_false h c19
                        cases h
                    · replace h := of_false h c18
                      cases h
                  · replace h := of_false h c16
                    cases h
                · replace h := of_false h c15
                  cases h
              · replace h := of_false h c13
                refine RunF.know 13 (b := false) (by kernel_rfl) c13 ?_
                refine RunF.go 7 [2] (k' := (pl Go.Proofs.Try.f16 [1, 0, 1, 1, 1, 1, 1])) (L' := [(2, .slice A6 (((List.replicate 0 (0 : Int)) ++ a0).length) c8)]) (w' := W) (by kernel_rfl) ?_
                obtain rfl := Option.some.inj h
                exact RunF.ret1 2 (.slice A6 (((List.replicate 0 (0 : Int)) ++ a0).length) c8) (fn := Go.Proofs.Try.f16) Go.Proofs.Try.func16 (by kernel_rfl) (by kernel_rfl) (by kernel_rfl) ⟨_, rfl, A6, ((List.replicate 0 (0 : Int)) ++ a0).length, c8, rfl, (hM.pick [0] rfl rfl)⟩
        exact l0 k (Nat.le_refl _) ((List.replicate 0 (0 : Int)) ++ a0) y12 _ (hM.pick [0] rfl rfl) h
      · replace h := of_false h c10
        cases h
    · replace h := of_false h c4
      cases h
  · replace h := of_false h c3
    cases h

/-! ### scrim/words.load: function 38 -/
def words_load.l0 : Nat → (List Int) → Int → Int → Option (Int)
  | 0, _, _, _ => none
  | k + 1, a0, x3_0, x4_0 => if (decide (x4_0 < (a0.length : Int))) = true then (if (decide (0 ≤ x4_0)) = true then (if (decide (x4_0 < (a0.length : Int))) = true then ((some (bor .u64 (shl .u64 x3_0 8) (U64 (rd a0 x4_0)) : Int)).bind fun y5 => (words_load.l0 k a0 y5 (I64 (x4_0 + 1)))) else (none)) else (none)) else (some x3_0)
def words_load.f (k : Nat) (a0 : List Int) : Option (Int) := words_load.l0 k a0 0 0
set_option maxRecDepth 100000 in
theorem words_load.calls (k : Nat) (Ap0 : Option Addr) (np0 cp0 : Nat) (a0 : List Int) (r : Int) (w : World) (hr0 : Rd w (.slice Ap0 np0 cp0) (nums .u8 a0)) (h : words_load.f k a0 = some r) :
    Calls Go.Proofs.Try.prog 38 #[(.slice Ap0 np0 cp0)] w (Ret fun v w' => v = .int .u64 r ∧ Mem w w' []) := by
  obtain rfl : a0.length = np0 := by have h_ := hr0.1; simpa [nums_length, bools_length, strs_length] using h_
  unfold words_load.f at h
  refine calls_of [.slice Ap0 a0.length cp0] (fn := Go.Proofs.Try.f38) Go.Proofs.Try.func38 (by kernel_rfl) (by kernel_rfl) ?_
  have hM := Mem.refl w
  refine RunF.go 12 [0, 3, 4] (k' := (pl Go.Proofs.Try.f38 [1, 0, 1, 1])) (L' := [(0, .slice Ap0 a0.length cp0), (3, .int .u64 0), (4, .int .i64 0)]) (w' := w) (by kernel_rfl) ?_
  have l0 : ∀ (k_ : Nat), k_ ≤ k → ∀ (x3_0 : Int) (x4_0 : Int) (W : World) (hM : Mem w W []) (h : words_load.l0 k_ a0 x3_0 x4_0 = some r), RunF Go.Proofs.Try.prog (Ret fun v w' => v = .int .u64 r ∧ Mem w w' []) 38 (pl Go.Proofs.Try.f38 [1, 0, 1, 1]) 20 [(0, .slice Ap0 a0.length cp0), (3, .int .u64 x3_0), (4, .int .i64 x4_0)] W := by
    intro k_
    induction k_ using Nat.strongRecOn with
    | _ k_ ih0 =>
      intro hk x3_0 x4_0 W hM h
      cases k_ with
      | zero => exact absurd h (by simp [words_load.l0])
      | succ k =>
        simp only [words_load.l0] at h
        replace ih0 : ∀ m, m ≤ k → _ := fun m hm => ih0 m (by omega) (by omega)
        refine RunF.go 8 [0, 3, 4, 8] (k' := (pl Go.Proofs.Try.f38 [1, 0, 1, 1, 0, 1])) (L' := [(0, .slice Ap0 a0.length cp0), (3, .int .u64 x3_0), (4, .int .i64 x4_0), (8, .bool (decide (x4_0 < (a0.length : Int))))]) (w' := W) (by kernel_rfl) ?_
        rcases two (decide (x4_0 < (a0.length : Int))) with c1 | c1
        · replace h := of_true h c1
          refine RunF.know 8 (b := true) (by kernel_rfl) c1 ?_
          refine RunF.go 7 [0, 4, 10, 11, 12] (k' := (pin Go.Proofs.Try.f38 [1, 0, 1, 1, 0, 1, 0, 0] 4)) (L' := [(0, .slice Ap0 a0.length cp0), (4, .int .i64 x4_0), (10, .int .u64 (shl .u64 x3_0 8)), (11, .slice Ap0 a0.length cp0), (12, .int .i64 x4_0)]) (w' := W) (by kernel_rfl) ?_
          rcases two (decide (0 ≤ x4_0)) with c3 | c3
          · replace h := of_true h c3
            rcases two (decide (x4_0 < (a0.length : Int))) with c4 | c4
            · replace h := of_true h c4
              obtain ⟨q2, hAq2, hcq2⟩ := Rd.num (hr0.mono hM.below) (i := x4_0) (of_decide_eq_true c3) (by have h_ := of_decide_eq_true c4; omega)
              refine RunF.y (idx_y (d := some 13) (A := Ap0) (m := a0.length) (i := x4_0) (k2 := (pin Go.Proofs.Try.f38 [1, 0, 1, 1, 0, 1, 0, 0] 5)) (by kernel_rfl) (of_decide_eq_true c3) (by have h_ := of_decide_eq_true c4; omega) hAq2) trivial ?_
              refine RunF.y (ld_y (d := some 14) (p := (q2.add (x4_0 : Int).toNat)) (k2 := (pin Go.Proofs.Try.f38 [1, 0, 1, 1, 0, 1, 0, 0] 6)) (.int .u8 (rd a0 x4_0)) (by kernel_rfl)) hcq2 ?_
              refine RunF.go 13 [0, 3, 4] (k' := (pl Go.Proofs.Try.f38 [1, 0, 1, 1])) (L' := [(0, .slice Ap0 a0.length cp0), (3, .int .u64 (bor .u64 (shl .u64 x3_0 8) (U64 (rd a0 x4_0)))), (4, .int .i64 (I64 (x4_0 + 1)))]) (w' := W) (by kernel_rfl) ?_
              obtain ⟨y5, hy, h⟩ := Option.bind_eq_some_iff.mp h
              rw [show (bor .u64 (shl .u64 x3_0 8) (U64 (rd a0 x4_0))) = y5 from Option.some.inj hy]
              clear hy
              exact ih0 k (by omega) y5 (I64 (x4_0 + 1)) _ (hM.pick [] rfl rfl) h
            · replace h := of_false h c4
              cases h
          · replace h := of_false h c3
            cases h
        · replace h := of_false h c1
          refine RunF.know 8 (b := false) (by kernel_rfl) c1 ?_
          refine RunF.go 7 [2] (k' := (pl Go.Proofs.Try.f38 [1, 0, 1, 1, 1, 1])) (L' := [(2, .int .u64 x3_0)]) (w' := W) (by kernel_rfl) ?_
          obtain rfl := Option.some.inj h
          exact RunF.ret1 2 (.int .u64 x3_0) (fn := Go.Proofs.Try.f38) Go.Proofs.Try.func38 (by kernel_rfl) (by kernel_rfl) (by kernel_rfl) ⟨_, rfl, rfl, (hM.pick [] rfl rfl)⟩
  exact l0 k (Nat.le_refl _) 0 0 _ (hM.pick [] rfl rfl) h

/-! ### scrim/words.Be32: function 18 -/
def words_Be32.f (k : Nat) (a0 : List Int) : Option (Int × Bool) := if ((a0.length : Int) != 4) = true then (some (0, false)) else ((words_load.f k a0).bind fun t3 => (some (U32 (t3), true)))
set_option maxRecDepth 100000 in
theorem words_Be32.calls (k : Nat) (Ap0 : Option Addr) (np0 cp0 : Nat) (a0 : List Int) (r : Int × Bool) (w : World) (hr0 : Rd w (.slice Ap0 np0 cp0) (nums .u8 a0)) (h : words_Be32.f k a0 = some r) :
    Calls Go.Proofs.Try.prog 18 #[(.slice Ap0 np0 cp0)] w (Ret fun v w' => v = .tuple #[.int .u32 r.1, .bool r.2] ∧ Mem w w' []) := by
  obtain rfl : a0.length = np0 := by have h_ := hr0.1; simpa [nums_length, bools_length, strs_length] using h_
  unfold words_Be32.f at h
  refine calls_of [.slice Ap0 a0.length cp0] (fn := Go.Proofs.Try.f18) Go.Proofs.Try.func18 (by kernel_rfl) (by kernel_rfl) ?_
  have hM := Mem.refl w
  refine RunF.go 12 [0, 6] (k' := (pl Go.Proofs.Try.f18 [1, 0, 1])) (L' := [(0, .slice Ap0 a0.length cp0), (6, .bool ((a0.length : Int) != 4))]) (w' := w) (by kernel_rfl) ?_
  rcases two (((a0.length : Int) != 4)) with c1 | c1
  · replace h := of_true h c1
    refine RunF.know 6 (b := true) (by kernel_rfl) c1 ?_
    refine RunF.go 6 [2, 3] (k' := (pl Go.Proofs.Try.f18 [1, 0, 1, 0, 1])) (L' := [(2, .int .u32 0), (3, .bool false)]) (w' := w) (by kernel_rfl) ?_
    obtain rfl := Option.some.inj h
    exact RunF.ret2 2 3 (.int .u32 0) (.bool false) (fn := Go.Proofs.Try.f18) Go.Proofs.Try.func18 (by kernel_rfl) (by kernel_rfl) (by kernel_rfl) (by kernel_rfl) ⟨_, rfl, rfl, (hM.pick [] rfl rfl)⟩
  · replace h := of_false h c1
    refine RunF.know 6 (b := false) (by kernel_rfl) c1 ?_
    refine RunF.go 5 [7] (k' := (pin Go.Proofs.Try.f18 [1, 1, 0] 1)) (L' := [(7, .slice Ap0 a0.length cp0)]) (w' := w) (by kernel_rfl) ?_
    obtain ⟨t3, ht3, h⟩ := Option.bind_eq_some_iff.mp h
    refine RunF.call (d := some 8) (g := 38) (args := #[.slice Ap0 a0.length cp0]) (k2 := (pin Go.Proofs.Try.f18 [1, 1, 0] 2)) (by kernel_rfl) (words_load.calls k Ap0 a0.length cp0 a0 t3 _ (hr0.mono hM.below) ht3) ?_
    rintro _ W2 ⟨rfl, hM_⟩
    replace hM := hM.call hM_
    clear hM_ ht3
    refine RunF.go 4 [2, 3] (k' := (pl Go.Proofs.Try.f18 [1, 1, 1])) (L' := [(2, .int .u32 (U32 (t3))), (3, .bool true)]) (w' := W2) (by kernel_rfl) ?_
    obtain rfl := Option.some.inj h
    exact RunF.ret2 2 3 (.int .u32 (U32 (t3))) (.bool true) (fn := Go.Proofs.Try.f18) Go.Proofs.Try.func18 (by kernel_rfl) (by kernel_rfl) (by kernel_rfl) (by kernel_rfl) ⟨_, rfl, rfl, (hM.pick [] rfl rfl)⟩

/-! ### scrim/words.rest: function 43 -/
def words_rest.f (k : Nat) (a0 : Int) (a1 : Int) : Option (Int) := if (decide (a1 = 0)) = true then (none) else (if (decide (a1 = 0)) = true then (none) else (some (Int.tmod (I64 ((Int.tmod a0 a1) + a1)) a1)))
set_option maxRecDepth 100000 in
theorem words_rest.calls (k : Nat) (a0 : Int) (a1 : Int) (r : Int) (w : World) (h : words_rest.f k a0 a1 = some r) :
    Calls Go.Proofs.Try.prog 43 #[.int .i64 a0, .int .i64 a1] w (Ret fun v w' => v = .int .i64 r ∧ Mem w w' []) := by
  unfold words_rest.f at h
  refine calls_of [.int .i64 a0, .int .i64 a1] (fn := Go.Proofs.Try.f43) Go.Proofs.Try.func43 (by kernel_rfl) (by kernel_rfl) ?_
  have hM := Mem.refl w
  refine RunF.go 8 [1, 5, 6] (k' := (pin Go.Proofs.Try.f43 [1, 0] 2)) (L' := [(1, .int .i64 a1), (5, .int .i64 a0), (6, .int .i64 a1)]) (w' := w) (by kernel_rfl) ?_
  rcases two (decide (a1 = 0)) with c1 | c1
  · replace h := of_true h c1
    cases h
  · replace h := of_false h c1
    refine RunF.y (div_y (d := some 7) (b := false) (kd := .i64) (x := a0) (y := a1) (k2 := (pin Go.Proofs.Try.f43 [1, 0] 3)) (by kernel_rfl) c1) trivial ?_
    refine RunF.go 3 [9, 10] (k' := (pin Go.Proofs.Try.f43 [1, 0] 6)) (L' := [(9, .int .i64 (I64 ((Int.tmod a0 a1) + a1))), (10, .int .i64 a1)]) (w' := w) (by kernel_rfl) ?_
    rcases two (decide (a1 = 0)) with c2 | c2
    · replace h := of_true h c2
      cases h
    · replace h := of_false h c2
      refine RunF.y (div_y (d := some 11) (b := false) (kd := .i64) (x := I64 ((Int.tmod a0 a1) + a1)) (y := a1) (k2 := (pin Go.Proofs.Try.f43 [1, 0] 7)) (by kernel_rfl) c2) trivial ?_
      refine RunF.go 2 [4] (k' := (pl Go.Proofs.Try.f43 [1, 1])) (L' := [(4, .int .i64 (Int.tmod (I64 ((Int.tmod a0 a1) + a1)) a1))]) (w' := w) (by kernel_rfl) ?_
      obtain rfl := Option.some.inj h
      exact RunF.ret1 4 (.int .i64 (Int.tmod (I64 ((Int.tmod a0 a1) + a1)) a1)) (fn := Go.Proofs.Try.f43) Go.Proofs.Try.func43 (by kernel_rfl) (by kernel_rfl) (by kernel_rfl) ⟨_, rfl, rfl, (hM.pick [] rfl rfl)⟩

/-! ### scrim/words.Rol8: function 28 -/
def words_Rol8.f (k : Nat) (a0 : Int) (a1 : Int) : Option (Int) := (words_rest.f k a1 8).bind fun t2 => (if (decide (0 ≤ (U64 (t2)))) = true then (if (decide (0 ≤ (U64 (8 - (U64 (t2)))))) = true then (some (bor .u8 (shlv .u8 a0 (U64 (t2))) (shrv .u8 a0 (U64 (8 - (U64 (t2))))))) else (none)) else (none))
set_option maxRecDepth 100000 in
theorem words_Rol8.calls (k : Nat) (a0 : Int) (a1 : Int) (r : Int) (w : World) (h : words_Rol8.f k a0 a1 = some r) :
    Calls Go.Proofs.Try.prog 28 #[.int .u8 a0, .int .i64 a1] w (Ret fun v w' => v = .int .u8 r ∧ Mem w w' []) := by
  unfold words_Rol8.f at h
  refine calls_of [.int .u8 a0, .int .i64 a1] (fn := Go.Proofs.Try.f28) Go.Proofs.Try.func28 (by kernel_rfl) (by kernel_rfl) ?_
  have hM := Mem.refl w
  refine RunF.go 7 [0, 6] (k' := (pin Go.Proofs.Try.f28 [1, 0] 1)) (L' := [(0, .int .u8 a0), (6, .int .i64 a1)]) (w' := w) (by kernel_rfl) ?_
  obtain ⟨t2, ht2, h⟩ := Option.bind_eq_some_iff.mp h
  refine RunF.call (d := some 7) (g := 43) (args := #[.int .i64 a1, .int .i64 8]) (k2 := (pin Go.Proofs.Try.f28 [1, 0] 2)) (by kernel_rfl) (words_rest.calls k a1 8 t2 _ ht2) ?_
  rintro _ W1 ⟨rfl, hM_⟩
  replace hM := hM.call hM_
  clear hM_ ht2
  refine RunF.go 7 [0, 5, 9, 10] (k' := (pin Go.Proofs.Try.f28 [1, 1, 0] 2)) (L' := [(0, .int .u8 a0), (5, .int .u64 (U64 (t2))), (9, .int .u8 a0), (10, .int .u64 (U64 (t2)))]) (w' := W1) (by kernel_rfl) ?_
  rcases two (decide (0 ≤ (U64 (t2)))) with c3 | c3
  · replace h := of_true h c3
    refine RunF.y (sh_y (d := some 11) (b := true) (kd := .u8) (x := a0) (y := U64 (t2)) (k2 := (pin Go.Proofs.Try.f28 [1, 1, 0] 3)) (by kernel_rfl) c3) trivial ?_
    refine RunF.go 3 [11, 12, 14] (k' := (pin Go.Proofs.Try.f28 [1, 1, 0] 6)) (L' := [(11, .int .u8 (shlv .u8 a0 (U64 (t2)))), (12, .int .u8 a0), (14, .int .u64 (U64 (8 - (U64 (t2)))))]) (w' := W1) (by kernel_rfl) ?_
    rcases two (decide (0 ≤ (U64 (8 - (U64 (t2)))))) with c4 | c4
    · replace h := of_true h c4
      refine RunF.y (sh_y (d := some 15) (b := false) (kd := .u8) (x := a0) (y := U64 (8 - (U64 (t2)))) (k2 := (pin Go.Proofs.Try.f28 [1, 1, 0] 7)) (by kernel_rfl) c4) trivial ?_
      refine RunF.go 3 [4] (k' := (pl Go.Proofs.Try.f28 [1, 1, 1])) (L' := [(4, .int .u8 (bor .u8 (shlv .u8 a0 (U64 (t2))) (shrv .u8 a0 (U64 (8 - (U64 (t2)))))))]) (w' := W1) (by kernel_rfl) ?_
      obtain rfl := Option.some.inj h
      exact RunF.ret1 4 (.int .u8 (bor .u8 (shlv .u8 a0 (U64 (t2))) (shrv .u8 a0 (U64 (8 - (U64 (t2))))))) (fn := Go.Proofs.Try.f28) Go.Proofs.Try.func28 (by kernel_rfl) (by kernel_rfl) (by kernel_rfl) ⟨_, rfl, rfl, (hM.pick [] rfl rfl)⟩
    · replace h := of_false h c4
      cases h
  · replace h := of_false h c3
    cases h

/-! ### scrim/scrimlaw1.known: function 14 -/
def scrimlaw1_known.f (k : Nat)  : Option (Bool) := (words_Inc.f k ([0, 255] : List Int)).bind fun t5 => ((words_Be32.f k ([1, 2, 3, 4] : List Int)).bind fun t14 => ((some (((strOf t5).toList == (⟨#[1, 0]⟩ : ByteArray).toList) : Bool)).bind fun y15 => (if y15 = true then (if t14.2 = true then (if (t14.1 == 16909060) = true then ((words_Rol8.f k 129 1).bind fun t20 => (some (t20 == 3))) else (some false)) else (some false)) else (some false))))
set_option maxRecDepth 100000 in
theorem scrimlaw1_known.calls (k : Nat)  (r : Bool) (w : World) (h : scrimlaw1_known.f k = some r) :
    Calls Go.Proofs.Try.prog 14 #[] w (Ret fun v w' => v = .bool r ∧ Mem w w' []) := by
  unfold scrimlaw1_known.f at h
  refine calls_of [] (fn := Go.Proofs.Try.f14) Go.Proofs.Try.func14 (by kernel_rfl) (by kernel_rfl) ?_
  have hM := Mem.refl w
  refine RunF.go 6 [] (k' := (pin Go.Proofs.Try.f14 [1, 0] 0)) (L' := []) (w' := w) (by kernel_rfl) ?_
  refine RunF.new 5 1 2 (nums .u8 [0, 255]) (d := some 4) (k2 := (pin Go.Proofs.Try.f14 [1, 0] 1)) hM (by simp [nums, bools, strs]) (by kernel_rfl) (by kernel_rfl) ?_
  replace hM := hM
  intro g1 W2 hM
  obtain ⟨t5, ht5, h⟩ := Option.bind_eq_some_iff.mp h
  refine RunF.call (d := some 5) (g := 16) (args := #[.slice (some ⟨g1, 0, none⟩) 2 2]) (k2 := (pin Go.Proofs.Try.f14 [1, 0] 2)) (by kernel_rfl) (words_Inc.calls k (some ⟨g1, 0, none⟩) 2 2 ([0, 255] : List Int) t5 _ (hM.rd 0 rfl) ht5) ?_
  rintro _ W4 ⟨A6, n7, c8, rfl, hM_⟩
  obtain rfl : t5.length = n7 := by have h_ := (hM_.rd 0 rfl).1; simpa [nums_length, bools_length, strs_length] using h_
  replace hM := hM.call hM_
  clear hM_ ht5
  refine RunF.go 4 [1] (k' := (pin Go.Proofs.Try.f14 [1, 1, 0] 0)) (L' := [(1, .slice A6 t5.length c8)]) (w' := W4) (by kernel_rfl) ?_
  refine RunF.new 5 1 4 (nums .u8 [1, 2, 3, 4]) (d := some 7) (k2 := (pin Go.Proofs.Try.f14 [1, 1, 0] 1)) hM (by simp [nums, bools, strs]) (by kernel_rfl) (by kernel_rfl) ?_
  replace hM := hM
  intro g10 W11 hM
  obtain ⟨t14, ht14, h⟩ := Option.bind_eq_some_iff.mp h
  refine RunF.call (d := some 8) (g := 18) (args := #[.slice (some ⟨g10, 0, none⟩) 4 4]) (k2 := (pin Go.Proofs.Try.f14 [1, 1, 0] 2)) (by kernel_rfl) (words_Be32.calls k (some ⟨g10, 0, none⟩) 4 4 ([1, 2, 3, 4] : List Int) t14 _ (hM.rd 0 rfl) ht14) ?_
  rintro _ W13 ⟨rfl, hM_⟩
  replace hM := hM.call hM_
  clear hM_ ht14
  refine RunF.go 9 [2, 3, 11] (k' := (pin Go.Proofs.Try.f14 [1, 1, 1, 0] 1)) (L' := [(2, .int .u32 t14.1), (3, .bool t14.2), (11, .slice A6 t5.length c8)]) (w' := W13) (by kernel_rfl) ?_
  refine RunF.y (str_y (d := some 12) (A := A6) (m := t5.length) (c := c8) (k2 := (pin Go.Proofs.Try.f14 [1, 1, 1, 0] 2)) t5 (by kernel_rfl)) (hM.rd 1 rfl) ?_
  refine RunF.go 2 [2, 3, 14] (k' := (pin Go.Proofs.Try.f14 [1, 1, 1, 0] 4)) (L' := [(2, .int .u32 t14.1), (3, .bool t14.2), (14, .bool ((strOf t5).toList == (⟨#[1, 0]⟩ : ByteArray).toList))]) (w' := W13) (by kernel_rfl) ?_
  obtain ⟨y15, hy, h⟩ := Option.bind_eq_some_iff.mp h
  rw [show (((strOf t5).toList == (⟨#[1, 0]⟩ : ByteArray).toList)) = y15 from Option.some.inj hy]
  clear hy
  rcases two (y15) with c16 | c16
  · replace h := of_true h c16
    refine RunF.know 14 (b := true) (by kernel_rfl) c16 ?_
    refine RunF.go 3 [2, 17] (k' := (pin Go.Proofs.Try.f14 [1, 1, 1, 0] 7)) (L' := [(2, .int .u32 t14.1), (17, .bool t14.2)]) (w' := W13) (by kernel_rfl) ?_
    rcases two (t14.2) with c17 | c17
    · replace h := of_true h c17
      refine RunF.know 17 (b := true) (by kernel_rfl) c17 ?_
      refine RunF.go 4 [21] (k' := (pin Go.Proofs.Try.f14 [1, 1, 1, 0] 11)) (L' := [(21, .bool (t14.1 == 16909060))]) (w' := W13) (by kernel_rfl) ?_
      rcases two ((t14.1 == 16909060)) with c18 | c18
      · replace h := of_true h c18
        refine RunF.know 21 (b := true) (by kernel_rfl) c18 ?_
        obtain ⟨t20, ht20, h⟩ := Option.bind_eq_some_iff.mp h
        refine RunF.call (d := some 22) (g := 28) (args := #[.int .u8 129, .int .i64 1]) (k2 := (pin Go.Proofs.Try.f14 [1, 1, 1, 0] 12)) (by kernel_rfl) (words_Rol8.calls k 129 1 t20 _ ht20) ?_
        rintro _ W19 ⟨rfl, hM_⟩
        replace hM := hM.call hM_
        clear hM_ ht20
        refine RunF.go 4 [0] (k' := (pl Go.Proofs.Try.f14 [1, 1, 1, 1])) (L' := [(0, .bool (t20 == 3))]) (w' := W19) (by kernel_rfl) ?_
        obtain rfl := Option.some.inj h
        exact RunF.ret1 0 (.bool (t20 == 3)) (fn := Go.Proofs.Try.f14) Go.Proofs.Try.func14 (by kernel_rfl) (by kernel_rfl) (by kernel_rfl) ⟨_, rfl, rfl, (hM.pick [] rfl rfl)⟩
      · replace h := of_false h c18
        refine RunF.know 21 (b := false) (by kernel_rfl) c18 ?_
        refine RunF.go 5 [0] (k' := (pl Go.Proofs.Try.f14 [1, 1, 1, 1])) (L' := [(0, .bool false)]) (w' := W13) (by kernel_rfl) ?_
        obtain rfl := Option.some.inj h
        exact RunF.ret1 0 (.bool false) (fn := Go.Proofs.Try.f14) Go.Proofs.Try.func14 (by kernel_rfl) (by kernel_rfl) (by kernel_rfl) ⟨_, rfl, rfl, (hM.pick [] rfl rfl)⟩
    · replace h := of_false h c17
      refine RunF.know 17 (b := false) (by kernel_rfl) c17 ?_
      refine RunF.go 9 [0] (k' := (pl Go.Proofs.Try.f14 [1, 1, 1, 1])) (L' := [(0, .bool false)]) (w' := W13) (by kernel_rfl) ?_
      obtain rfl := Option.some.inj h
      exact RunF.ret1 0 (.bool false) (fn := Go.Proofs.Try.f14) Go.Proofs.Try.func14 (by kernel_rfl) (by kernel_rfl) (by kernel_rfl) ⟨_, rfl, rfl, (hM.pick [] rfl rfl)⟩
  · replace h := of_false h c16
    refine RunF.know 14 (b := false) (by kernel_rfl) c16 ?_
    refine RunF.go 12 [0] (k' := (pl Go.Proofs.Try.f14 [1, 1, 1, 1])) (L' := [(0, .bool false)]) (w' := W13) (by kernel_rfl) ?_
    obtain rfl := Option.some.inj h
    exact RunF.ret1 0 (.bool false) (fn := Go.Proofs.Try.f14) Go.Proofs.Try.func14 (by kernel_rfl) (by kernel_rfl) (by kernel_rfl) ⟨_, rfl, rfl, (hM.pick [] rfl rfl)⟩

/-! ### scrim/scrimlaw1.within: function 15 -/
def scrimlaw1_within.f (k : Nat) (a0 : Int) (a1 : Int) : Option (Int) := if (decide (a1 = 0)) = true then (none) else (if (decide ((Int.tmod a0 a1) < 0)) = true then (some (I64 ((Int.tmod a0 a1) + a1))) else (some (Int.tmod a0 a1)))
set_option maxRecDepth 100000 in
theorem scrimlaw1_within.calls (k : Nat) (a0 : Int) (a1 : Int) (r : Int) (w : World) (h : scrimlaw1_within.f k a0 a1 = some r) :
    Calls Go.Proofs.Try.prog 15 #[.int .i64 a0, .int .i64 a1] w (Ret fun v w' => v = .int .i64 r ∧ Mem w w' []) := by
  unfold scrimlaw1_within.f at h
  refine calls_of [.int .i64 a0, .int .i64 a1] (fn := Go.Proofs.Try.f15) Go.Proofs.Try.func15 (by kernel_rfl) (by kernel_rfl) ?_
  have hM := Mem.refl w
  refine RunF.go 8 [1, 6, 7] (k' := (pin Go.Proofs.Try.f15 [1, 0] 2)) (L' := [(1, .int .i64 a1), (6, .int .i64 a0), (7, .int .i64 a1)]) (w' := w) (by kernel_rfl) ?_
  rcases two (decide (a1 = 0)) with c1 | c1
  · replace h := of_true h c1
    cases h
  · replace h := of_false h c1
    refine RunF.y (div_y (d := some 8) (b := false) (kd := .i64) (x := a0) (y := a1) (k2 := (pin Go.Proofs.Try.f15 [1, 0] 3)) (by kernel_rfl) c1) trivial ?_
    refine RunF.go 8 [1, 5, 10] (k' := (pl Go.Proofs.Try.f15 [1, 1, 0, 1])) (L' := [(1, .int .i64 a1), (5, .int .i64 (Int.tmod a0 a1)), (10, .bool (decide ((Int.tmod a0 a1) < 0)))]) (w' := w) (by kernel_rfl) ?_
    rcases two (decide ((Int.tmod a0 a1) < 0)) with c2 | c2
    · replace h := of_true h c2
      refine RunF.know 10 (b := true) (by kernel_rfl) c2 ?_
      refine RunF.go 12 [4] (k' := (pl Go.Proofs.Try.f15 [1, 1, 1, 1])) (L' := [(4, .int .i64 (I64 ((Int.tmod a0 a1) + a1)))]) (w' := w) (by kernel_rfl) ?_
      obtain rfl := Option.some.inj h
      exact RunF.ret1 4 (.int .i64 (I64 ((Int.tmod a0 a1) + a1))) (fn := Go.Proofs.Try.f15) Go.Proofs.Try.func15 (by kernel_rfl) (by kernel_rfl) (by kernel_rfl) ⟨_, rfl, rfl, (hM.pick [] rfl rfl)⟩
    · replace h := of_false h c2
      refine RunF.know 10 (b := false) (by kernel_rfl) c2 ?_
      refine RunF.go 7 [4] (k' := (pl Go.Proofs.Try.f15 [1, 1, 1, 1])) (L' := [(4, .int .i64 (Int.tmod a0 a1))]) (w' := w) (by kernel_rfl) ?_
      obtain rfl := Option.some.inj h
      exact RunF.ret1 4 (.int .i64 (Int.tmod a0 a1)) (fn := Go.Proofs.Try.f15) Go.Proofs.Try.func15 (by kernel_rfl) (by kernel_rfl) (by kernel_rfl) ⟨_, rfl, rfl, (hM.pick [] rfl rfl)⟩

/-! ### scrim/words.Xor: function 19 -/
def words_Xor.l0 : Nat → (List Int) → (List Int) → (List Int) → Int → Option (List Int × Bool)
  | 0, _, _, _, _ => none
  | k + 1, a0, a1, x6_0, x18_0 => if (decide (x18_0 < (a0.length : Int))) = true then (if (decide (0 ≤ x18_0)) = true then (if (decide (x18_0 < (a0.length : Int))) = true then (if (decide (0 ≤ x18_0)) = true then (if (decide (x18_0 < (a1.length : Int))) = true then (if (decide (0 ≤ x18_0)) = true then (if (decide (x18_0 < (((a0.length : Int)).toNat : Int))) = true then (words_Xor.l0 k a0 a1 (x6_0.set (x18_0 : Int).toNat (bxor .u8 (rd a0 x18_0) (rd a1 x18_0))) (I64 (x18_0 + 1))) else (none)) else (none)) else (none)) else (none)) else (none)) else (none)) else (some (x6_0, true))
def words_Xor.f (k : Nat) (a0 : List Int) (a1 : List Int) : Option (List Int × Bool) := if ((a0.length : Int) != (a1.length : Int)) = true then (some (([] : List Int), false)) else (if (decide (0 ≤ (a0.length : Int))) = true then (if (decide ((a0.length : Int) ≤ 1000000000)) = true then (words_Xor.l0 k a0 a1 (List.replicate (((a0.length : Int)).toNat) (0 : Int)) 0) else (none)) else (none))
set_option maxRecDepth 100000 in
theorem words_Xor.calls (k : Nat) (Ap0 : Option Addr) (np0 cp0 : Nat) (a0 : List Int) (Ap1 : Option Addr) (np1 cp1 : Nat) (a1 : List Int) (r : List Int × Bool) (w : World) (hr0 : Rd w (.slice Ap0 np0 cp0) (nums .u8 a0)) (hr1 : Rd w (.slice Ap1 np1 cp1) (nums .u8 a1)) (h : words_Xor.f k a0 a1 = some r) :
    Calls Go.Proofs.Try.prog 19 #[(.slice Ap0 np0 cp0), (.slice Ap1 np1 cp1)] w (Ret fun v w' => ∃ A0' n0' c0', v = .tuple #[.slice A0' n0' c0', .bool r.2] ∧ Mem w w' [⟨.slice A0' n0' c0', 5, 1, nums .u8 r.1⟩]) := by
  obtain rfl : a0.length = np0 := by have h_ := hr0.1; simpa [nums_length, bools_length, strs_length] using h_
  obtain rfl : a1.length = np1 := by have h_ := hr1.1; simpa [nums_length, bools_length, strs_length] using h_
  unfold words_Xor.f at h
  refine calls_of [.slice Ap0 a0.length cp0, .slice Ap1 a1.length cp1] (fn := Go.Proofs.Try.f19) Go.Proofs.Try.func19 (by kernel_rfl) (by kernel_rfl) ?_
  have hM := Mem.refl w
  refine RunF.go 14 [0, 1, 12] (k' := (pl Go.Proofs.Try.f19 [1, 0, 1])) (L' := [(0, .slice Ap0 a0.length cp0), (1, .slice Ap1 a1.length cp1), (12, .bool ((a0.length : Int) != (a1.length : Int)))]) (w' := w) (by kernel_rfl) ?_
  rcases two (((a0.length : Int) != (a1.length : Int))) with c1 | c1
  · replace h := of_true h c1
    refine RunF.know 12 (b := true) (by kernel_rfl) c1 ?_
    refine RunF.go 6 [4, 5] (k' := (pl Go.Proofs.Try.f19 [1, 0, 1, 0, 1])) (L' := [(4, .slice none 0 0), (5, .bool false)]) (w' := w) (by kernel_rfl) ?_
    replace hM := hM.nil 5
    obtain rfl := Option.some.inj h
    exact RunF.ret2 4 5 (.slice none 0 0) (.bool false) (fn := Go.Proofs.Try.f19) Go.Proofs.Try.func19 (by kernel_rfl) (by kernel_rfl) (by kernel_rfl) (by kernel_rfl) ⟨_, rfl, none, 0, 0, rfl, (hM.pick [0] rfl rfl)⟩
  · replace h := of_false h c1
    refine RunF.know 12 (b := false) (by kernel_rfl) c1 ?_
    refine RunF.go 6 [0, 1, 14] (k' := (pin Go.Proofs.Try.f19 [1, 1, 0] 2)) (L' := [(0, .slice Ap0 a0.length cp0), (1, .slice Ap1 a1.length cp1), (14, .int .i64 (a0.length : Int))]) (w' := w) (by kernel_rfl) ?_
    rcases two (decide (0 ≤ (a0.length : Int))) with c5 | c5
    · replace h := of_true h c5
      rcases two (decide ((a0.length : Int) ≤ 1000000000)) with c6 | c6
      · replace h := of_true h c6
        have := of_decide_eq_true c5
        have := of_decide_eq_true c6
        obtain ⟨W3, hD, hM', hB_⟩ := mk_does (P := Go.Proofs.Try.prog) (n := 35) (k := (pin Go.Proofs.Try.f19 [1, 1, 0] 2)) (L := [(0, .slice Ap0 a0.length cp0), (1, .slice Ap1 a1.length cp1), (14, .int .i64 (a0.length : Int))]) (d := some 15) (e := 5) (z := .int .u8 0) (l := (a0.length : Int)) (c := (a0.length : Int)) (k2 := (pin Go.Proofs.Try.f19 [1, 1, 0] 3)) (by kernel_rfl) (by omega) (by omega) (by omega) hM
        rw [rep_nums] at hM'
        refine RunF.does hD ?_
        replace hM := hM'; clear hD hM'
        generalize w.heap.size = g4 at hM ⊢
        refine RunF.go 11 [0, 1, 6, 17, 18] (k' := (pl Go.Proofs.Try.f19 [1, 1, 1, 0, 1, 0, 0])) (L' := [(0, .slice Ap0 a0.length cp0), (1, .slice Ap1 a1.length cp1), (6, .slice (some ⟨g4, 0, none⟩) (((a0.length : Int)).toNat) (((a0.length : Int) : Int).toNat)), (17, .int .i64 (a0.length : Int)), (18, .int .i64 0)]) (w' := W3) (by kernel_rfl) ?_
        have l0 : ∀ (k_ : Nat), k_ ≤ k → ∀ (x6_0 : List Int) (x18_0 : Int) (W : World) (hM : Mem w W [⟨.slice (some ⟨g4, 0, none⟩) (((a0.length : Int)).toNat) (((a0.length : Int) : Int).toNat), 5, 1, nums .u8 x6_0⟩]) (h : words_Xor.l0 k_ a0 a1 x6_0 x18_0 = some r), RunF Go.Proofs.Try.prog (Ret fun v w' => ∃ A0' n0' c0', v = .tuple #[.slice A0' n0' c0', .bool r.2] ∧ Mem w w' [⟨.slice A0' n0' c0', 5, 1, nums .u8 r.1⟩]) 19 (pl Go.Proofs.Try.f19 [1, 1, 1, 0, 1, 0, 0]) 35 [(0, .slice Ap0 a0.length cp0), (1, .slice Ap1 a1.length cp1), (6, .slice (some ⟨g4, 0, none⟩) (((a0.length : Int)).toNat) (((a0.length : Int) : Int).toNat)), (17, .int .i64 (a0.length : Int)), (18, .int .i64 x18_0)] W := by
          intro k_
          induction k_ using Nat.strongRecOn with
          | _ k_ ih0 =>
            intro hk x6_0 x18_0 W hM h
            cases k_ with
            | zero => exact absurd h (by simp [words_Xor.l0])
            | succ k =>
              simp only [words_Xor.l0] at h
              replace ih0 : ∀ m, m ≤ k → _ := fun m hm => ih0 m (by omega) (by omega)
              refine RunF.go 5 [0, 1, 6, 17, 18, 19] (k' := (pl Go.Proofs.Try.f19 [1, 1, 1, 0, 1, 0, 0, 1, 0])) (L' := [(0, .slice Ap0 a0.length cp0), (1, .slice Ap1 a1.length cp1), (6, .slice (some ⟨g4, 0, none⟩) (((a0.length : Int)).toNat) (((a0.length : Int) : Int).toNat)), (17, .int .i64 (a0.length : Int)), (18, .int .i64 x18_0), (19, .bool (decide (x18_0 < (a0.length : Int))))]) (w' := W) (by kernel_rfl) ?_
              rcases two (decide (x18_0 < (a0.length : Int))) with c8 | c8
              · replace h := of_true h c8
                refine RunF.know 19 (b := true) (by kernel_rfl) c8 ?_
                refine RunF.go 9 [0, 1, 6, 7, 17, 18] (k' := (pl Go.Proofs.Try.f19 [1, 1, 1, 0, 1, 0, 0, 1, 1, 0, 0, 1])) (L' := [(0, .slice Ap0 a0.length cp0), (1, .slice Ap1 a1.length cp1), (6, .slice (some ⟨g4, 0, none⟩) (((a0.length : Int)).toNat) (((a0.length : Int) : Int).toNat)), (7, .int .i64 x18_0), (17, .int .i64 (a0.length : Int)), (18, .int .i64 x18_0)]) (w' := W) (by kernel_rfl) ?_
                refine RunF.draw (Still ({ W with drawn := W.drawn + 1 } : World) [.slice (some ⟨g4, 0, none⟩) (((a0.length : Int)).toNat) (((a0.length : Int) : Int).toNat)]) (by kernel_rfl) (by kernel_rfl) ?_
                have hMd10 := hM.drew
                have hS := Still.refl ({ W with drawn := W.drawn + 1 } : World) [.slice (some ⟨g4, 0, none⟩) (((a0.length : Int)).toNat) (((a0.length : Int) : Int).toNat)]
                generalize ({ W with drawn := W.drawn + 1 } : World) = W9 at hMd10 hS ⊢
                replace hM := hMd10
                refine RunAny.y 0 (by kernel_rfl) (yl_pure (d := some 21) (v := .slice (some ⟨g4, 0, none⟩) (((a0.length : Int)).toNat) (((a0.length : Int) : Int).toNat)) (k2 := [.inRegion (opsOf (pl Go.Proofs.Try.f19 [1, 1, 1, 0, 1, 0, 0, 1, 1, 0, 0, 1])) []]) fun w => by kernel_rfl) (fun _ _ => trivial) hS ?_
                refine RunAny.y 1 (by kernel_rfl) (yl_pure (d := some 22) (v := .int .i64 x18_0) (k2 := [.inRegion (opsOf (pl Go.Proofs.Try.f19 [1, 1, 1, 0, 1, 0, 0, 1, 1, 0, 0, 1])) []]) fun w => by kernel_rfl) (fun _ _ => trivial) hS ?_
                refine RunAny.y 2 (by kernel_rfl) (yl_pure (d := some 23) (v := .slice Ap0 a0.length cp0) (k2 := [.inRegion (opsOf (pl Go.Proofs.Try.f19 [1, 1, 1, 0, 1, 0, 0, 1, 1, 0, 0, 1])) []]) fun w => by kernel_rfl) (fun _ _ => trivial) hS ?_
                refine RunAny.y 3 (by kernel_rfl) (yl_pure (d := some 24) (v := .int .i64 x18_0) (k2 := [.inRegion (opsOf (pl Go.Proofs.Try.f19 [1, 1, 1, 0, 1, 0, 0, 1, 1, 0, 0, 1])) []]) fun w => by kernel_rfl) (fun _ _ => trivial) hS ?_
                rcases two (decide (0 ≤ x18_0)) with c12 | c12
                · replace h := of_true h c12
                  rcases two (decide (x18_0 < (a0.length : Int))) with c13 | c13
                  · replace h := of_true h c13
                    obtain ⟨q11, hAq11, hiq11⟩ := Rd.num hr0 (i := x18_0) (of_decide_eq_true c12) (by have h_ := of_decide_eq_true c13; omega)
                    have hcq11 := (hM.below.cell (World.block_lt_of_cell? _ _ hiq11)).trans hiq11
                    refine RunAny.y 4 (by kernel_rfl) (idx_y (d := some 25) (A := Ap0) (m := a0.length) (i := x18_0) (k2 := [.inRegion (opsOf (pl Go.Proofs.Try.f19 [1, 1, 1, 0, 1, 0, 0, 1, 1, 0, 0, 1])) []]) (by kernel_rfl) (of_decide_eq_true c12) (by have h_ := of_decide_eq_true c13; omega) hAq11) (fun _ _ => trivial) hS ?_
                    refine RunAny.y 5 (by kernel_rfl) (ld_y (d := some 26) (p := (q11.add (x18_0 : Int).toNat)) (k2 := [.inRegion (opsOf (pl Go.Proofs.Try.f19 [1, 1, 1, 0, 1, 0, 0, 1, 1, 0, 0, 1])) []]) (.int .u8 (rd a0 x18_0)) (by kernel_rfl)) (fun _ hs => hs.cell hcq11 (by intro v hv; simp only [List.mem_cons, List.not_mem_nil, or_false] at hv; rcases hv with rfl; exact (hM.far hiq11 0 rfl))) hS ?_
                    refine RunAny.y 6 (by kernel_rfl) (yl_pure (d := some 27) (v := .slice Ap1 a1.length cp1) (k2 := [.inRegion (opsOf (pl Go.Proofs.Try.f19 [1, 1, 1, 0, 1, 0, 0, 1, 1, 0, 0, 1])) []]) fun w => by kernel_rfl) (fun _ _ => trivial) hS ?_
                    refine RunAny.y 7 (by kernel_rfl) (yl_pure (d := some 28) (v := .int .i64 x18_0) (k2 := [.inRegion (opsOf (pl Go.Proofs.Try.f19 [1, 1, 1, 0, 1, 0, 0, 1, 1, 0, 0, 1])) []]) fun w => by kernel_rfl) (fun _ _ => trivial) hS ?_
                    rcases two (decide (0 ≤ x18_0)) with c15 | c15
                    · replace h := of_true h c15
                      rcases two (decide (x18_0 < (a1.length : Int))) with c16 | c16
                      · replace h := of_true h c16
                        obtain ⟨q14, hAq14, hiq14⟩ := Rd.num hr1 (i := x18_0) (of_decide_eq_true c15) (by have h_ := of_decide_eq_true c16; omega)
                        have hcq14 := (hM.below.cell (World.block_lt_of_cell? _ _ hiq14)).trans hiq14
                        refine RunAny.y 8 (by kernel_rfl) (idx_y (d := some 29) (A := Ap1) (m := a1.length) (i := x18_0) (k2 := [.inRegion (opsOf (pl Go.Proofs.Try.f19 [1, 1, 1, 0, 1, 0, 0, 1, 1, 0, 0, 1])) []]) (by kernel_rfl) (of_decide_eq_true c15) (by have h_ := of_decide_eq_true c16; omega) hAq14) (fun _ _ => trivial) hS ?_
                        refine RunAny.y 9 (by kernel_rfl) (ld_y (d := some 30) (p := (q14.add (x18_0 : Int).toNat)) (k2 := [.inRegion (opsOf (pl Go.Proofs.Try.f19 [1, 1, 1, 0, 1, 0, 0, 1, 1, 0, 0, 1])) []]) (.int .u8 (rd a1 x18_0)) (by kernel_rfl)) (fun _ hs => hs.cell hcq14 (by intro v hv; simp only [List.mem_cons, List.not_mem_nil, or_false] at hv; rcases hv with rfl; exact (hM.far hiq14 0 rfl))) hS ?_
                        refine RunAny.y 10 (by kernel_rfl) (yl_pure (d := some 31) (v := .int .u8 (bxor .u8 (rd a0 x18_0) (rd a1 x18_0))) (k2 := [.inRegion (opsOf (pl Go.Proofs.Try.f19 [1, 1, 1, 0, 1, 0, 0, 1, 1, 0, 0, 1])) []]) fun w => by kernel_rfl) (fun _ _ => trivial) hS ?_
                        rcases two (decide (0 ≤ x18_0)) with c18 | c18
                        · replace h := of_true h c18
                          rcases two (decide (x18_0 < (((a0.length : Int)).toNat : Int))) with c19 | c19
                          · replace h := of_true h c19
                            obtain ⟨q17, hAq17, hcq17, hfq17, hlq17⟩ := hM.num_at 0 rfl (i := x18_0) (of_decide_eq_true c18) (by have h_ := of_decide_eq_true c19; omega)
                            refine RunAny.y 11 (by kernel_rfl) (idx_own (d := some 32) (A := (some ⟨g4, 0, none⟩)) (m := ((a0.length : Int)).toNat) (i := x18_0) (k2 := [.inRegion (opsOf (pl Go.Proofs.Try.f19 [1, 1, 1, 0, 1, 0, 0, 1, 1, 0, 0, 1])) []]) (by kernel_rfl) (of_decide_eq_true c18) (by have h_ := of_decide_eq_true c19; omega) hAq17) (fun _ _ => trivial) hS ?_
                            obtain ⟨g_, hA_, hc_, hf_, hl_⟩ := hM.num_at 0 rfl (i := x18_0) (of_decide_eq_true c18) (by have h_ := of_decide_eq_true c19; omega)
                            obtain rfl : q17 = g_ := by rw [hAq17] at hA_; injection hA_ with hA_; injection hA_
                            have hS' := hS.set (v := .slice (some ⟨g4, 0, none⟩) (((a0.length : Int)).toNat) (((a0.length : Int) : Int).toNat)) (g := q17) (i := (x18_0 : Int).toNat) (by simp) (by rw [hAq17]; rfl) (.int .u8 (bxor .u8 (rd a0 x18_0) (rd a1 x18_0)))
                            refine RunAny.doesU 12 (by kernel_rfl) (st_u (p := (⟨q17, (x18_0 : Int).toNat, none⟩ : Addr)) (v := .int .u8 (bxor .u8 (rd a0 x18_0) (rd a1 x18_0))) (k2 := [.inRegion (opsOf (pl Go.Proofs.Try.f19 [1, 1, 1, 0, 1, 0, 0, 1, 1, 0, 0, 1])) []]) (by kernel_rfl) hc_ hf_) hS' ?_
                            replace hM : Mem w (W9.setCell (⟨q17, (x18_0 : Int).toNat, none⟩ : Addr) (.int .u8 (bxor .u8 (rd a0 x18_0) (rd a1 x18_0)))) [⟨.slice (some ⟨g4, 0, none⟩) (((a0.length : Int)).toNat) (((a0.length : Int) : Int).toNat), 5, 1, nums .u8 (x6_0.set (x18_0 : Int).toNat (bxor .u8 (rd a0 x18_0) (rd a1 x18_0)))⟩] := Mem.put_num [] [] (hM.pick [0] rfl rfl) hAq17 _ hl_ _
                            generalize W9.setCell (⟨q17, (x18_0 : Int).toNat, none⟩ : Addr) (.int .u8 (bxor .u8 (rd a0 x18_0) (rd a1 x18_0))) = W20 at hM hS' ⊢
                            clear hc_ hf_ hl_ hA_ hcq17
                            replace hS := hS'
                            refine RunAny.rebase hS ?_
                            replace hS := Still.refl W20 [.slice (some ⟨g4, 0, none⟩) (((a0.length : Int)).toNat) (((a0.length : Int) : Int).toNat)]
                            refine RunAny.done (by kernel_rfl) ?_
                            clear hS
                            refine RunF.go 6 [0, 1, 6, 17, 18] (k' := (pl Go.Proofs.Try.f19 [1, 1, 1, 0, 1, 0, 0])) (L' := [(0, .slice Ap0 a0.length cp0), (1, .slice Ap1 a1.length cp1), (6, .slice (some ⟨g4, 0, none⟩) (((a0.length : Int)).toNat) (((a0.length : Int) : Int).toNat)), (17, .int .i64 (a0.length : Int)), (18, .int .i64 (I64 (x18_0 + 1)))]) (w' := W20) (by kernel_rfl) ?_
                            exact ih0 k (by omega) (x6_0.set (x18_0 : Int).toNat (bxor .u8 (rd a0 x18_0) (rd a1 x18_0))) (I64 (x18_0 + 1)) _ (hM.pick [0] rfl rfl) h
                          · replace h := of_false h c19
                            cases h
                        · replace h := of_false h c18
                          cases h
                      · replace h := of_false h c16
                        cases h
                    · replace h := of_false h c15
                      cases h
                  · replace h := of_false h c13
                    cases h
                · replace h := of_false h c12
                  cases h
              · replace h := of_false h c8
                refine RunF.know 19 (b := false) (by kernel_rfl) c8 ?_
                refine RunF.go 8 [4, 5] (k' := (pl Go.Proofs.Try.f19 [1, 1, 1, 1, 1])) (L' := [(4, .slice (some ⟨g4, 0, none⟩) (((a0.length : Int)).toNat) (((a0.length : Int) : Int).toNat)), (5, .bool true)]) (w' := W) (by kernel_rfl) ?_
                obtain rfl := Option.some.inj h
                exact RunF.ret2 4 5 (.slice (some ⟨g4, 0, none⟩) (((a0.length : Int)).toNat) (((a0.length : Int) : Int).toNat)) (.bool true) (fn := Go.Proofs.Try.f19) Go.Proofs.Try.func19 (by kernel_rfl) (by kernel_rfl) (by kernel_rfl) (by kernel_rfl) ⟨_, rfl, (some ⟨g4, 0, none⟩), ((a0.length : Int)).toNat, ((a0.length : Int) : Int).toNat, rfl, (hM.pick [0] rfl rfl)⟩
        exact l0 k (Nat.le_refl _) (List.replicate (((a0.length : Int)).toNat) (0 : Int)) 0 _ (hM.pick [0] rfl rfl) h
      · replace h := of_false h c6
        cases h
    · replace h := of_false h c5
      cases h

/-! ### scrim/words.turned: function 41 -/
def words_turned.l0 : Nat → (List Int) → (List Int) → Int → Option (List Int)
  | 0, _, _, _ => none
  | k + 1, a0, x3_0, x4_0 => if (decide (x4_0 ≥ 0)) = true then (if (decide (0 ≤ x4_0)) = true then (if (decide (x4_0 < (a0.length : Int))) = true then (if (decide (x3_0.length + ([rd a0 x4_0] : List Int).length ≤ 1000000000)) = true then (words_turned.l0 k a0 (x3_0 ++ ([rd a0 x4_0] : List Int)) (I64 (x4_0 - 1))) else (none)) else (none)) else (none)) else (some x3_0)
def words_turned.f (k : Nat) (a0 : List Int) : Option (List Int) := if (decide (0 ≤ (a0.length : Int))) = true then (if (decide ((a0.length : Int) ≤ 1000000000)) = true then (words_turned.l0 k a0 (List.replicate 0 (0 : Int)) (I64 ((a0.length : Int) - 1))) else (none)) else (none)
set_option maxRecDepth 100000 in
theorem words_turned.calls (k : Nat) (Ap0 : Option Addr) (np0 cp0 : Nat) (a0 : List Int) (r : List Int) (w : World) (hr0 : Rd w (.slice Ap0 np0 cp0) (nums .u8 a0)) (h : words_turned.f k a0 = some r) :
    Calls Go.Proofs.Try.prog 41 #[(.slice Ap0 np0 cp0)] w (Ret fun v w' => ∃ A0' n0' c0', v = .slice A0' n0' c0' ∧ Mem w w' [⟨.slice A0' n0' c0', 5, 1, nums .u8 r⟩]) := by
  obtain rfl : a0.length = np0 := by have h_ := hr0.1; simpa [nums_length, bools_length, strs_length] using h_
  unfold words_turned.f at h
  refine calls_of [.slice Ap0 a0.length cp0] (fn := Go.Proofs.Try.f41) Go.Proofs.Try.func41 (by kernel_rfl) (by kernel_rfl) ?_
  have hM := Mem.refl w
  refine RunF.go 8 [0, 6] (k' := (pin Go.Proofs.Try.f41 [1, 0] 2)) (L' := [(0, .slice Ap0 a0.length cp0), (6, .int .i64 (a0.length : Int))]) (w' := w) (by kernel_rfl) ?_
  rcases two (decide (0 ≤ (a0.length : Int))) with c3 | c3
  · replace h := of_true h c3
    rcases two (decide ((a0.length : Int) ≤ 1000000000)) with c4 | c4
    · replace h := of_true h c4
      have := of_decide_eq_true c3
      have := of_decide_eq_true c4
      obtain ⟨W1, hD, hM', hB_⟩ := mk_does (P := Go.Proofs.Try.prog) (n := 23) (k := (pin Go.Proofs.Try.f41 [1, 0] 2)) (L := [(0, .slice Ap0 a0.length cp0), (6, .int .i64 (a0.length : Int))]) (d := some 7) (e := 5) (z := .int .u8 0) (l := 0) (c := (a0.length : Int)) (k2 := (pin Go.Proofs.Try.f41 [1, 0] 3)) (by kernel_rfl) (by omega) (by omega) (by omega) hM
      rw [rep_nums] at hM'
      refine RunF.does hD ?_
      replace hM := hM'; clear hD hM'
      generalize w.heap.size = g2 at hM ⊢
      refine RunF.go 12 [0, 3, 4] (k' := (pl Go.Proofs.Try.f41 [1, 1, 0, 1, 0, 0])) (L' := [(0, .slice Ap0 a0.length cp0), (3, .slice (some ⟨g2, 0, none⟩) 0 (((a0.length : Int) : Int).toNat)), (4, .int .i64 (I64 ((a0.length : Int) - 1)))]) (w' := W1) (by kernel_rfl) ?_
      have l0 : ∀ (k_ : Nat), k_ ≤ k → ∀ (A3_0 : Option Addr) (c3_0 : Nat) (x3_0 : List Int) (x4_0 : Int) (W : World) (hM : Mem w W [⟨.slice A3_0 x3_0.length c3_0, 5, 1, nums .u8 x3_0⟩]) (h : words_turned.l0 k_ a0 x3_0 x4_0 = some r), RunF Go.Proofs.Try.prog (Ret fun v w' => ∃ A0' n0' c0', v = .slice A0' n0' c0' ∧ Mem w w' [⟨.slice A0' n0' c0', 5, 1, nums .u8 r⟩]) 41 (pl Go.Proofs.Try.f41 [1, 1, 0, 1, 0, 0]) 23 [(0, .slice Ap0 a0.length cp0), (3, .slice A3_0 x3_0.length c3_0), (4, .int .i64 x4_0)] W := by
        intro k_
        induction k_ using Nat.strongRecOn with
        | _ k_ ih0 =>
          intro hk A3_0 c3_0 x3_0 x4_0 W hM h
          cases k_ with
          | zero => exact absurd h (by simp [words_turned.l0])
          | succ k =>
            simp only [words_turned.l0] at h
            replace ih0 : ∀ m, m ≤ k → _ := fun m hm => ih0 m (by omega) (by omega)
            refine RunF.go 6 [0, 3, 4, 12] (k' := (pl Go.Proofs.Try.f41 [1, 1, 0, 1, 0, 0, 0, 1])) (L' := [(0, .slice Ap0 a0.length cp0), (3, .slice A3_0 x3_0.length c3_0), (4, .int .i64 x4_0), (12, .bool (decide (x4_0 ≥ 0)))]) (w' := W) (by kernel_rfl) ?_
            rcases two (decide (x4_0 ≥ 0)) with c7 | c7
            · replace h := of_true h c7
              refine RunF.know 12 (b := true) (by kernel_rfl) c7 ?_
              refine RunF.go 8 [0, 4, 15, 16, 17] (k' := (pin Go.Proofs.Try.f41 [1, 1, 0, 1, 0, 0, 1, 0, 0] 3)) (L' := [(0, .slice Ap0 a0.length cp0), (4, .int .i64 x4_0), (15, .slice A3_0 x3_0.length c3_0), (16, .slice Ap0 a0.length cp0), (17, .int .i64 x4_0)]) (w' := W) (by kernel_rfl) ?_
              rcases two (decide (0 ≤ x4_0)) with c9 | c9
              · replace h := of_true h c9
                rcases two (decide (x4_0 < (a0.length : Int))) with c10 | c10
                · replace h := of_true h c10
                  obtain ⟨q8, hAq8, hcq8⟩ := Rd.num (hr0.mono hM.below) (i := x4_0) (of_decide_eq_true c9) (by have h_ := of_decide_eq_true c10; omega)
                  refine RunF.y (idx_y (d := some 18) (A := Ap0) (m := a0.length) (i := x4_0) (k2 := (pin Go.Proofs.Try.f41 [1, 1, 0, 1, 0, 0, 1, 0, 0] 4)) (by kernel_rfl) (of_decide_eq_true c9) (by have h_ := of_decide_eq_true c10; omega) hAq8) trivial ?_
                  refine RunF.y (ld_y (d := some 19) (p := (q8.add (x4_0 : Int).toNat)) (k2 := (pin Go.Proofs.Try.f41 [1, 1, 0, 1, 0, 0, 1, 0, 0] 5)) (.int .u8 (rd a0 x4_0)) (by kernel_rfl)) hcq8 ?_
                  refine RunF.new 5 1 1 (nums .u8 [rd a0 x4_0]) (d := some 20) (k2 := (pin Go.Proofs.Try.f41 [1, 1, 0, 1, 0, 0, 1, 0, 0] 6)) hM (by simp [nums, bools, strs]) (by kernel_rfl) (by kernel_rfl) ?_
                  replace hM := hM
                  intro g11 W12 hM
                  rcases two (decide (x3_0.length + ([rd a0 x4_0] : List Int).length ≤ 1000000000)) with c18 | c18
                  · replace h := of_true h c18
                    have h_ := of_decide_eq_true c18
                    obtain ⟨A14, n15, c16, W17, hD, hM', hS_⟩ := app_does (P := Go.Proofs.Try.prog) (n := 23) (k := (pin Go.Proofs.Try.f41 [1, 1, 0, 1, 0, 0, 1, 0, 0] 6)) (L := (upd (upd (upd [(0, .slice Ap0 a0.length cp0), (4, .int .i64 x4_0), (15, .slice A3_0 x3_0.length c3_0), (16, .slice Ap0 a0.length cp0), (17, .int .i64 x4_0)] (some 18) (.pointer (some (q8.add (x4_0 : Int).toNat)))) (some 19) (.int .u8 (rd a0 x4_0))) (some 20) (.slice (some ⟨g11, 0, none⟩) 1 1))) (d := some 21) (e := 5) (A := A3_0) (m := x3_0.length) (c := c3_0) (A2 := (some ⟨g11, 0, none⟩)) (m2 := 1) (c2 := 1) (cs := nums .u8 x3_0) (ys := nums .u8 ([rd a0 x4_0] : List Int)) (k2 := (pin Go.Proofs.Try.f41 [1, 1, 0, 1, 0, 0, 1, 0, 0] 7)) [⟨.slice (some ⟨g11, 0, none⟩) 1 1, 5, 1, nums .u8 [rd a0 x4_0]⟩] [] (by kernel_rfl) (hM.pick [0, 1] rfl rfl) (hM.rd 0 rfl) (one_nums _ _) (by omega)
                    rw [nums_append] at hM'
                    replace hM := hM'; clear h_ hM'
                    obtain rfl : (x3_0 ++ ([rd a0 x4_0] : List Int)).length = n15 := by have h_ := (hM.rd 1 rfl).1; simpa only [nums_length, bools_length, strs_length] using h_
                    refine RunF.does hD ?_
                    clear hD hS_
                    refine RunF.go 9 [0, 3, 4] (k' := (pl Go.Proofs.Try.f41 [1, 1, 0, 1, 0, 0])) (L' := [(0, .slice Ap0 a0.length cp0), (3, .slice A14 ((x3_0 ++ ([rd a0 x4_0] : List Int)).length) c16), (4, .int .i64 (I64 (x4_0 - 1)))]) (w' := W17) (by kernel_rfl) ?_
                    exact ih0 k (by omega) A14 c16 (x3_0 ++ ([rd a0 x4_0] : List Int)) (I64 (x4_0 - 1)) _ (hM.pick [1] rfl rfl) h
                  · replace h := of_false h c18
                    cases h
                · replace h := of_false h c10
                  cases h
              · replace h := of_false h c9
                cases h
            · replace h := of_false h c7
              refine RunF.know 12 (b := false) (by kernel_rfl) c7 ?_
              refine RunF.go 7 [2] (k' := (pl Go.Proofs.Try.f41 [1, 1, 1, 1])) (L' := [(2, .slice A3_0 x3_0.length c3_0)]) (w' := W) (by kernel_rfl) ?_
              obtain rfl := Option.some.inj h
              exact RunF.ret1 2 (.slice A3_0 x3_0.length c3_0) (fn := Go.Proofs.Try.f41) Go.Proofs.Try.func41 (by kernel_rfl) (by kernel_rfl) (by kernel_rfl) ⟨_, rfl, A3_0, x3_0.length, c3_0, rfl, (hM.pick [0] rfl rfl)⟩
      exact l0 k (Nat.le_refl _) (some ⟨g2, 0, none⟩) (((a0.length : Int) : Int).toNat) (List.replicate 0 (0 : Int)) (I64 ((a0.length : Int) - 1)) _ (hM.pick [0] rfl rfl) h
    · replace h := of_false h c4
      cases h
  · replace h := of_false h c3
    cases h

/-! ### scrim/words.Le32: function 22 -/
def words_Le32.f (k : Nat) (a0 : List Int) : Option (Int × Bool) := (words_turned.f k a0).bind fun t2 => ((words_Be32.f k t2).bind fun t8 => (some (t8.1, t8.2)))
set_option maxRecDepth 100000 in
theorem words_Le32.calls (k : Nat) (Ap0 : Option Addr) (np0 cp0 : Nat) (a0 : List Int) (r : Int × Bool) (w : World) (hr0 : Rd w (.slice Ap0 np0 cp0) (nums .u8 a0)) (h : words_Le32.f k a0 = some r) :
    Calls Go.Proofs.Try.prog 22 #[(.slice Ap0 np0 cp0)] w (Ret fun v w' => v = .tuple #[.int .u32 r.1, .bool r.2] ∧ Mem w w' []) := by
  obtain rfl : a0.length = np0 := by have h_ := hr0.1; simpa [nums_length, bools_length, strs_length] using h_
  unfold words_Le32.f at h
  refine calls_of [.slice Ap0 a0.length cp0] (fn := Go.Proofs.Try.f22) Go.Proofs.Try.func22 (by kernel_rfl) (by kernel_rfl) ?_
  have hM := Mem.refl w
  refine RunF.go 8 [4] (k' := (pin Go.Proofs.Try.f22 [1, 0] 1)) (L' := [(4, .slice Ap0 a0.length cp0)]) (w' := w) (by kernel_rfl) ?_
  obtain ⟨t2, ht2, h⟩ := Option.bind_eq_some_iff.mp h
  refine RunF.call (d := some 5) (g := 41) (args := #[.slice Ap0 a0.length cp0]) (k2 := (pin Go.Proofs.Try.f22 [1, 0] 2)) (by kernel_rfl) (words_turned.calls k Ap0 a0.length cp0 a0 t2 _ (hr0.mono hM.below) ht2) ?_
  rintro _ W1 ⟨A3, n4, c5, rfl, hM_⟩
  obtain rfl : t2.length = n4 := by have h_ := (hM_.rd 0 rfl).1; simpa [nums_length, bools_length, strs_length] using h_
  replace hM := hM.call hM_
  clear hM_ ht2
  obtain ⟨t8, ht8, h⟩ := Option.bind_eq_some_iff.mp h
  refine RunF.call (d := some 6) (g := 18) (args := #[.slice A3 t2.length c5]) (k2 := (pin Go.Proofs.Try.f22 [1, 0] 3)) (by kernel_rfl) (words_Be32.calls k A3 t2.length c5 t2 t8 _ (hM.rd 0 rfl) ht8) ?_
  rintro _ W7 ⟨rfl, hM_⟩
  replace hM := hM.call hM_
  clear hM_ ht8
  refine RunF.go 5 [2, 3] (k' := (pl Go.Proofs.Try.f22 [1, 1])) (L' := [(2, .int .u32 t8.1), (3, .bool t8.2)]) (w' := W7) (by kernel_rfl) ?_
  obtain rfl := Option.some.inj h
  exact RunF.ret2 2 3 (.int .u32 t8.1) (.bool t8.2) (fn := Go.Proofs.Try.f22) Go.Proofs.Try.func22 (by kernel_rfl) (by kernel_rfl) (by kernel_rfl) (by kernel_rfl) ⟨_, rfl, rfl, (hM.pick [] rfl rfl)⟩

/-! ### scrim/words.Be64: function 24 -/
def words_Be64.f (k : Nat) (a0 : List Int) : Option (Int × Bool) := if ((a0.length : Int) != 8) = true then (some (0, false)) else ((words_load.f k a0).bind fun t3 => (some (t3, true)))
set_option maxRecDepth 100000 in
theorem words_Be64.calls (k : Nat) (Ap0 : Option Addr) (np0 cp0 : Nat) (a0 : List Int) (r : Int × Bool) (w : World) (hr0 : Rd w (.slice Ap0 np0 cp0) (nums .u8 a0)) (h : words_Be64.f k a0 = some r) :
    Calls Go.Proofs.Try.prog 24 #[(.slice Ap0 np0 cp0)] w (Ret fun v w' => v = .tuple #[.int .u64 r.1, .bool r.2] ∧ Mem w w' []) := by
  obtain rfl : a0.length = np0 := by have h_ := hr0.1; simpa [nums_length, bools_length, strs_length] using h_
  unfold words_Be64.f at h
  refine calls_of [.slice Ap0 a0.length cp0] (fn := Go.Proofs.Try.f24) Go.Proofs.Try.func24 (by kernel_rfl) (by kernel_rfl) ?_
  have hM := Mem.refl w
  refine RunF.go 12 [0, 6] (k' := (pl Go.Proofs.Try.f24 [1, 0, 1])) (L' := [(0, .slice Ap0 a0.length cp0), (6, .bool ((a0.length : Int) != 8))]) (w' := w) (by kernel_rfl) ?_
  rcases two (((a0.length : Int) != 8)) with c1 | c1
  · replace h := of_true h c1
    refine RunF.know 6 (b := true) (by kernel_rfl) c1 ?_
    refine RunF.go 6 [2, 3] (k' := (pl Go.Proofs.Try.f24 [1, 0, 1, 0, 1])) (L' := [(2, .int .u64 0), (3, .bool false)]) (w' := w) (by kernel_rfl) ?_
    obtain rfl := Option.some.inj h
    exact RunF.ret2 2 3 (.int .u64 0) (.bool false) (fn := Go.Proofs.Try.f24) Go.Proofs.Try.func24 (by kernel_rfl) (by kernel_rfl) (by kernel_rfl) (by kernel_rfl) ⟨_, rfl, rfl, (hM.pick [] rfl rfl)⟩
  · replace h := of_false h c1
    refine RunF.know 6 (b := false) (by kernel_rfl) c1 ?_
    refine RunF.go 5 [7] (k' := (pin Go.Proofs.Try.f24 [1, 1, 0] 1)) (L' := [(7, .slice Ap0 a0.length cp0)]) (w' := w) (by kernel_rfl) ?_
    obtain ⟨t3, ht3, h⟩ := Option.bind_eq_some_iff.mp h
    refine RunF.call (d := some 8) (g := 38) (args := #[.slice Ap0 a0.length cp0]) (k2 := (pin Go.Proofs.Try.f24 [1, 1, 0] 2)) (by kernel_rfl) (words_load.calls k Ap0 a0.length cp0 a0 t3 _ (hr0.mono hM.below) ht3) ?_
    rintro _ W2 ⟨rfl, hM_⟩
    replace hM := hM.call hM_
    clear hM_ ht3
    refine RunF.go 3 [2, 3] (k' := (pl Go.Proofs.Try.f24 [1, 1, 1])) (L' := [(2, .int .u64 t3), (3, .bool true)]) (w' := W2) (by kernel_rfl) ?_
    obtain rfl := Option.some.inj h
    exact RunF.ret2 2 3 (.int .u64 t3) (.bool true) (fn := Go.Proofs.Try.f24) Go.Proofs.Try.func24 (by kernel_rfl) (by kernel_rfl) (by kernel_rfl) (by kernel_rfl) ⟨_, rfl, rfl, (hM.pick [] rfl rfl)⟩

/-! ### scrim/words.Rol32: function 26 -/
def words_Rol32.f (k : Nat) (a0 : Int) (a1 : Int) : Option (Int) := (words_rest.f k a1 32).bind fun t2 => (if (decide (0 ≤ (U64 (t2)))) = true then (if (decide (0 ≤ (U64 (32 - (U64 (t2)))))) = true then (some (bor .u32 (shlv .u32 a0 (U64 (t2))) (shrv .u32 a0 (U64 (32 - (U64 (t2))))))) else (none)) else (none))
set_option maxRecDepth 100000 in
theorem words_Rol32.calls (k : Nat) (a0 : Int) (a1 : Int) (r : Int) (w : World) (h : words_Rol32.f k a0 a1 = some r) :
    Calls Go.Proofs.Try.prog 26 #[.int .u32 a0, .int .i64 a1] w (Ret fun v w' => v = .int .u32 r ∧ Mem w w' []) := by
  unfold words_Rol32.f at h
  refine calls_of [.int .u32 a0, .int .i64 a1] (fn := Go.Proofs.Try.f26) Go.Proofs.Try.func26 (by kernel_rfl) (by kernel_rfl) ?_
  have hM := Mem.refl w
  refine RunF.go 7 [0, 6] (k' := (pin Go.Proofs.Try.f26 [1, 0] 1)) (L' := [(0, .int .u32 a0), (6, .int .i64 a1)]) (w' := w) (by kernel_rfl) ?_
  obtain ⟨t2, ht2, h⟩ := Option.bind_eq_some_iff.mp h
  refine RunF.call (d := some 7) (g := 43) (args := #[.int .i64 a1, .int .i64 32]) (k2 := (pin Go.Proofs.Try.f26 [1, 0] 2)) (by kernel_rfl) (words_rest.calls k a1 32 t2 _ ht2) ?_
  rintro _ W1 ⟨rfl, hM_⟩
  replace hM := hM.call hM_
  clear hM_ ht2
  refine RunF.go 7 [0, 5, 9, 10] (k' := (pin Go.Proofs.Try.f26 [1, 1, 0] 2)) (L' := [(0, .int .u32 a0), (5, .int .u64 (U64 (t2))), (9, .int .u32 a0), (10, .int .u64 (U64 (t2)))]) (w' := W1) (by kernel_rfl) ?_
  rcases two (decide (0 ≤ (U64 (t2)))) with c3 | c3
  · replace h := of_true h c3
    refine RunF.y (sh_y (d := some 11) (b := true) (kd := .u32) (x := a0) (y := U64 (t2)) (k2 := (pin Go.Proofs.Try.f26 [1, 1, 0] 3)) (by kernel_rfl) c3) trivial ?_
    refine RunF.go 3 [11, 12, 14] (k' := (pin Go.Proofs.Try.f26 [1, 1, 0] 6)) (L' := [(11, .int .u32 (shlv .u32 a0 (U64 (t2)))), (12, .int .u32 a0), (14, .int .u64 (U64 (32 - (U64 (t2)))))]) (w' := W1) (by kernel_rfl) ?_
    rcases two (decide (0 ≤ (U64 (32 - (U64 (t2)))))) with c4 | c4
    · replace h := of_true h c4
      refine RunF.y (sh_y (d := some 15) (b := false) (kd := .u32) (x := a0) (y := U64 (32 - (U64 (t2)))) (k2 := (pin Go.Proofs.Try.f26 [1, 1, 0] 7)) (by kernel_rfl) c4) trivial ?_
      refine RunF.go 3 [4] (k' := (pl Go.Proofs.Try.f26 [1, 1, 1])) (L' := [(4, .int .u32 (bor .u32 (shlv .u32 a0 (U64 (t2))) (shrv .u32 a0 (U64 (32 - (U64 (t2)))))))]) (w' := W1) (by kernel_rfl) ?_
      obtain rfl := Option.some.inj h
      exact RunF.ret1 4 (.int .u32 (bor .u32 (shlv .u32 a0 (U64 (t2))) (shrv .u32 a0 (U64 (32 - (U64 (t2))))))) (fn := Go.Proofs.Try.f26) Go.Proofs.Try.func26 (by kernel_rfl) (by kernel_rfl) (by kernel_rfl) ⟨_, rfl, rfl, (hM.pick [] rfl rfl)⟩
    · replace h := of_false h c4
      cases h
  · replace h := of_false h c3
    cases h

/-! ### scrim/words.Turn: function 30 -/
def words_Turn.l0 : Nat → (List Int) → Int → (List Int) → Int → Option (List Int)
  | 0, _, _, _, _ => none
  | k + 1, a0, t4, x5_0, x23_0 => (some (decide (x23_0 < (((a0.length : Int)).toNat : Int)) : Bool)).bind fun y10 => (if y10 = true then (if (decide ((a0.length : Int) = 0)) = true then (none) else (if (decide (0 ≤ (Int.tmod (I64 (x23_0 + (I64 (Int.tdiv t4 8)))) (a0.length : Int)))) = true then (if (decide ((Int.tmod (I64 (x23_0 + (I64 (Int.tdiv t4 8)))) (a0.length : Int)) < (a0.length : Int))) = true then (if (decide ((a0.length : Int) = 0)) = true then (none) else (if (decide (0 ≤ (Int.tmod (I64 ((I64 (x23_0 + (I64 (Int.tdiv t4 8)))) + 1)) (a0.length : Int)))) = true then (if (decide ((Int.tmod (I64 ((I64 (x23_0 + (I64 (Int.tdiv t4 8)))) + 1)) (a0.length : Int)) < (a0.length : Int))) = true then ((some (bor .u64 (shl .u64 (U64 (rd a0 (Int.tmod (I64 (x23_0 + (I64 (Int.tdiv t4 8)))) (a0.length : Int)))) 8) (U64 (rd a0 (Int.tmod (I64 ((I64 (x23_0 + (I64 (Int.tdiv t4 8)))) + 1)) (a0.length : Int)))) : Int)).bind fun y22 => (if (decide (0 ≤ (U64 (8 - (U64 (Int.tmod t4 8)))))) = true then ((some (U8 (shrv .u64 y22 (U64 (8 - (U64 (Int.tmod t4 8))))) : Int)).bind fun y24 => (if (decide (0 ≤ x23_0)) = true then (if (decide (x23_0 < (((a0.length : Int)).toNat : Int))) = true then (words_Turn.l0 k a0 t4 (x5_0.set (x23_0 : Int).toNat y24) (I64 (x23_0 + 1))) else (none)) else (none))) else (none))) else (none)) else (none))) else (none)) else (none))) else (some x5_0))
def words_Turn.f (k : Nat) (a0 : List Int) (a1 : Int) : Option (List Int) := if ((a0.length : Int) == 0) = true then (some ([] : List Int)) else ((words_rest.f k a1 (I64 (8 * (a0.length : Int)))).bind fun t4 => (if (decide (0 ≤ (a0.length : Int))) = true then (if (decide ((a0.length : Int) ≤ 1000000000)) = true then (words_Turn.l0 k a0 t4 (List.replicate (((a0.length : Int)).toNat) (0 : Int)) 0) else (none)) else (none)))
set_option maxRecDepth 100000 in
theorem words_Turn.calls (k : Nat) (Ap0 : Option Addr) (np0 cp0 : Nat) (a0 : List Int) (a1 : Int) (r : List Int) (w : World) (hr0 : Rd w (.slice Ap0 np0 cp0) (nums .u8 a0)) (h : words_Turn.f k a0 a1 = some r) :
    Calls Go.Proofs.Try.prog 30 #[(.slice Ap0 np0 cp0), .int .i64 a1] w (Ret fun v w' => ∃ A0' n0' c0', v = .slice A0' n0' c0' ∧ Mem w w' [⟨.slice A0' n0' c0', 5, 1, nums .u8 r⟩]) := by
  obtain rfl : a0.length = np0 := by have h_ := hr0.1; simpa [nums_length, bools_length, strs_length] using h_
  unfold words_Turn.f at h
  refine calls_of [.slice Ap0 a0.length cp0, .int .i64 a1] (fn := Go.Proofs.Try.f30) Go.Proofs.Try.func30 (by kernel_rfl) (by kernel_rfl) ?_
  have hM := Mem.refl w
  refine RunF.go 11 [0, 1, 12] (k' := (pl Go.Proofs.Try.f30 [1, 0, 1])) (L' := [(0, .slice Ap0 a0.length cp0), (1, .int .i64 a1), (12, .bool ((a0.length : Int) == 0))]) (w' := w) (by kernel_rfl) ?_
  rcases two (((a0.length : Int) == 0)) with c1 | c1
  · replace h := of_true h c1
    refine RunF.know 12 (b := true) (by kernel_rfl) c1 ?_
    refine RunF.go 5 [4] (k' := (pl Go.Proofs.Try.f30 [1, 0, 1, 0, 1])) (L' := [(4, .slice none 0 0)]) (w' := w) (by kernel_rfl) ?_
    replace hM := hM.nil 5
    obtain rfl := Option.some.inj h
    exact RunF.ret1 4 (.slice none 0 0) (fn := Go.Proofs.Try.f30) Go.Proofs.Try.func30 (by kernel_rfl) (by kernel_rfl) (by kernel_rfl) ⟨_, rfl, none, 0, 0, rfl, (hM.pick [0] rfl rfl)⟩
  · replace h := of_false h c1
    refine RunF.know 12 (b := false) (by kernel_rfl) c1 ?_
    refine RunF.go 8 [0, 13, 16] (k' := (pin Go.Proofs.Try.f30 [1, 1, 0] 4)) (L' := [(0, .slice Ap0 a0.length cp0), (13, .int .i64 a1), (16, .int .i64 (I64 (8 * (a0.length : Int))))]) (w' := w) (by kernel_rfl) ?_
    obtain ⟨t4, ht4, h⟩ := Option.bind_eq_some_iff.mp h
    refine RunF.call (d := some 17) (g := 43) (args := #[.int .i64 a1, .int .i64 (I64 (8 * (a0.length : Int)))]) (k2 := (pin Go.Proofs.Try.f30 [1, 1, 0] 5)) (by kernel_rfl) (words_rest.calls k a1 (I64 (8 * (a0.length : Int))) t4 _ ht4) ?_
    rintro _ W3 ⟨rfl, hM_⟩
    replace hM := hM.call hM_
    clear hM_ ht4
    refine RunF.go 6 [0, 1, 19] (k' := (pin Go.Proofs.Try.f30 [1, 1, 1, 0] 2)) (L' := [(0, .slice Ap0 a0.length cp0), (1, .int .i64 t4), (19, .int .i64 (a0.length : Int))]) (w' := W3) (by kernel_rfl) ?_
    rcases two (decide (0 ≤ (a0.length : Int))) with c7 | c7
    · replace h := of_true h c7
      rcases two (decide ((a0.length : Int) ≤ 1000000000)) with c8 | c8
      · replace h := of_true h c8
        have := of_decide_eq_true c7
        have := of_decide_eq_true c8
        obtain ⟨W5, hD, hM', hB_⟩ := mk_does (P := Go.Proofs.Try.prog) (n := 62) (k := (pin Go.Proofs.Try.f30 [1, 1, 1, 0] 2)) (L := [(0, .slice Ap0 a0.length cp0), (1, .int .i64 t4), (19, .int .i64 (a0.length : Int))]) (d := some 20) (e := 5) (z := .int .u8 0) (l := (a0.length : Int)) (c := (a0.length : Int)) (k2 := (pin Go.Proofs.Try.f30 [1, 1, 1, 0] 3)) (by kernel_rfl) (by omega) (by omega) (by omega) hM
        rw [rep_nums] at hM'
        refine RunF.does hD ?_
        replace hM := hM'; clear hD hM'
        generalize W3.heap.size = g6 at hM ⊢
        refine RunF.go 11 [0, 1, 5, 22, 23] (k' := (pl Go.Proofs.Try.f30 [1, 1, 1, 1, 0, 1, 0, 0])) (L' := [(0, .slice Ap0 a0.length cp0), (1, .int .i64 t4), (5, .slice (some ⟨g6, 0, none⟩) (((a0.length : Int)).toNat) (((a0.length : Int) : Int).toNat)), (22, .int .i64 (((a0.length : Int)).toNat : Int)), (23, .int .i64 0)]) (w' := W5) (by kernel_rfl) ?_
        have l0 : ∀ (k_ : Nat), k_ ≤ k → ∀ (x5_0 : List Int) (x23_0 : Int) (W : World) (hM : Mem w W [⟨.slice (some ⟨g6, 0, none⟩) (((a0.length : Int)).toNat) (((a0.length : Int) : Int).toNat), 5, 1, nums .u8 x5_0⟩]) (h : words_Turn.l0 k_ a0 t4 x5_0 x23_0 = some r), RunF Go.Proofs.Try.prog (Ret fun v w' => ∃ A0' n0' c0', v = .slice A0' n0' c0' ∧ Mem w w' [⟨.slice A0' n0' c0', 5, 1, nums .u8 r⟩]) 30 (pl Go.Proofs.Try.f30 [1, 1, 1, 1, 0, 1, 0, 0]) 62 [(0, .slice Ap0 a0.length cp0), (1, .int .i64 t4), (5, .slice (some ⟨g6, 0, none⟩) (((a0.length : Int)).toNat) (((a0.length : Int) : Int).toNat)), (22, .int .i64 (((a0.length : Int)).toNat : Int)), (23, .int .i64 x23_0)] W := by
          intro k_
          induction k_ using Nat.strongRecOn with
          | _ k_ ih0 =>
            intro hk x5_0 x23_0 W hM h
            cases k_ with
            | zero => exact absurd h (by simp [words_Turn.l0])
            | succ k =>
              simp only [words_Turn.l0] at h
              replace ih0 : ∀ m, m ≤ k → _ := fun m hm => ih0 m (by omega) (by omega)
              refine RunF.go 5 [0, 1, 5, 22, 23, 24] (k' := (pl Go.Proofs.Try.f30 [1, 1, 1, 1, 0, 1, 0, 0, 1, 0])) (L' := [(0, .slice Ap0 a0.length cp0), (1, .int .i64 t4), (5, .slice (some ⟨g6, 0, none⟩) (((a0.length : Int)).toNat) (((a0.length : Int) : Int).toNat)), (22, .int .i64 (((a0.length : Int)).toNat : Int)), (23, .int .i64 x23_0), (24, .bool (decide (x23_0 < (((a0.length : Int)).toNat : Int))))]) (w' := W) (by kernel_rfl) ?_
              obtain ⟨y10, hy, h⟩ := Option.bind_eq_some_iff.mp h
              rw [show (decide (x23_0 < (((a0.length : Int)).toNat : Int))) = y10 from Option.some.inj hy]
              clear hy
              rcases two (y10) with c11 | c11
              · replace h := of_true h c11
                refine RunF.know 24 (b := true) (by kernel_rfl) c11 ?_
                refine RunF.go 18 [0, 1, 5, 6, 7, 22, 23] (k' := (pl Go.Proofs.Try.f30 [1, 1, 1, 1, 0, 1, 0, 0, 1, 1, 0, 0, 1, 1, 0])) (L' := [(0, .slice Ap0 a0.length cp0), (1, .int .i64 t4), (5, .slice (some ⟨g6, 0, none⟩) (((a0.length : Int)).toNat) (((a0.length : Int) : Int).toNat)), (6, .int .i64 x23_0), (7, .int .i64 (I64 (x23_0 + (I64 (Int.tdiv t4 8))))), (22, .int .i64 (((a0.length : Int)).toNat : Int)), (23, .int .i64 x23_0)]) (w' := W) (by kernel_rfl) ?_
                refine RunF.draw (Still ({ W with drawn := W.drawn + 1 } : World) []) (by kernel_rfl) (by kernel_rfl) ?_
                have hMd13 := hM.drew
                have hS := Still.refl ({ W with drawn := W.drawn + 1 } : World) []
                generalize ({ W with drawn := W.drawn + 1 } : World) = W12 at hMd13 hS ⊢
                replace hM := hMd13
                refine RunAny.y 0 (by kernel_rfl) (yl_pure (d := some 30) (v := .slice Ap0 a0.length cp0) (k2 := [.inRegion (opsOf (pl Go.Proofs.Try.f30 [1, 1, 1, 1, 0, 1, 0, 0, 1, 1, 0, 0, 1, 1, 0])) []]) fun w => by kernel_rfl) (fun _ _ => trivial) hS ?_
                refine RunAny.y 1 (by kernel_rfl) (yl_pure (d := some 31) (v := .int .i64 (I64 (x23_0 + (I64 (Int.tdiv t4 8))))) (k2 := [.inRegion (opsOf (pl Go.Proofs.Try.f30 [1, 1, 1, 1, 0, 1, 0, 0, 1, 1, 0, 0, 1, 1, 0])) []]) fun w => by kernel_rfl) (fun _ _ => trivial) hS ?_
                refine RunAny.y 2 (by kernel_rfl) (yl_pure (d := some 32) (v := .slice Ap0 a0.length cp0) (k2 := [.inRegion (opsOf (pl Go.Proofs.Try.f30 [1, 1, 1, 1, 0, 1, 0, 0, 1, 1, 0, 0, 1, 1, 0])) []]) fun w => by kernel_rfl) (fun _ _ => trivial) hS ?_
                refine RunAny.y 3 (by kernel_rfl) (yl_pure (d := some 33) (v := .int .i64 (a0.length : Int)) (k2 := [.inRegion (opsOf (pl Go.Proofs.Try.f30 [1, 1, 1, 1, 0, 1, 0, 0, 1, 1, 0, 0, 1, 1, 0])) []]) fun w => by kernel_rfl) (fun _ _ => trivial) hS ?_
                rcases two (decide ((a0.length : Int) = 0)) with c14 | c14
                · replace h := of_true h c14
                  cases h
                · replace h := of_false h c14
                  refine RunAny.y 4 (by kernel_rfl) (div_y (d := some 34) (b := false) (kd := .i64) (x := I64 (x23_0 + (I64 (Int.tdiv t4 8)))) (y := (a0.length : Int)) (k2 := [.inRegion (opsOf (pl Go.Proofs.Try.f30 [1, 1, 1, 1, 0, 1, 0, 0, 1, 1, 0, 0, 1, 1, 0])) []]) (by kernel_rfl) c14) (fun _ _ => trivial) hS ?_
                  rcases two (decide (0 ≤ (Int.tmod (I64 (x23_0 + (I64 (Int.tdiv t4 8)))) (a0.length : Int)))) with c16 | c16
                  · replace h := of_true h c16
                    rcases two (decide ((Int.tmod (I64 (x23_0 + (I64 (Int.tdiv t4 8)))) (a0.length : Int)) < (a0.length : Int))) with c17 | c17
                    · replace h := of_true h c17
                      obtain ⟨q15, hAq15, hcq15⟩ := Rd.num (hr0.mono hM.below) (i := Int.tmod (I64 (x23_0 + (I64 (Int.tdiv t4 8)))) (a0.length : Int)) (of_decide_eq_true c16) (by have h_ := of_decide_eq_true c17; omega)
                      refine RunAny.y 5 (by kernel_rfl) (idx_y (d := some 35) (A := Ap0) (m := a0.length) (i := Int.tmod (I64 (x23_0 + (I64 (Int.tdiv t4 8)))) (a0.length : Int)) (k2 := [.inRegion (opsOf (pl Go.Proofs.Try.f30 [1, 1, 1, 1, 0, 1, 0, 0, 1, 1, 0, 0, 1, 1, 0])) []]) (by kernel_rfl) (of_decide_eq_true c16) (by have h_ := of_decide_eq_true c17; omega) hAq15) (fun _ _ => trivial) hS ?_
                      refine RunAny.y 6 (by kernel_rfl) (ld_y (d := some 36) (p := (q15.add (Int.tmod (I64 (x23_0 + (I64 (Int.tdiv t4 8)))) (a0.length : Int) : Int).toNat)) (k2 := [.inRegion (opsOf (pl Go.Proofs.Try.f30 [1, 1, 1, 1, 0, 1, 0, 0, 1, 1, 0, 0, 1, 1, 0])) []]) (.int .u8 (rd a0 (Int.tmod (I64 (x23_0 + (I64 (Int.tdiv t4 8)))) (a0.length : Int)))) (by kernel_rfl)) (fun _ hs => hs.cell hcq15 (by simp)) hS ?_
                      refine RunAny.y 7 (by kernel_rfl) (yl_pure (d := some 37) (v := .slice Ap0 a0.length cp0) (k2 := [.inRegion (opsOf (pl Go.Proofs.Try.f30 [1, 1, 1, 1, 0, 1, 0, 0, 1, 1, 0, 0, 1, 1, 0])) []]) fun w => by kernel_rfl) (fun _ _ => trivial) hS ?_
                      refine RunAny.y 8 (by kernel_rfl) (yl_pure (d := some 38) (v := .int .i64 (I64 (x23_0 + (I64 (Int.tdiv t4 8))))) (k2 := [.inRegion (opsOf (pl Go.Proofs.Try.f30 [1, 1, 1, 1, 0, 1, 0, 0, 1, 1, 0, 0, 1, 1, 0])) []]) fun w => by kernel_rfl) (fun _ _ => trivial) hS ?_
                      refine RunAny.y 9 (by kernel_rfl) (yl_pure (d := some 39) (v := .int .i64 (I64 ((I64 (x23_0 + (I64 (Int.tdiv t4 8)))) + 1))) (k2 := [.inRegion (opsOf (pl Go.Proofs.Try.f30 [1, 1, 1, 1, 0, 1, 0, 0, 1, 1, 0, 0, 1, 1, 0])) []]) fun w => by kernel_rfl) (fun _ _ => trivial) hS ?_
                      refine RunAny.y 10 (by kernel_rfl) (yl_pure (d := some 40) (v := .slice Ap0 a0.length cp0) (k2 := [.inRegion (opsOf (pl Go.Proofs.Try.f30 [1, 1, 1, 1, 0, 1, 0, 0, 1, 1, 0, 0, 1, 1, 0])) []]) fun w => by kernel_rfl) (fun _ _ => trivial) hS ?_
                      refine RunAny.y 11 (by kernel_rfl) (yl_pure (d := some 41) (v := .int .i64 (a0.length : Int)) (k2 := [.inRegion (opsOf (pl Go.Proofs.Try.f30 [1, 1, 1, 1, 0, 1, 0, 0, 1, 1, 0, 0, 1, 1, 0])) []]) fun w => by kernel_rfl) (fun _ _ => trivial) hS ?_
                      rcases two (decide ((a0.length : Int) = 0)) with c18 | c18
                      · replace h := of_true h c18
                        cases h
                      · replace h := of_false h c18
                        refine RunAny.y 12 (by kernel_rfl) (div_y (d := some 42) (b := false) (kd := .i64) (x := I64 ((I64 (x23_0 + (I64 (Int.tdiv t4 8)))) + 1)) (y := (a0.length : Int)) (k2 := [.inRegion (opsOf (pl Go.Proofs.Try.f30 [1, 1, 1, 1, 0, 1, 0, 0, 1, 1, 0, 0, 1, 1, 0])) []]) (by kernel_rfl) c18) (fun _ _ => trivial) hS ?_
                        rcases two (decide (0 ≤ (Int.tmod (I64 ((I64 (x23_0 + (I64 (Int.tdiv t4 8)))) + 1)) (a0.length : Int)))) with c20 | c20
                        · replace h := of_true h c20
                          rcases two (decide ((Int.tmod (I64 ((I64 (x23_0 + (I64 (Int.tdiv t4 8)))) + 1)) (a0.length : Int)) < (a0.length : Int))) with c21 | c21
                          · replace h := of_true h c21
                            obtain ⟨q19, hAq19, hcq19⟩ := Rd.num (hr0.mono hM.below) (i := Int.tmod (I64 ((I64 (x23_0 + (I64 (Int.tdiv t4 8)))) + 1)) (a0.length : Int)) (of_decide_eq_true c20) (by have h_ := of_decide_eq_true c21; omega)
                            refine RunAny.y 13 (by kernel_rfl) (idx_y (d := some 43) (A := Ap0) (m := a0.length) (i := Int.tmod (I64 ((I64 (x23_0 + (I64 (Int.tdiv t4 8)))) + 1)) (a0.length : Int)) (k2 := [.inRegion (opsOf (pl Go.Proofs.Try.f30 [1, 1, 1, 1, 0, 1, 0, 0, 1, 1, 0, 0, 1, 1, 0])) []]) (by kernel_rfl) (of_decide_eq_true c20) (by have h_ := of_decide_eq_true c21; omega) hAq19) (fun _ _ => trivial) hS ?_
                            refine RunAny.y 14 (by kernel_rfl) (ld_y (d := some 44) (p := (q19.add (Int.tmod (I64 ((I64 (x23_0 + (I64 (Int.tdiv t4 8)))) + 1)) (a0.length : Int) : Int).toNat)) (k2 := [.inRegion (opsOf (pl Go.Proofs.Try.f30 [1, 1, 1, 1, 0, 1, 0, 0, 1, 1, 0, 0, 1, 1, 0])) []]) (.int .u8 (rd a0 (Int.tmod (I64 ((I64 (x23_0 + (I64 (Int.tdiv t4 8)))) + 1)) (a0.length : Int)))) (by kernel_rfl)) (fun _ hs => hs.cell hcq19 (by simp)) hS ?_
                            refine RunAny.y 15 (by kernel_rfl) (yl_pure (d := some 8) (v := .int .u8 (rd a0 (Int.tmod (I64 (x23_0 + (I64 (Int.tdiv t4 8)))) (a0.length : Int)))) (k2 := [.inRegion (opsOf (pl Go.Proofs.Try.f30 [1, 1, 1, 1, 0, 1, 0, 0, 1, 1, 0, 0, 1, 1, 0])) []]) fun w => by kernel_rfl) (fun _ _ => trivial) hS ?_
                            refine RunAny.y 16 (by kernel_rfl) (yl_pure (d := some 9) (v := .int .u8 (rd a0 (Int.tmod (I64 ((I64 (x23_0 + (I64 (Int.tdiv t4 8)))) + 1)) (a0.length : Int)))) (k2 := [.inRegion (opsOf (pl Go.Proofs.Try.f30 [1, 1, 1, 1, 0, 1, 0, 0, 1, 1, 0, 0, 1, 1, 0])) []]) fun w => by kernel_rfl) (fun _ _ => trivial) hS ?_
                            refine RunAny.done (by kernel_rfl) ?_
                            clear hS
                            refine RunF.go 13 [0, 1, 5, 22, 23, 45, 46, 52, 56] (k' := (pin Go.Proofs.Try.f30 [1, 1, 1, 1, 0, 1, 0, 0, 1, 1, 0, 0, 1, 1, 1] 12)) (L' := [(0, .slice Ap0 a0.length cp0), (1, .int .i64 t4), (5, .slice (some ⟨g6, 0, none⟩) (((a0.length : Int)).toNat) (((a0.length : Int) : Int).toNat)), (22, .int .i64 (((a0.length : Int)).toNat : Int)), (23, .int .i64 x23_0), (45, .slice (some ⟨g6, 0, none⟩) (((a0.length : Int)).toNat) (((a0.length : Int) : Int).toNat)), (46, .int .i64 x23_0), (52, .int .u64 (bor .u64 (shl .u64 (U64 (rd a0 (Int.tmod (I64 (x23_0 + (I64 (Int.tdiv t4 8)))) (a0.length : Int)))) 8) (U64 (rd a0 (Int.tmod (I64 ((I64 (x23_0 + (I64 (Int.tdiv t4 8)))) + 1)) (a0.length : Int)))))), (56, .int .u64 (U64 (8 - (U64 (Int.tmod t4 8)))))]) (w' := W12) (by kernel_rfl) ?_
                            obtain ⟨y22, hy, h⟩ := Option.bind_eq_some_iff.mp h
                            rw [show (bor .u64 (shl .u64 (U64 (rd a0 (Int.tmod (I64 (x23_0 + (I64 (Int.tdiv t4 8)))) (a0.length : Int)))) 8) (U64 (rd a0 (Int.tmod (I64 ((I64 (x23_0 + (I64 (Int.tdiv t4 8)))) + 1)) (a0.length : Int))))) = y22 from Option.some.inj hy]
                            clear hy
                            rcases two (decide (0 ≤ (U64 (8 - (U64 (Int.tmod t4 8)))))) with c23 | c23
                            · replace h := of_true h c23
                              refine RunF.y (sh_y (d := some 57) (b := false) (kd := .u64) (x := y22) (y := U64 (8 - (U64 (Int.tmod t4 8)))) (k2 := (pin Go.Proofs.Try.f30 [1, 1, 1, 1, 0, 1, 0, 0, 1, 1, 0, 0, 1, 1, 1] 13)) (by kernel_rfl) c23) trivial ?_
                              refine RunF.go 1 [0, 1, 5, 22, 23, 45, 46, 58] (k' := (pin Go.Proofs.Try.f30 [1, 1, 1, 1, 0, 1, 0, 0, 1, 1, 0, 0, 1, 1, 1] 14)) (L' := [(0, .slice Ap0 a0.length cp0), (1, .int .i64 t4), (5, .slice (some ⟨g6, 0, none⟩) (((a0.length : Int)).toNat) (((a0.length : Int) : Int).toNat)), (22, .int .i64 (((a0.length : Int)).toNat : Int)), (23, .int .i64 x23_0), (45, .slice (some ⟨g6, 0, none⟩) (((a0.length : Int)).toNat) (((a0.length : Int) : Int).toNat)), (46, .int .i64 x23_0), (58, .int .u8 (U8 (shrv .u64 y22 (U64 (8 - (U64 (Int.tmod t4 8)))))))]) (w' := W12) (by kernel_rfl) ?_
                              obtain ⟨y24, hy, h⟩ := Option.bind_eq_some_iff.mp h
                              rw [show (U8 (shrv .u64 y22 (U64 (8 - (U64 (Int.tmod t4 8)))))) = y24 from Option.some.inj hy]
                              clear hy
                              rcases two (decide (0 ≤ x23_0)) with c26 | c26
                              · replace h := of_true h c26
                                rcases two (decide (x23_0 < (((a0.length : Int)).toNat : Int))) with c27 | c27
                                · replace h := of_true h c27
                                  obtain ⟨q25, hAq25, hcq25, hfq25, hlq25⟩ := hM.num_at 0 rfl (i := x23_0) (of_decide_eq_true c26) (by have h_ := of_decide_eq_true c27; omega)
                                  refine RunF.y (idx_own (d := some 59) (A := (some ⟨g6, 0, none⟩)) (m := ((a0.length : Int)).toNat) (i := x23_0) (k2 := (pin Go.Proofs.Try.f30 [1, 1, 1, 1, 0, 1, 0, 0, 1, 1, 0, 0, 1, 1, 1] 15)) (by kernel_rfl) (of_decide_eq_true c26) (by have h_ := of_decide_eq_true c27; omega) hAq25) trivial ?_
                                  obtain ⟨g_, hA_, hc_, hf_, hl_⟩ := hM.num_at 0 rfl (i := x23_0) (of_decide_eq_true c26) (by have h_ := of_decide_eq_true c27; omega)
                                  obtain rfl : q25 = g_ := by rw [hAq25] at hA_; injection hA_ with hA_; injection hA_
                                  refine RunF.doesU (st_u (p := (⟨q25, (x23_0 : Int).toNat, none⟩ : Addr)) (v := .int .u8 y24) (k2 := (pin Go.Proofs.Try.f30 [1, 1, 1, 1, 0, 1, 0, 0, 1, 1, 0, 0, 1, 1, 1] 16)) (by kernel_rfl) hc_ hf_) ?_
                                  replace hM : Mem w (W12.setCell (⟨q25, (x23_0 : Int).toNat, none⟩ : Addr) (.int .u8 y24)) [⟨.slice (some ⟨g6, 0, none⟩) (((a0.length : Int)).toNat) (((a0.length : Int) : Int).toNat), 5, 1, nums .u8 (x5_0.set (x23_0 : Int).toNat y24)⟩] := Mem.put_num [] [] (hM.pick [0] rfl rfl) hAq25 _ hl_ _
                                  generalize W12.setCell (⟨q25, (x23_0 : Int).toNat, none⟩ : Addr) (.int .u8 y24) = W28 at hM ⊢
                                  clear hc_ hf_ hl_ hA_ hcq25
                                  refine RunF.go 7 [0, 1, 5, 22, 23] (k' := (pl Go.Proofs.Try.f30 [1, 1, 1, 1, 0, 1, 0, 0])) (L' := [(0, .slice Ap0 a0.length cp0), (1, .int .i64 t4), (5, .slice (some ⟨g6, 0, none⟩) (((a0.length : Int)).toNat) (((a0.length : Int) : Int).toNat)), (22, .int .i64 (((a0.length : Int)).toNat : Int)), (23, .int .i64 (I64 (x23_0 + 1)))]) (w' := W28) (by kernel_rfl) ?_
                                  exact ih0 k (by omega) (x5_0.set (x23_0 : Int).toNat y24) (I64 (x23_0 + 1)) _ (hM.pick [0] rfl rfl) h
                                · replace h := of_false h c27
                                  cases h
                              · replace h := of_false h c26
                                cases h
                            · replace h := of_false h c23
                              cases h
                          · replace h := of_false h c21
                            cases h
                        · replace h := of_false h c20
                          cases h
                    · replace h := of_false h c17
                      cases h
                  · replace h := of_false h c16
                    cases h
              · replace h := of_false h c11
                refine RunF.know 24 (b := false) (by kernel_rfl) c11 ?_
                refine RunF.go 7 [4] (k' := (pl Go.Proofs.Try.f30 [1, 1, 1, 1, 1, 1])) (L' := [(4, .slice (some ⟨g6, 0, none⟩) (((a0.length : Int)).toNat) (((a0.length : Int) : Int).toNat))]) (w' := W) (by kernel_rfl) ?_
                obtain rfl := Option.some.inj h
                exact RunF.ret1 4 (.slice (some ⟨g6, 0, none⟩) (((a0.length : Int)).toNat) (((a0.length : Int) : Int).toNat)) (fn := Go.Proofs.Try.f30) Go.Proofs.Try.func30 (by kernel_rfl) (by kernel_rfl) (by kernel_rfl) ⟨_, rfl, (some ⟨g6, 0, none⟩), ((a0.length : Int)).toNat, ((a0.length : Int) : Int).toNat, rfl, (hM.pick [0] rfl rfl)⟩
        exact l0 k (Nat.le_refl _) (List.replicate (((a0.length : Int)).toNat) (0 : Int)) 0 _ (hM.pick [0] rfl rfl) h
      · replace h := of_false h c8
        cases h
    · replace h := of_false h c7
      cases h

/-! ### scrim/words.store: function 45 -/
def words_store.l0 : Nat → Int → Int → (List Int) → Int → Option (List Int)
  | 0, _, _, _, _ => none
  | k + 1, a1, x0_0, x5_0, x6_0 => if (decide (x6_0 > 0)) = true then (if (decide (0 ≤ (I64 (x6_0 - 1)))) = true then (if (decide ((I64 (x6_0 - 1)) < ((a1 : Int).toNat : Int))) = true then (words_store.l0 k a1 (shr x0_0 8) (x5_0.set (I64 (x6_0 - 1) : Int).toNat (U8 (x0_0))) (I64 (x6_0 - 1))) else (none)) else (none)) else (some x5_0)
def words_store.f (k : Nat) (a0 : Int) (a1 : Int) : Option (List Int) := if (decide (0 ≤ a1)) = true then (if (decide (a1 ≤ 1000000000)) = true then (words_store.l0 k a1 a0 (List.replicate ((a1 : Int).toNat) (0 : Int)) a1) else (none)) else (none)
set_option maxRecDepth 100000 in
theorem words_store.calls (k : Nat) (a0 : Int) (a1 : Int) (r : List Int) (w : World) (h : words_store.f k a0 a1 = some r) :
    Calls Go.Proofs.Try.prog 45 #[.int .u64 a0, .int .i64 a1] w (Ret fun v w' => ∃ A0' n0' c0', v = .slice A0' n0' c0' ∧ Mem w w' [⟨.slice A0' n0' c0', 5, 1, nums .u8 r⟩]) := by
  unfold words_store.f at h
  refine calls_of [.int .u64 a0, .int .i64 a1] (fn := Go.Proofs.Try.f45) Go.Proofs.Try.func45 (by kernel_rfl) (by kernel_rfl) ?_
  have hM := Mem.refl w
  refine RunF.go 8 [0, 1, 7] (k' := (pin Go.Proofs.Try.f45 [1, 0, 0] 1)) (L' := [(0, .int .u64 a0), (1, .int .i64 a1), (7, .int .i64 a1)]) (w' := w) (by kernel_rfl) ?_
  rcases two (decide (0 ≤ a1)) with c3 | c3
  · replace h := of_true h c3
    rcases two (decide (a1 ≤ 1000000000)) with c4 | c4
    · replace h := of_true h c4
      have := of_decide_eq_true c3
      have := of_decide_eq_true c4
      obtain ⟨W1, hD, hM', hB_⟩ := mk_does (P := Go.Proofs.Try.prog) (n := 22) (k := (pin Go.Proofs.Try.f45 [1, 0, 0] 1)) (L := [(0, .int .u64 a0), (1, .int .i64 a1), (7, .int .i64 a1)]) (d := some 8) (e := 5) (z := .int .u8 0) (l := a1) (c := a1) (k2 := (pin Go.Proofs.Try.f45 [1, 0, 0] 2)) (by kernel_rfl) (by omega) (by omega) (by omega) hM
      rw [rep_nums] at hM'
      refine RunF.does hD ?_
      replace hM := hM'; clear hD hM'
      generalize w.heap.size = g2 at hM ⊢
      refine RunF.go 9 [0, 5, 6] (k' := (pl Go.Proofs.Try.f45 [1, 0, 1, 1, 1])) (L' := [(0, .int .u64 a0), (5, .slice (some ⟨g2, 0, none⟩) ((a1 : Int).toNat) ((a1 : Int).toNat)), (6, .int .i64 a1)]) (w' := W1) (by kernel_rfl) ?_
      have l0 : ∀ (k_ : Nat), k_ ≤ k → ∀ (x0_0 : Int) (x5_0 : List Int) (x6_0 : Int) (W : World) (hM : Mem w W [⟨.slice (some ⟨g2, 0, none⟩) ((a1 : Int).toNat) ((a1 : Int).toNat), 5, 1, nums .u8 x5_0⟩]) (h : words_store.l0 k_ a1 x0_0 x5_0 x6_0 = some r), RunF Go.Proofs.Try.prog (Ret fun v w' => ∃ A0' n0' c0', v = .slice A0' n0' c0' ∧ Mem w w' [⟨.slice A0' n0' c0', 5, 1, nums .u8 r⟩]) 45 (pl Go.Proofs.Try.f45 [1, 0, 1, 1, 1]) 22 [(0, .int .u64 x0_0), (5, .slice (some ⟨g2, 0, none⟩) ((a1 : Int).toNat) ((a1 : Int).toNat)), (6, .int .i64 x6_0)] W := by
        intro k_
        induction k_ using Nat.strongRecOn with
        | _ k_ ih0 =>
          intro hk x0_0 x5_0 x6_0 W hM h
          cases k_ with
          | zero => exact absurd h (by simp [words_store.l0])
          | succ k =>
            simp only [words_store.l0] at h
            replace ih0 : ∀ m, m ≤ k → _ := fun m hm => ih0 m (by omega) (by omega)
            refine RunF.go 6 [0, 5, 6, 11] (k' := (pl Go.Proofs.Try.f45 [1, 0, 1, 1, 1, 0, 1])) (L' := [(0, .int .u64 x0_0), (5, .slice (some ⟨g2, 0, none⟩) ((a1 : Int).toNat) ((a1 : Int).toNat)), (6, .int .i64 x6_0), (11, .bool (decide (x6_0 > 0)))]) (w' := W) (by kernel_rfl) ?_
            rcases two (decide (x6_0 > 0)) with c6 | c6
            · replace h := of_true h c6
              refine RunF.know 11 (b := true) (by kernel_rfl) c6 ?_
              refine RunF.go 13 [0, 5, 6, 14, 15, 17] (k' := (pin Go.Proofs.Try.f45 [1, 0, 1, 1, 1, 0, 1, 0, 1, 0] 4)) (L' := [(0, .int .u64 x0_0), (5, .slice (some ⟨g2, 0, none⟩) ((a1 : Int).toNat) ((a1 : Int).toNat)), (6, .int .i64 (I64 (x6_0 - 1))), (14, .slice (some ⟨g2, 0, none⟩) ((a1 : Int).toNat) ((a1 : Int).toNat)), (15, .int .i64 (I64 (x6_0 - 1))), (17, .int .u8 (U8 (x0_0)))]) (w' := W) (by kernel_rfl) ?_
              rcases two (decide (0 ≤ (I64 (x6_0 - 1)))) with c8 | c8
              · replace h := of_true h c8
                rcases two (decide ((I64 (x6_0 - 1)) < ((a1 : Int).toNat : Int))) with c9 | c9
                · replace h := of_true h c9
                  obtain ⟨q7, hAq7, hcq7, hfq7, hlq7⟩ := hM.num_at 0 rfl (i := I64 (x6_0 - 1)) (of_decide_eq_true c8) (by have h_ := of_decide_eq_true c9; omega)
                  refine RunF.y (idx_own (d := some 18) (A := (some ⟨g2, 0, none⟩)) (m := (a1 : Int).toNat) (i := I64 (x6_0 - 1)) (k2 := (pin Go.Proofs.Try.f45 [1, 0, 1, 1, 1, 0, 1, 0, 1, 0] 5)) (by kernel_rfl) (of_decide_eq_true c8) (by have h_ := of_decide_eq_true c9; omega) hAq7) trivial ?_
                  obtain ⟨g_, hA_, hc_, hf_, hl_⟩ := hM.num_at 0 rfl (i := I64 (x6_0 - 1)) (of_decide_eq_true c8) (by have h_ := of_decide_eq_true c9; omega)
                  obtain rfl : q7 = g_ := by rw [hAq7] at hA_; injection hA_ with hA_; injection hA_
                  refine RunF.doesU (st_u (p := (⟨q7, (I64 (x6_0 - 1) : Int).toNat, none⟩ : Addr)) (v := .int .u8 (U8 (x0_0))) (k2 := (pin Go.Proofs.Try.f45 [1, 0, 1, 1, 1, 0, 1, 0, 1, 0] 6)) (by kernel_rfl) hc_ hf_) ?_
                  replace hM : Mem w (W.setCell (⟨q7, (I64 (x6_0 - 1) : Int).toNat, none⟩ : Addr) (.int .u8 (U8 (x0_0)))) [⟨.slice (some ⟨g2, 0, none⟩) ((a1 : Int).toNat) ((a1 : Int).toNat), 5, 1, nums .u8 (x5_0.set (I64 (x6_0 - 1) : Int).toNat (U8 (x0_0)))⟩] := Mem.put_num [] [] (hM.pick [0] rfl rfl) hAq7 _ hl_ _
                  generalize W.setCell (⟨q7, (I64 (x6_0 - 1) : Int).toNat, none⟩ : Addr) (.int .u8 (U8 (x0_0))) = W10 at hM ⊢
                  clear hc_ hf_ hl_ hA_ hcq7
                  refine RunF.go 10 [0, 5, 6] (k' := (pl Go.Proofs.Try.f45 [1, 0, 1, 1, 1])) (L' := [(0, .int .u64 (shr x0_0 8)), (5, .slice (some ⟨g2, 0, none⟩) ((a1 : Int).toNat) ((a1 : Int).toNat)), (6, .int .i64 (I64 (x6_0 - 1)))]) (w' := W10) (by kernel_rfl) ?_
                  exact ih0 k (by omega) (shr x0_0 8) (x5_0.set (I64 (x6_0 - 1) : Int).toNat (U8 (x0_0))) (I64 (x6_0 - 1)) _ (hM.pick [0] rfl rfl) h
                · replace h := of_false h c9
                  cases h
              · replace h := of_false h c8
                cases h
            · replace h := of_false h c6
              refine RunF.know 11 (b := false) (by kernel_rfl) c6 ?_
              refine RunF.go 7 [4] (k' := (pl Go.Proofs.Try.f45 [1, 0, 1, 1, 1, 1, 1])) (L' := [(4, .slice (some ⟨g2, 0, none⟩) ((a1 : Int).toNat) ((a1 : Int).toNat))]) (w' := W) (by kernel_rfl) ?_
              obtain rfl := Option.some.inj h
              exact RunF.ret1 4 (.slice (some ⟨g2, 0, none⟩) ((a1 : Int).toNat) ((a1 : Int).toNat)) (fn := Go.Proofs.Try.f45) Go.Proofs.Try.func45 (by kernel_rfl) (by kernel_rfl) (by kernel_rfl) ⟨_, rfl, (some ⟨g2, 0, none⟩), (a1 : Int).toNat, (a1 : Int).toNat, rfl, (hM.pick [0] rfl rfl)⟩
      exact l0 k (Nat.le_refl _) a0 (List.replicate ((a1 : Int).toNat) (0 : Int)) a1 _ (hM.pick [0] rfl rfl) h
    · replace h := of_false h c4
      cases h
  · replace h := of_false h c3
    cases h

/-! ### scrim/words.PutBe32: function 32 -/
def words_PutBe32.f (k : Nat) (a0 : Int) : Option (List Int) := (words_store.f k (U64 (a0)) 4).bind fun t2 => (some t2)
set_option maxRecDepth 100000 in
theorem words_PutBe32.calls (k : Nat) (a0 : Int) (r : List Int) (w : World) (h : words_PutBe32.f k a0 = some r) :
    Calls Go.Proofs.Try.prog 32 #[.int .u32 a0] w (Ret fun v w' => ∃ A0' n0' c0', v = .slice A0' n0' c0' ∧ Mem w w' [⟨.slice A0' n0' c0', 5, 1, nums .u8 r⟩]) := by
  unfold words_PutBe32.f at h
  refine calls_of [.int .u32 a0] (fn := Go.Proofs.Try.f32) Go.Proofs.Try.func32 (by kernel_rfl) (by kernel_rfl) ?_
  have hM := Mem.refl w
  refine RunF.go 8 [4] (k' := (pin Go.Proofs.Try.f32 [1, 0] 2)) (L' := [(4, .int .u64 (U64 (a0)))]) (w' := w) (by kernel_rfl) ?_
  obtain ⟨t2, ht2, h⟩ := Option.bind_eq_some_iff.mp h
  refine RunF.call (d := some 5) (g := 45) (args := #[.int .u64 (U64 (a0)), .int .i64 4]) (k2 := (pin Go.Proofs.Try.f32 [1, 0] 3)) (by kernel_rfl) (words_store.calls k (U64 (a0)) 4 t2 _ ht2) ?_
  rintro _ W1 ⟨A3, n4, c5, rfl, hM_⟩
  obtain rfl : t2.length = n4 := by have h_ := (hM_.rd 0 rfl).1; simpa [nums_length, bools_length, strs_length] using h_
  replace hM := hM.call hM_
  clear hM_ ht2
  refine RunF.go 2 [2] (k' := (pl Go.Proofs.Try.f32 [1, 1])) (L' := [(2, .slice A3 t2.length c5)]) (w' := W1) (by kernel_rfl) ?_
  obtain rfl := Option.some.inj h
  exact RunF.ret1 2 (.slice A3 t2.length c5) (fn := Go.Proofs.Try.f32) Go.Proofs.Try.func32 (by kernel_rfl) (by kernel_rfl) (by kernel_rfl) ⟨_, rfl, A3, t2.length, c5, rfl, (hM.pick [0] rfl rfl)⟩

/-! ### scrim/words.PutLe32: function 34 -/
def words_PutLe32.f (k : Nat) (a0 : Int) : Option (List Int) := (words_PutBe32.f k a0).bind fun t2 => ((words_turned.f k t2).bind fun t8 => (some t8))
set_option maxRecDepth 100000 in
theorem words_PutLe32.calls (k : Nat) (a0 : Int) (r : List Int) (w : World) (h : words_PutLe32.f k a0 = some r) :
    Calls Go.Proofs.Try.prog 34 #[.int .u32 a0] w (Ret fun v w' => ∃ A0' n0' c0', v = .slice A0' n0' c0' ∧ Mem w w' [⟨.slice A0' n0' c0', 5, 1, nums .u8 r⟩]) := by
  unfold words_PutLe32.f at h
  refine calls_of [.int .u32 a0] (fn := Go.Proofs.Try.f34) Go.Proofs.Try.func34 (by kernel_rfl) (by kernel_rfl) ?_
  have hM := Mem.refl w
  refine RunF.go 7 [3] (k' := (pin Go.Proofs.Try.f34 [1, 0] 1)) (L' := [(3, .int .u32 a0)]) (w' := w) (by kernel_rfl) ?_
  obtain ⟨t2, ht2, h⟩ := Option.bind_eq_some_iff.mp h
  refine RunF.call (d := some 4) (g := 32) (args := #[.int .u32 a0]) (k2 := (pin Go.Proofs.Try.f34 [1, 0] 2)) (by kernel_rfl) (words_PutBe32.calls k a0 t2 _ ht2) ?_
  rintro _ W1 ⟨A3, n4, c5, rfl, hM_⟩
  obtain rfl : t2.length = n4 := by have h_ := (hM_.rd 0 rfl).1; simpa [nums_length, bools_length, strs_length] using h_
  replace hM := hM.call hM_
  clear hM_ ht2
  obtain ⟨t8, ht8, h⟩ := Option.bind_eq_some_iff.mp h
  refine RunF.call (d := some 5) (g := 41) (args := #[.slice A3 t2.length c5]) (k2 := (pin Go.Proofs.Try.f34 [1, 0] 3)) (by kernel_rfl) (words_turned.calls k A3 t2.length c5 t2 t8 _ (hM.rd 0 rfl) ht8) ?_
  rintro _ W7 ⟨A9, n10, c11, rfl, hM_⟩
  obtain rfl : t8.length = n10 := by have h_ := (hM_.rd 0 rfl).1; simpa [nums_length, bools_length, strs_length] using h_
  replace hM := hM.call hM_
  clear hM_ ht8
  refine RunF.go 2 [2] (k' := (pl Go.Proofs.Try.f34 [1, 1])) (L' := [(2, .slice A9 t8.length c11)]) (w' := W7) (by kernel_rfl) ?_
  obtain rfl := Option.some.inj h
  exact RunF.ret1 2 (.slice A9 t8.length c11) (fn := Go.Proofs.Try.f34) Go.Proofs.Try.func34 (by kernel_rfl) (by kernel_rfl) (by kernel_rfl) ⟨_, rfl, A9, t8.length, c11, rfl, (hM.pick [0] rfl rfl)⟩


end Go.Scr.S
